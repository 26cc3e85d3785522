/- The law RecordOneWay returns true. -/
import Derived.Test.YtlbgmoijepknbaaCompo
import Derived.Test.YtlbgmoijepknbaaOneQ
namespace Go.Proofs.Ytlbgmoijepknbaa
open Go.RowKit
set_option linter.unusedVariables false

theorem encV_none (f : Bool) (l : List ByteArray) (o : Option Int) (h : encV f l o = none) : 2 < l.length ∨ (∃ s, l = [s] ∧ 16 < s.size) ∨ (∃ s t, l = [s, t] ∧ 16 < s.size) ∨ (∃ s t, l = [s, t] ∧ s.size ≤ 16 ∧ 16 < t.size) := by
  unfold encV encSI encS at h
  split at h
  · rename_i hn
    rcases hn with hn | hn
    · exact .inl hn
    · match l, hn with
      | [], hn => simp at hn
      | [s], hn => right; left; exact ⟨s, rfl, by simpa using hn⟩
      | [s, t], hn =>
        right; right
        by_cases hs : s.size ≤ 16
        · right; exact ⟨s, t, rfl, hs, by simpa [hs] using hn⟩
        · left; exact ⟨s, t, rfl, by omega⟩
      | s :: t :: u :: r, _ => left; simp
  · cases h

set_option maxRecDepth 100000 in
set_option maxHeartbeats 8000000 in
theorem law_RecordOneWay (w : World) (f has : Bool) (n : Int) (hn : -9223372036854775808 ≤ n ∧ n < 9223372036854775808) (A : Option Addr) (m c : Nat) (l : List ByteArray) (hl : l.length = m) (hA : RdV w A (strVals l)) (hmc : m ≤ c) (hcm : c ≤ 9223372036854775807)
    (spoil v : Int) (hsp : 0 ≤ spoil ∧ spoil ≤ 65535) (hv : 0 ≤ v ∧ v < 18446744073709551616) :
    Calls Try.prog 3 #[.agg #[.bool f, .slice A m c, .bool has, .int .i64 n], .int .u16 spoil, .int .u64 v] w fun e w' => e = .returned (.bool true) ∧ Below w.heap.size w w' := by
  have HA := Lib.hid hA
  have HL := Lib.hid hl
  have HNn := Lib.hid hn
  have HV := Lib.hid hv
  obtain ⟨sp, rfl⟩ := Int.eq_ofNat_of_zero_le hsp.1
  have hsp2 : sp ≤ 65535 := by omega
  clear hA hl hn hv hsp
  have hmk := fun W => run_make_z (P := Try.prog) 31 26 .u64 .i64 .i64 10 10 (by omega) Try.underlying31 8 info_u64 (by omega) (by omega) W
  go_enter Try.func3, Try.ntmps3
  go_upto_if 18 with (go_at_call 12; refine (awake_any _).mono ?_; rintro e w' ⟨rfl, hb⟩; obtain ⟨x, rfl⟩ := bx_of hb; clear hb)
  have hC0 : CB x.w w.heap.size 24 #[.bool f, .slice A m c, .bool has, .int .i64 n] := (CB.new w _ _).bx x
  have hx0 := hC0.lt
  have HC0 := Lib.hid hC0
  have c01 : x.w.cell? ⟨w.heap.size, 1, none⟩ = some (.slice A m c) := hC0.cell 1
  have f01 := hC0.frozen 1
  clear hC0
  go_cut [] from 15 (fun wx => CB wx w.heap.size 24 #[.bool f, .slice A (min m 4) c, .bool has, .int .i64 n] ∧ Below w.heap.size w wx)
  case first =>
    by_cases h4 : 4 < m
    · have h4' : (4 : Int) < (m : Int) := by omega
      have h4c : 4 ≤ c := by omega
      go_wp2
      go_meet
      case rel => exact ⟨by rw [show min m 4 = 4 by omega]; exact HC0.out.set 1 (.slice A 4 c), bl_set (bl_bx (bl_alloc (Below.refl _ _) _) x) (Nat.le_refl _) _⟩
    · have h4' : ¬ (4 : Int) < (m : Int) := by omega
      go_wp2
      go_meet
      case rel => exact ⟨by rw [show min m 4 = m by omega]; exact HC0.out, (by repeat (first | with_reducible exact Below.refl _ _ | with_reducible refine bl_alloc ?_ _ | with_reducible refine bl_drew ?_ | with_reducible refine bl_drewN ?_ _ | with_reducible refine bl_bx ?_ _ | with_reducible exact BX.below _ | with_reducible refine bl_set ?_ (by first | (exact Nat.le_refl _) | (simp; done) | (simp; omega)) _ | assumption))⟩
  case rest =>
    obtain ⟨hC, hB⟩ := hcut
    have hx1 := hC.lt
    have c02 : wc.cell? ⟨w.heap.size, 2, none⟩ = some (.bool has) := hC.cell 2
    have c03 : wc.cell? ⟨w.heap.size, 3, none⟩ = some (.int .i64 n) := hC.cell 3
    have f03 := hC.frozen 3
    have HC := Lib.hid hC
    have HB := Lib.hid hB
    clear hC hB HC0 c01 f01 hx0
    generalize hm4 : min m 4 = m4 at *
    go_upto_if 25 with (fail)
    go_cut [] from 15 (fun wx => CB wx w.heap.size 24 #[.bool f, .slice A m4 c, .bool has, .int .i64 (if has then n else 0)] ∧ Below w.heap.size w wx)
    case first =>
      cases has
      · go_wp2
        go_meet
        case rel => exact ⟨HC.out.set 3 (.int .i64 0), bl_set HB.out (Nat.le_refl _) _⟩
      · go_wp2
        go_meet
        case rel => exact ⟨HC.out, HB.out⟩
    case rest =>
      obtain ⟨hC, hB⟩ := hcut
      obtain ⟨n', hn'⟩ : ∃ n', (if has then n else 0) = n' := ⟨_, rfl⟩
      have HN' : Hid ((-9223372036854775808 ≤ n' ∧ n' < 9223372036854775808) ∧ (has = false → n' = 0)) := by
        show _ ∧ _
        have := HNn.out
        cases has <;> simp at hn' <;> subst hn' <;> simp <;> omega
      rw [hn'] at hC
      clear hn' c02 c03 f03 hx1 HC HB
      have hs0 := hC.lt
      have c00 : wc.cell? ⟨w.heap.size, 0, none⟩ = some (.bool f) := hC.cell 0
      have c01 : wc.cell? ⟨w.heap.size, 1, none⟩ = some (.slice A m4 c) := hC.cell 1
      have c02 : wc.cell? ⟨w.heap.size, 2, none⟩ = some (.bool has) := hC.cell 2
      have c03 : wc.cell? ⟨w.heap.size, 3, none⟩ = some (.int .i64 n') := hC.cell 3
      have HB := Lib.hid hB
      have HC := Lib.hid hC
      have hA4 : RdV wc A (strVals (l.take 4)) := by rw [← take4_all]; exact (HA.out.below hB).take 4
      have HA0 : Hid (RdV w A (strVals (l.take 4))) := by show RdV _ _ _; rw [← take4_all]; exact HA.out.take 4
      have hl4 : (l.take 4).length = m4 := by rw [List.length_take, HL.out, ← hm4, Nat.min_comm]
      have HA4 := Lib.hid hA4
      have HL4 := Lib.hid hl4
      have hm4' : m4 ≤ 4 := by omega
      clear hA4 hl4 hB hC hm4
      clear HA HL
      generalize l.take 4 = l4 at *
      obtain ⟨o, ho⟩ : ∃ o, numO has n' = o := ⟨_, rfl⟩
      have HO := Lib.hid ho
      have HOb : Hid (∀ k, o = some k → -9223372036854775808 ≤ k ∧ k < 9223372036854775808) := by
        show ∀ k, _ → _
        intro k hk
        rw [hk] at ho
        cases has
        · cases ho
        · injection ho with ho; subst ho; exact HN'.out.1
      have HOs : Hid (o.isSome = has ∧ o.getD 0 = n') := by
        show _ ∧ _
        subst ho
        cases has
        · exact ⟨rfl, (HN'.out.2 rfl).symm⟩
        · exact ⟨rfl, rfl⟩
      clear ho
      go_wp2_with fail
      refine (codec11 _).mono ?_
      rintro e w' ⟨rfl, rfl⟩
      go_wp2
      have hC1 := HC.out.alloc (.cells (ia .u64 [0, 0, 0, 0, 0, 0, 0, 0, 0, 0]) 26)
      have hI1 := IB.new (k := .u64) (e := 26) wc [0, 0, 0, 0, 0, 0, 0, 0, 0, 0]
      have hB1 := bl_alloc HB.out (.cells (ia .u64 [0, 0, 0, 0, 0, 0, 0, 0, 0, 0]) 26)
      have hA1 := HA4.out.alloc (.cells (ia .u64 [0, 0, 0, 0, 0, 0, 0, 0, 0, 0]) 26)
      generalize wc.alloc (.cells (ia .u64 [0, 0, 0, 0, 0, 0, 0, 0, 0, 0]) 26) = W1 at *
      have hs1 := hC1.lt
      have hg1 := hI1.lt
      have d00 : W1.cell? ⟨w.heap.size, 0, none⟩ = some (.bool f) := hC1.cell 0
      have d01 : W1.cell? ⟨w.heap.size, 1, none⟩ = some (.slice A m4 c) := hC1.cell 1
      have d02 : W1.cell? ⟨w.heap.size, 2, none⟩ = some (.bool has) := hC1.cell 2
      have d03 : W1.cell? ⟨w.heap.size, 3, none⟩ = some (.int .i64 n') := hC1.cell 3
      have HC1 := Lib.hid hC1
      have HI1 := Lib.hid hI1
      have HB1 := Lib.hid hB1
      have HA1 := Lib.hid hA1
      clear hC1 hI1 hB1 hA1 c00 c01 c02 c03 HC HA4
      refine ord_reads [] [.p [0, 3, 4, 5, 6], .q [1], .h [2, 7, 8]] (by kernel_rfl) (fun _ _ d _ _ h => by cases d <;> exact h) (by kernel_rfl) ?_
      dsimp only [pick, List.filterMap, List.getElem?_cons_zero, List.getElem?_cons_succ]
      refine wpQuiet_nil ?_
      rintro _ ⟨nq, rfl⟩
      with_reducible refine part_pure ?_
      dsimp only [pick, List.filterMap, List.getElem?_cons_zero, List.getElem?_cons_succ]
      (repeat (first | (refine pure_ex rfl ?_; apply Exists.intro; apply And.intro; (intro w; go_simp; rfl); simp only [Act.put, List.setIfInBounds_toArray, List.set_cons_succ, List.set_cons_zero]) | (refine pure_skip rfl ?_; simp only [Act.put, List.setIfInBounds_toArray, List.set_cons_succ, List.set_cons_zero]))); refine pure_nil ?_
      with_reducible refine part_reads ?_
      dsimp only [pick, List.filterMap, List.getElem?_cons_zero, List.getElem?_cons_succ]
      (repeat (go_big_quiet_step (fail))); refine wpQuiet_nil ?_
      rintro _ ⟨nq2, rfl⟩
      with_reducible refine part_hard ?_
      dsimp only [pick, List.filterMap, List.getElem?_cons_zero, List.getElem?_cons_succ]
      go_wp2_with fail
      refine (value11 _ f has A m4 c l4 HL4.out (HA1.out.drewN _) n' (by omega)).mono ?_
      rw [HO.out]
      rintro e w5 ⟨hb5, A5, c5, p5, rfl, hA5, hp5⟩
      obtain ⟨x5, rfl⟩ := bx_of hb5
      have HA5 := Lib.hid hA5
      have HP5 := Lib.hid hp5
      have HB5 := Lib.hid (bl_bx (bl_drewN HB1.out (nq + nq2)) x5)
      have HI5 := Lib.hid ((HI1.out.drewN (nq + nq2)).bx x5)
      have HC5 := Lib.hid ((HC1.out.drewN (nq + nq2)).bx x5)
      have HA5' := Lib.hid ((HA1.out.drewN (nq + nq2)).bx x5)
      have hs5 := HC5.out.lt
      clear hb5 hA5 hp5
      go_wp2_with fail
      refine (pairBEncode _ f A5 c5 l4 l4.length rfl HA5.out p5 o HP5.out wc.heap.size 0 10 [0, 0, 0, 0, 0, 0, 0, 0, 0, 0] HI5.out (by simp)).mono ?_
      cases hE : encV f l4 o with
      | none =>
        rintro e w6 ⟨rfl, hb6⟩
        obtain ⟨x6, rfl⟩ := bx_of hb6
        clear hb6
        have hC6 := HC5.out.bx x6
        have e01 : x6.w.cell? ⟨w.heap.size, 1, none⟩ = some (.slice A m4 c) := hC6.cell 1
        have hA6 := HA5'.out.bx x6
        have HB6 := Lib.hid (bl_bx HB5.out x6)
        have hcs := encV_none f l4 o hE
        clear hE hC6
        rcases hcs with h | ⟨s, rfl, h⟩ | ⟨s, t, rfl, h⟩ | ⟨s, t, rfl, hs', h⟩
        · have hm : (2 : Int) < (m4 : Int) := by have := HL4.out; omega
          go_wp2
          with_reducible refine segs_end ?_
          with_reducible refine part_nil ?_
          go_wp2
          go_ret
          exact ⟨rfl, HB6.out⟩
        · obtain rfl : m4 = 1 := by have := HL4.out; simpa using this.symm
          obtain ⟨b, off, rfl, hlt, hc⟩ := hA6.at_ (i := 0) (by simp [strVals])
          have hc' : x6.w.cell? ⟨b, off, none⟩ = some (.string s) := hc
          have h' : (16 : Int) < (s.size : Int) := by omega
          clear hc hA6
          go_wp2
          with_reducible refine segs_end ?_
          with_reducible refine part_nil ?_
          go_wp2
          go_ret
          exact ⟨rfl, HB6.out⟩
        · obtain rfl : m4 = 2 := by have := HL4.out; simpa using this.symm
          obtain ⟨b, off, rfl, hlt, hc⟩ := hA6.at_ (i := 0) (by simp [strVals])
          have hc' : x6.w.cell? ⟨b, off, none⟩ = some (.string s) := hc
          have h' : (16 : Int) < (s.size : Int) := by omega
          clear hc hA6
          go_wp2
          with_reducible refine segs_end ?_
          with_reducible refine part_nil ?_
          go_wp2
          go_ret
          exact ⟨rfl, HB6.out⟩
        · obtain rfl : m4 = 2 := by have := HL4.out; simpa using this.symm
          obtain ⟨b, off, rfl, hlt, hc⟩ := hA6.at_ (i := 0) (by simp [strVals])
          obtain ⟨b', off', hbo, _, hd⟩ := hA6.at_ (i := 1) (by simp [strVals])
          injection hbo with hbo
          injection hbo with hbo hbo'
          subst hbo hbo'
          have hc' : x6.w.cell? ⟨b, off, none⟩ = some (.string s) := hc
          have hd' : x6.w.cell? ⟨b, off + 1, none⟩ = some (.string t) := hd
          have h' : (16 : Int) < (t.size : Int) := by omega
          have h'' : ¬ (16 : Int) < (s.size : Int) := by omega
          clear hc hd hA6
          go_wp2
          with_reducible refine segs_end ?_
          with_reducible refine part_nil ?_
          go_wp2
          go_ret
          exact ⟨rfl, HB6.out⟩
      | some es =>
        have hdv := decV_encV f l4 o HOb.out es hE
        have huv := encV_u64 f l4 o es hE
        rintro e w6 ⟨rfl, hI6, hC6⟩
        have e6 : splice [0, 0, 0, 0, 0, 0, 0, 0, 0, 0] 0 es = es := by simp [splice, hdv.2]
        rw [e6] at hI6
        have HB6 := Lib.hid (bl_ch HB5.out hC6 (fun b hb => by unfold At at hb; omega))
        have hCr := HC5.out.ch hC6 (by unfold At; omega)
        have HA6 : Hid (RdV w6 A (strVals l4)) := HA0.out.below HB6.out
        have HI6 := Lib.hid hI6
        have HCr := Lib.hid hCr
        have HDV := Lib.hid hdv
        have HUV := Lib.hid huv
        have hg6 := hI6.lt
        clear hI6 hC6 e6 hCr hdv huv hE
        go_wp2
        with_reducible refine segs_end ?_
        with_reducible refine part_nil ?_
        go_wp2_with fail
        refine (pairBDecode _ wc.heap.size 0 10 es HDV.out.2 (by omega) HI6.out.rd0 hg6 HUV.out).mono ?_
        rw [HDV.out.1]
        rintro e w7 ⟨hb7, A7, c7, p7, rfl, hA7, hp7, _, _⟩
        obtain ⟨x7, rfl⟩ := bx_of hb7
        clear hb7
        rw [HL4.out]
        have HA7 := Lib.hid (hA7.alloc (.cells #[.bool f, .slice A7 m4 c7, .pointer p7] 37))
        have HP7 := Lib.hid (hp7.below (bl_alloc (Below.refl _ _) (.cells #[.bool f, .slice A7 m4 c7, .pointer p7] 37)))
        have hC7 := (HCr.out.bx x7).alloc (.cells #[.bool f, .slice A7 m4 c7, .pointer p7] 37)
        have hD7 := CB.new x7.w 37 #[.bool f, .slice A7 m4 c7, .pointer p7]
        have HI7 := Lib.hid ((HI6.out.bx x7).alloc (.cells #[.bool f, .slice A7 m4 c7, .pointer p7] 37))
        have HB7 := Lib.hid (bl_alloc (bl_bx HB6.out x7) (.cells #[.bool f, .slice A7 m4 c7, .pointer p7] 37))
        clear hA7 hp7
        go_wp2
        generalize x7.w.alloc (.cells #[.bool f, .slice A7 m4 c7, .pointer p7] 37) = W7 at *
        have hs7 := hC7.lt
        have hd7 := hD7.lt
        have k00 : W7.cell? ⟨w.heap.size, 0, none⟩ = some (.bool f) := hC7.cell 0
        have k01 : W7.cell? ⟨w.heap.size, 1, none⟩ = some (.slice A m4 c) := hC7.cell 1
        have k02 : W7.cell? ⟨w.heap.size, 2, none⟩ = some (.bool has) := hC7.cell 2
        have k03 : W7.cell? ⟨w.heap.size, 3, none⟩ = some (.int .i64 n') := hC7.cell 3
        have j00 : W7.cell? ⟨x7.w.heap.size, 0, none⟩ = some (.bool f) := hD7.cell 0
        have j01 : W7.cell? ⟨x7.w.heap.size, 1, none⟩ = some (.slice A7 m4 c7) := hD7.cell 1
        have j02 : W7.cell? ⟨x7.w.heap.size, 2, none⟩ = some (.pointer p7) := hD7.cell 2
        clear hC7 hD7
        have HTo : Hid (∀ q : BX W7, Calls Try.prog 16 #[.agg #[.bool f, .slice A7 m4 c7, .pointer p7]] q.w fun e w' => e = .returned (.agg #[.bool f, .slice A7 m4 c7, .bool has, .int .i64 n']) ∧ Below q.w.heap.size q.w w') := by
          show ∀ q : BX W7, _
          intro q
          have := told11 q.w f A7 m4 c7 p7 o (HP7.out.below q.below)
          rwa [HOs.out.1, HOs.out.2] at this
        have HSa : Hid (∀ q : BX W7, Calls Try.prog 15 #[.agg #[.bool f, .slice A7 m4 c7, .bool has, .int .i64 n'], .agg #[.bool f, .slice A m4 c, .bool has, .int .i64 n']] q.w fun e w' => e = .returned (.bool true) ∧ Below q.w.heap.size q.w w') := by
          show ∀ q : BX W7, _
          intro q
          exact same11_yes q.w f has n' A7 A m4 c7 c l4 HL4.out (HA7.out.bx q) (HA0.out.below (bl_bx HB7.out q)) (by omega)
        refine wp_region_bx (by kernel_rfl) (by kernel_rfl) ?_
        repeat (go_big_quiet_step (first | (go_at_call 16; exact bx_call (HTo.out _)) | (go_at_call 15; exact bx_call (HSa.out _))))
        refine wpQuiet_nil ?_
        rintro _ ⟨y, rfl⟩
        have hjl : sp % 10 < 10 := Nat.mod_lt _ (by omega)
        have hcl : y.w.cell? ⟨wc.heap.size, sp % 10, none⟩ = some (.int .u64 (es[sp % 10]'(by rw [HDV.out.2]; exact hjl))) := (HI7.out.bx y).cell (by rw [HDV.out.2]; exact hjl)
        have hcf : y.w.frozen? ⟨wc.heap.size, sp % 10, none⟩ = false := (HI7.out.bx y).frozen _
        have hcg := (HI7.out.bx y).lt
        clear k00 k01 k02 k03 j00 j01 j02
        go_wp2_with fail
        have hI8 := (HI7.out.bx y).set (sp % 10) v
        have hB8 := bl_set (bl_bx HB7.out y) (p := ⟨wc.heap.size, sp % 10, none⟩) (by show _ ≤ wc.heap.size; omega) (.int .u64 v)
        have hx2 : (es.set (sp % 10) v).length = 10 := by rw [List.length_set, HDV.out.2]
        have hu2 := HUV.out.set (sp % 10) HV.out
        generalize y.w.setCell ⟨wc.heap.size, sp % 10, none⟩ (.int .u64 v) = W8 at *
        generalize es.set (sp % 10) v = xs2 at *
        have HI8 := Lib.hid hI8
        have HB8 := Lib.hid hB8
        have HX2 := Lib.hid hx2
        have HU2 := Lib.hid hu2
        have hg8 := hI8.lt
        clear hI8 hB8 hx2 hu2 hcl hcf hcg
        refine (pairBDecode _ wc.heap.size 0 10 xs2 HX2.out (by omega) HI8.out.rd0 hg8 HU2.out).mono ?_
        cases hD : decV xs2 with
        | none =>
          rintro e w9 ⟨hb9, rfl⟩
          obtain ⟨x9, rfl⟩ := bx_of hb9
          clear hb9 hD
          go_wp2
          go_ret
          exact ⟨rfl, bl_alloc (bl_alloc (bl_bx HB8.out x9) _) _⟩
        | some flo =>
          obtain ⟨f', l', o'⟩ := flo
          have HE2 := Lib.hid (encV_decV xs2 HX2.out HU2.out f' l' o' hD)
          rintro e w9 ⟨hb9, A9, c9, p9, rfl, hA9, hp9, _, _⟩
          obtain ⟨x9, rfl⟩ := bx_of hb9
          clear hb9 hD
          have HA9 := Lib.hid ((hA9.alloc (.cells #[.bool f', .slice A9 l'.length c9, .pointer p9] 37)).alloc (.cells (ia .u64 [0, 0, 0, 0, 0, 0, 0, 0, 0, 0]) 26))
          have HP9 := Lib.hid ((hp9.below (bl_alloc (Below.refl _ _) (.cells #[.bool f', .slice A9 l'.length c9, .pointer p9] 37))).below (bl_alloc (Below.refl _ _) (.cells (ia .u64 [0, 0, 0, 0, 0, 0, 0, 0, 0, 0]) 26)))
          have HI9 := Lib.hid (((HI8.out.bx x9).alloc (.cells #[.bool f', .slice A9 l'.length c9, .pointer p9] 37)).alloc (.cells (ia .u64 [0, 0, 0, 0, 0, 0, 0, 0, 0, 0]) 26))
          have HJ9 := Lib.hid (IB.new_at .u64 26 (x9.w.alloc (.cells #[.bool f', .slice A9 l'.length c9, .pointer p9] 37)) (x9.w.heap.size + 1) [0, 0, 0, 0, 0, 0, 0, 0, 0, 0] (by simp))
          have HB9 := Lib.hid (bl_alloc (bl_alloc (bl_bx HB8.out x9) (.cells #[.bool f', .slice A9 l'.length c9, .pointer p9] 37)) (.cells (ia .u64 [0, 0, 0, 0, 0, 0, 0, 0, 0, 0]) 26))
          have hx9 : wc.heap.size < x9.w.heap.size := x9.lt_size hg8
          clear hA9 hp9
          go_wp2_with fail
          refine (pairBEncode _ f' A9 c9 l' l'.length rfl HA9.out p9 o' HP9.out (x9.w.heap.size + 1) 0 10 [0, 0, 0, 0, 0, 0, 0, 0, 0, 0] (by exact HJ9.out) (by simp)).mono ?_
          rw [HE2.out]
          rintro e w10 ⟨rfl, hI10, hC10⟩
          have e10 : splice [0, 0, 0, 0, 0, 0, 0, 0, 0, 0] 0 xs2 = xs2 := by simp [splice, HX2.out]
          rw [e10] at hI10
          have HI10 := Lib.hid hI10
          have HIt := Lib.hid (HI9.out.ch hC10 (by unfold At; omega))
          have HB10 := Lib.hid (bl_ch HB9.out hC10 (fun b hb => by unfold At at hb; have := HB8.out.size; have := x9.size; omega))
          clear hI10 hC10 e10
          go_wp2_with fail
          refine (equalU_n _ _ _ 10 10 _ _ xs2 xs2 HX2.out HX2.out HI10.out.rd0 HIt.out.rd0 (by omega) (by omega)).mono ?_
          rw [show (xs2 == xs2) = true from by simp]
          rintro e w11 ⟨rfl, n11, rfl⟩
          go_wp2
          go_ret
          exact ⟨rfl, bl_drewN HB10.out _⟩
end Go.Proofs.Ytlbgmoijepknbaa
