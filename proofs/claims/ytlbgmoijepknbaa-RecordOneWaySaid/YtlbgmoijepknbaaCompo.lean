/- The law RecordComposes returns true. -/
import Derived.Test.YtlbgmoijepknbaaDecW
import Derived.Test.YtlbgmoijepknbaaTold
import Derived.Test.YtlbgmoijepknbaaAwake
import Derived.Test.YtlbgmoijepknbaaMin
import Derived.Deep.Cut
import Derived.Test.YtlbgmoijepknbaaBlk
import Derived.Test.YtlbgmoijepknbaaPure
namespace Go.Proofs.Ytlbgmoijepknbaa
open Go.RowKit
set_option linter.unusedVariables false

theorem Rd.bx {k : IntKind} {w : World} {A : Option Addr} {xs : List Int} (h : Rd k w A xs) (x : BX w) : Rd k x.w A xs := h.below x.below
theorem Rd.keepCh {k : IntKind} {w w' : World} {A : Option Addr} {xs : List Int} {S : Nat → Prop} (h : Rd k w A xs) (hc : Ch S w w') (hS : ∀ b, OwnB A b → ¬ S b) : Rd k w' A xs := by
  rcases h with h | ⟨b, off, h1, h2, h3⟩
  · exact .inl h
  · exact .inr ⟨b, off, h1, Nat.lt_of_lt_of_le h2 hc.size, fun i hi => (hc.cells b _ h2 (hS b (by rw [h1]; simp [OwnB]))).trans (h3 i hi)⟩
theorem decW_len {xs : List Int} {f : Bool} {l : List ByteArray} {o : Option Int} (h : decW xs = some (f, l, o)) : l.length ≤ 2 := by
  unfold decW at h
  split at h
  · unfold decV at h
    split at h
    · cases h
    · cases hS : decSI (xs.drop 1) with
      | none => rw [hS] at h; cases h
      | some lo =>
        rw [hS] at h
        simp only [Option.some.injEq, Prod.mk.injEq] at h
        obtain ⟨_, h1, _⟩ := h
        unfold decSI at hS
        split at hS
        · rename_i l1 o1 hs1 _
          injection hS with hS
          subst hS
          simp only at h1
          subst h1
          unfold decS at hs1
          split at hs1
          · cases hs1
          · split at hs1
            · cases hs1
            · have := namesDec_length hs1
              omega
        · cases hS
  · cases h
theorem take4_all (l : List ByteArray) : (strVals l).take 4 = strVals (l.take 4) := by simp [strVals]

set_option maxRecDepth 100000 in
set_option maxHeartbeats 8000000 in
theorem law_RecordComposes (w : World) (f has : Bool) (n : Int) (A : Option Addr) (m c : Nat) (l : List ByteArray) (hl : l.length = m) (hA : RdV w A (strVals l)) (hmc : m ≤ c) (hcm : c ≤ 9223372036854775807)
    (B : Option Addr) (n2 c2 : Nat) (hc2 : n2 ≤ c2) (hm2 : c2 ≤ 9223372036854775807) (m2 : Nat) (hm2' : imin (n2 : Int) 11 = (m2 : Int)) (hm2c : m2 ≤ c2) (xs : List Int) (hx : xs.length = m2) (hR : Rd .u64 w B xs) (hw : U64s xs) :
    Calls Try.prog 9 #[.agg #[.bool f, .slice A m c, .bool has, .int .i64 n], .slice B n2 c2] w fun e w' => e = .returned (.bool true) ∧ Below w.heap.size w w' := by
  have HA := Lib.hid hA
  have HL := Lib.hid hl
  have HX := Lib.hid hx
  have HR := Lib.hid hR
  have HW := Lib.hid hw
  clear hA hl hx hR hw
  go_enter Try.func9, Try.ntmps9
  go_upto_if 18 with (go_at_call 12; refine (awake_any _).mono ?_; rintro e w' ⟨rfl, hb⟩; obtain ⟨x, rfl⟩ := bx_of hb; clear hb)
  have hC0 : CB x.w w.heap.size 24 #[.bool f, .slice A m c, .bool has, .int .i64 n] := (CB.new w _ _).bx x
  have hx0 := hC0.lt
  have HC0 := Lib.hid hC0
  have c01 : x.w.cell? ⟨w.heap.size, 1, none⟩ = some (.slice A m c) := hC0.cell 1
  have f01 := hC0.frozen 1
  clear hC0
  go_cut [] from 15 (fun wx => CB wx w.heap.size 24 #[.bool f, .slice A (min m 4) c, .bool has, .int .i64 n] ∧ Below w.heap.size w wx)
  case first =>
    by_cases h4 : 4 < m
    · have h4' : (4 : Int) < (m : Int) := by omega
      have h4c : 4 ≤ c := by omega
      go_wp2
      go_meet
      case rel => exact ⟨by rw [show min m 4 = 4 by omega]; exact HC0.out.set 1 (.slice A 4 c), bl_set (bl_bx (bl_alloc (Below.refl _ _) _) x) (Nat.le_refl _) _⟩
    · have h4' : ¬ (4 : Int) < (m : Int) := by omega
      go_wp2
      go_meet
      case rel => exact ⟨by rw [show min m 4 = m by omega]; exact HC0.out, (by repeat (first | with_reducible exact Below.refl _ _ | with_reducible refine bl_alloc ?_ _ | with_reducible refine bl_drew ?_ | with_reducible refine bl_drewN ?_ _ | with_reducible refine bl_bx ?_ _ | with_reducible exact BX.below _ | with_reducible refine bl_set ?_ (by first | (exact Nat.le_refl _) | (simp; done) | (simp; omega)) _ | assumption))⟩
  case rest =>
    obtain ⟨hC, hB⟩ := hcut
    have hx1 := hC.lt
    have c02 : wc.cell? ⟨w.heap.size, 2, none⟩ = some (.bool has) := hC.cell 2
    have c03 : wc.cell? ⟨w.heap.size, 3, none⟩ = some (.int .i64 n) := hC.cell 3
    have f03 := hC.frozen 3
    have HC := Lib.hid hC
    have HB := Lib.hid hB
    clear hC hB HC0 c01 f01 hx0
    generalize hm4 : min m 4 = m4 at *
    go_upto_if 25 with (fail)
    go_cut [] from 15 (fun wx => CB wx w.heap.size 24 #[.bool f, .slice A m4 c, .bool has, .int .i64 (if has then n else 0)] ∧ Below w.heap.size w wx)
    case first =>
      cases has
      · go_wp2
        go_meet
        case rel => exact ⟨HC.out.set 3 (.int .i64 0), bl_set HB.out (Nat.le_refl _) _⟩
      · go_wp2
        go_meet
        case rel => exact ⟨HC.out, HB.out⟩
    case rest =>
      obtain ⟨hC, hB⟩ := hcut
      obtain ⟨n', hn'⟩ : ∃ n', (if has then n else 0) = n' := ⟨_, rfl⟩
      rw [hn'] at hC
      clear hn' c02 c03 f03 hx1 HC HB
      have hs0 := hC.lt
      have c00 : wc.cell? ⟨w.heap.size, 0, none⟩ = some (.bool f) := hC.cell 0
      have c01 : wc.cell? ⟨w.heap.size, 1, none⟩ = some (.slice A m4 c) := hC.cell 1
      have c02 : wc.cell? ⟨w.heap.size, 2, none⟩ = some (.bool has) := hC.cell 2
      have c03 : wc.cell? ⟨w.heap.size, 3, none⟩ = some (.int .i64 n') := hC.cell 3
      have HB := Lib.hid hB
      have HC := Lib.hid hC
      have hA4 : RdV wc A (strVals (l.take 4)) := by rw [← take4_all]; exact (HA.out.below hB).take 4
      have hl4 : (l.take 4).length = m4 := by rw [List.length_take, HL.out, ← hm4, Nat.min_comm]
      have HA4 := Lib.hid hA4
      have HL4 := Lib.hid hl4
      have hm4' : m4 ≤ 4 := by omega
      clear hA4 hl4 hB hC hm4
      generalize l.take 4 = l4 at *
      go_wp2_with fail
      refine (codec11 _).mono ?_
      rintro e w' ⟨rfl, rfl⟩
      go_wp2_with fail
      refine (blank_any _ 10 (by omega)).mono ?_
      rintro e w3 ⟨rfl, hI3, hb3⟩
      obtain ⟨x3, rfl⟩ := bx_of hb3
      have HI3 := Lib.hid hI3
      have hg3 := hI3.lt
      have hs3 : w.heap.size < x3.w.heap.size := x3.lt_size hs0
      have d00 : x3.w.cell? ⟨w.heap.size, 0, none⟩ = some (.bool f) := (x3.cell _ _ hs0).trans c00
      have d01 : x3.w.cell? ⟨w.heap.size, 1, none⟩ = some (.slice A m4 c) := (x3.cell _ _ hs0).trans c01
      have d02 : x3.w.cell? ⟨w.heap.size, 2, none⟩ = some (.bool has) := (x3.cell _ _ hs0).trans c02
      have d03 : x3.w.cell? ⟨w.heap.size, 3, none⟩ = some (.int .i64 n') := (x3.cell _ _ hs0).trans c03
      clear hb3 hI3 c00 c01 c02 c03
      obtain ⟨o, ho⟩ : ∃ o, numO has n' = o := ⟨_, rfl⟩
      have HO := Lib.hid ho
      clear ho
      go_upto_region 9 with (fail)
      go_cut [7, 8] from 29 (fun s7 s8 wx => (∃ x : BX x3.w, wx = x.w) ∧ ((encV f l4 o = none ∧ s7 = .slice none 0 0 ∧ s8 = .bool false) ∨ (∃ es A' c', encV f l4 o = some es ∧ s7 = .slice A' 10 c' ∧ s8 = .bool true ∧ Rd .u64 wx A' es ∧ es.length = 10 ∧ (∀ b, OwnB A' b → x3.w.heap.size ≤ b))))
      case first =>
        go_wp2_with fail
        refine (refEncode11 _ f has n' A m4 c l4 HL4.out (HA4.out.bx x3) (by omega)).mono ?_
        rw [HO.out]
        cases hE : encV f l4 o with
        | none =>
          rintro e w4 ⟨hb4, rfl⟩
          obtain ⟨x4, rfl⟩ := bx_of hb4
          clear hb4
          have HE := Lib.hid hE
          clear hE
          go_wp2
          go_meet
          case rel => exact ⟨⟨x4, rfl⟩, .inl ⟨HE.out, rfl, rfl⟩⟩
        | some es =>
          rintro e w4 ⟨hb4, A4, c4, rfl, hR4, hl4, hf4⟩
          obtain ⟨x4, rfl⟩ := bx_of hb4
          clear hb4
          have HE := Lib.hid hE
          have HR4 := Lib.hid hR4
          have HL5 := Lib.hid hl4
          have HF4 := Lib.hid hf4
          clear hE hR4 hl4 hf4
          go_wp2
          go_meet
          case rel => exact ⟨⟨x4, rfl⟩, .inr ⟨es, A4, c4, HE.out, rfl, rfl, HR4.out, HL5.out, HF4.out⟩⟩
      case rest =>
        obtain ⟨⟨x4, rfl⟩, hcases⟩ := hcut
        have HCS := Lib.hid hcases
        clear hcases
        have hs4 : w.heap.size < x4.w.heap.size := x4.lt_size hs3
        have e00 : x4.w.cell? ⟨w.heap.size, 0, none⟩ = some (.bool f) := (x4.cell _ _ hs3).trans d00
        have e01 : x4.w.cell? ⟨w.heap.size, 1, none⟩ = some (.slice A m4 c) := (x4.cell _ _ hs3).trans d01
        have e02 : x4.w.cell? ⟨w.heap.size, 2, none⟩ = some (.bool has) := (x4.cell _ _ hs3).trans d02
        have e03 : x4.w.cell? ⟨w.heap.size, 3, none⟩ = some (.int .i64 n') := (x4.cell _ _ hs3).trans d03
        have HB4 := Lib.hid (bl_bx (bl_bx HB.out x3) x4)
        clear d00 d01 d02 d03
        go_upto_region 10 with (fail)
        go_cut [62] from 34 (fun s wx => s = .bool false ∧ Below w.heap.size w wx)
        case first =>
          rcases HCS.out with ⟨hE, rfl, rfl⟩ | ⟨es, A4, c4, hE, rfl, rfl, hR4, hl4, hf4⟩
          · have HE := Lib.hid hE
            clear hE
            refine ord_reads [] [.p [0, 3, 4, 5, 6, 8], .q [1], .h [2, 7, 9, 10, 11, 12], .q [13, 14], .h [15, 16, 17, 18, 19, 20, 21, 22], .p [23], .h [24, 25, 26, 27, 28]] (by kernel_rfl) (fun _ _ d _ _ h => by cases d <;> exact h) (by kernel_rfl) ?_
            dsimp only [pick, List.filterMap, List.getElem?_cons_zero, List.getElem?_cons_succ]
            refine wpQuiet_nil ?_
            rintro _ ⟨nq, rfl⟩
            with_reducible refine part_pure ?_
            dsimp only [pick, List.filterMap, List.getElem?_cons_zero, List.getElem?_cons_succ]
            (repeat (first | (refine pure_ex rfl ?_; apply Exists.intro; apply And.intro; (intro w; go_simp; rfl); simp only [Act.put, List.setIfInBounds_toArray, List.set_cons_succ, List.set_cons_zero]) | (refine pure_skip rfl ?_; simp only [Act.put, List.setIfInBounds_toArray, List.set_cons_succ, List.set_cons_zero]))); refine pure_nil ?_
            with_reducible refine part_reads ?_
            dsimp only [pick, List.filterMap, List.getElem?_cons_zero, List.getElem?_cons_succ]
            (repeat (go_big_quiet_step (fail))); refine wpQuiet_nil ?_
            rintro _ ⟨nq2, rfl⟩
            with_reducible refine part_hard ?_
            dsimp only [pick, List.filterMap, List.getElem?_cons_zero, List.getElem?_cons_succ]
            go_wp2_with fail
            refine (value11 _ f has A m4 c l4 HL4.out (((HA4.out.bx x3).bx x4).drewN _) n' (by omega)).mono ?_
            rw [HO.out]
            rintro e w5 ⟨hb5, A5, c5, p5, rfl, hA5, hp5⟩
            obtain ⟨x5, rfl⟩ := bx_of hb5
            have HA5 := Lib.hid hA5
            have HP5 := Lib.hid hp5
            have HB5 := Lib.hid (bl_bx (bl_drewN HB4.out (nq + nq2)) x5)
            have HI5 := Lib.hid (((HI3.out.bx x4).drewN (nq + nq2)).bx x5)
            clear hb5 hA5 hp5
            go_wp2_with fail
            refine (pairBEncode _ f A5 c5 l4 l4.length rfl HA5.out p5 o HP5.out (wc.heap.size + 1) 0 10 (List.replicate 10 7) HI5.out (by simp)).mono ?_
            rw [HE.out]
            rintro e w6 ⟨rfl, hb6⟩
            obtain ⟨x6, rfl⟩ := bx_of hb6
            clear hb6
            go_wp2
            with_reducible refine segs_end ?_
            with_reducible refine part_reads ?_
            dsimp only [pick, List.filterMap, List.getElem?_cons_zero, List.getElem?_cons_succ]
            (repeat (go_big_quiet_step (fail))); refine wpQuiet_nil ?_
            rintro _ ⟨nq3, rfl⟩
            with_reducible refine part_hard ?_
            dsimp only [pick, List.filterMap, List.getElem?_cons_zero, List.getElem?_cons_succ]
            go_wp2
            with_reducible refine segs_end ?_
            with_reducible refine part_pure ?_
            dsimp only [pick, List.filterMap, List.getElem?_cons_zero, List.getElem?_cons_succ]
            (repeat (first | (refine pure_ex rfl ?_; apply Exists.intro; apply And.intro; (intro w; go_simp; rfl); simp only [Act.put, List.setIfInBounds_toArray, List.set_cons_succ, List.set_cons_zero]) | (refine pure_skip rfl ?_; simp only [Act.put, List.setIfInBounds_toArray, List.set_cons_succ, List.set_cons_zero]))); refine pure_nil ?_
            with_reducible refine part_hard ?_
            dsimp only [pick, List.filterMap, List.getElem?_cons_zero, List.getElem?_cons_succ]
            go_wp2_with fail
            refine (blank_any _ 10 (by omega)).mono ?_
            rintro e w7 ⟨rfl, hI7, hb7⟩
            obtain ⟨x7, rfl⟩ := bx_of hb7
            have HI7 := Lib.hid hI7
            clear hb7 hI7
            go_wp2_with fail
            refine (equalU_n _ _ _ 10 10 _ _ (List.replicate 10 7) (List.replicate 10 7) (by simp) (by simp) (by exact (((HI5.out.bx x6).drewN _).bx x7).rd0) (by exact HI7.out.rd0) (by omega) (by omega)).mono ?_
            rw [show ((List.replicate 10 (7 : Int)) == List.replicate 10 7) = true from by decide]
            rintro e w8 ⟨rfl, n8, rfl⟩
            go_wp2
            with_reducible refine segs_end ?_
            with_reducible refine part_nil ?_
            go_wp2
            go_meet
            case rel => exact ⟨rfl, bl_drewN (bl_bx (bl_drewN (bl_bx HB5.out x6) _) x7) _⟩
          · have HE := Lib.hid hE
            have HR4 := Lib.hid hR4
            have HL5 := Lib.hid hl4
            have HF4 := Lib.hid hf4
            clear hE hR4 hl4 hf4
            refine ord_reads [] [.p [0, 3, 4, 5, 6, 8], .q [1], .h [2, 7, 9, 10, 11, 12], .q [13, 14], .h [15, 16, 17, 18, 19, 20, 21, 22], .p [23], .h [24, 25, 26, 27, 28]] (by kernel_rfl) (fun _ _ d _ _ h => by cases d <;> exact h) (by kernel_rfl) ?_
            dsimp only [pick, List.filterMap, List.getElem?_cons_zero, List.getElem?_cons_succ]
            refine wpQuiet_nil ?_
            rintro _ ⟨nq, rfl⟩
            with_reducible refine part_pure ?_
            dsimp only [pick, List.filterMap, List.getElem?_cons_zero, List.getElem?_cons_succ]
            (repeat (first | (refine pure_ex rfl ?_; apply Exists.intro; apply And.intro; (intro w; go_simp; rfl); simp only [Act.put, List.setIfInBounds_toArray, List.set_cons_succ, List.set_cons_zero]) | (refine pure_skip rfl ?_; simp only [Act.put, List.setIfInBounds_toArray, List.set_cons_succ, List.set_cons_zero]))); refine pure_nil ?_
            with_reducible refine part_reads ?_
            dsimp only [pick, List.filterMap, List.getElem?_cons_zero, List.getElem?_cons_succ]
            (repeat (go_big_quiet_step (fail))); refine wpQuiet_nil ?_
            rintro _ ⟨nq2, rfl⟩
            with_reducible refine part_hard ?_
            dsimp only [pick, List.filterMap, List.getElem?_cons_zero, List.getElem?_cons_succ]
            go_wp2_with fail
            refine (value11 _ f has A m4 c l4 HL4.out (((HA4.out.bx x3).bx x4).drewN _) n' (by omega)).mono ?_
            rw [HO.out]
            rintro e w5 ⟨hb5, A5, c5, p5, rfl, hA5, hp5⟩
            obtain ⟨x5, rfl⟩ := bx_of hb5
            have HA5 := Lib.hid hA5
            have HP5 := Lib.hid hp5
            have HB5 := Lib.hid (bl_bx (bl_drewN HB4.out (nq + nq2)) x5)
            have HI5 := Lib.hid (((HI3.out.bx x4).drewN (nq + nq2)).bx x5)
            clear hb5 hA5 hp5
            go_wp2_with fail
            refine (pairBEncode _ f A5 c5 l4 l4.length rfl HA5.out p5 o HP5.out (wc.heap.size + 1) 0 10 (List.replicate 10 7) HI5.out (by simp)).mono ?_
            rw [HE.out]
            rintro e w6 ⟨rfl, hI6, hC6⟩
            have e6 : splice (List.replicate 10 7) 0 es = es := by simp [splice, HL5.out]
            rw [e6] at hI6
            have hR6 : Rd .u64 w6 A4 es := by
              refine ((HR4.out.drewN (nq + nq2)).bx x5).keepCh hC6 (fun b hb => ?_)
              have h1 := HF4.out b hb
              unfold At
              omega
            have HI6 := Lib.hid hI6
            have HR6 := Lib.hid hR6
            have HB6 := Lib.hid (bl_ch HB5.out hC6 (fun b hb => by unfold At at hb; have := HB.out.size; omega))
            clear hI6 hR6 hC6 e6
            go_wp2
            with_reducible refine segs_end ?_
            with_reducible refine part_reads ?_
            dsimp only [pick, List.filterMap, List.getElem?_cons_zero, List.getElem?_cons_succ]
            (repeat (go_big_quiet_step (fail))); refine wpQuiet_nil ?_
            rintro _ ⟨nq3, rfl⟩
            with_reducible refine part_hard ?_
            dsimp only [pick, List.filterMap, List.getElem?_cons_zero, List.getElem?_cons_succ]
            go_wp2_with fail
            refine (equalU_n _ _ _ 10 10 _ _ es es HL5.out HL5.out (by exact (HI6.out.drewN _).rd0) (by exact HR6.out.drewN _) (by omega) (by omega)).mono ?_
            rw [show (es == es) = true from by simp]
            rintro e w8 ⟨rfl, n8, rfl⟩
            go_wp2
            with_reducible refine segs_end ?_
            with_reducible refine part_pure ?_
            dsimp only [pick, List.filterMap, List.getElem?_cons_zero, List.getElem?_cons_succ]
            (repeat (first | (refine pure_ex rfl ?_; apply Exists.intro; apply And.intro; (intro w; go_simp; rfl); simp only [Act.put, List.setIfInBounds_toArray, List.set_cons_succ, List.set_cons_zero]) | (refine pure_skip rfl ?_; simp only [Act.put, List.setIfInBounds_toArray, List.set_cons_succ, List.set_cons_zero]))); refine pure_nil ?_
            with_reducible refine part_hard ?_
            dsimp only [pick, List.filterMap, List.getElem?_cons_zero, List.getElem?_cons_succ]
            go_wp2
            with_reducible refine segs_end ?_
            with_reducible refine part_nil ?_
            go_wp2
            go_meet
            case rel => exact ⟨rfl, bl_drewN HB6.out _⟩
        case rest =>
          obtain ⟨rfl, hB⟩ := hcut
          clear HCS e00 e01 e02 e03 HB4 hs4 hs3 HI3 hg3
          have HBc := Lib.hid hB
          clear hB
          go_wp2_with fail
          refine (refDecode_any _ B m2 c2 xs HX.out hm2c (HR.out.below HBc.out) HW.out).mono ?_
          cases hD : decW xs with
          | none =>
            have HD := Lib.hid hD
            clear hD
            rintro e w4 ⟨hb4, rfl⟩
            obtain ⟨x4, rfl⟩ := bx_of hb4
            have HB4 := Lib.hid (bl_alloc (bl_bx HBc.out x4) (.cells #[.bool false, .slice none 0 0, .bool false, .int .i64 0] 24))
            clear hb4
            go_wp2_with fail
            refine (pairBDecode_any _ B m2 c2 xs HX.out hm2c (HR.out.below HB4.out) HW.out).mono ?_
            rw [HD.out]
            rintro e w5 ⟨hb5, rfl⟩
            obtain ⟨x5, rfl⟩ := bx_of hb5
            have HB5 := Lib.hid (bl_alloc (bl_bx HB4.out x5) (.cells #[.bool false, .slice none 0 0, .pointer none] 37))
            have hz4 : x4.w.heap.size < x5.w.heap.size := x5.lt_size (by simp)
            have hz4' : x4.w.heap.size < x5.w.heap.size + 1 := by omega
            have hz5 : ¬ x4.w.heap.size = x5.w.heap.size := by omega
            clear hb5
            go_wp2
            refine wp_region_bx (by kernel_rfl) (by kernel_rfl) ?_
            repeat (go_big_quiet_step (first | (go_at_call 16; exact bx_call (told11 _ false none 0 0 none none (.inl ⟨rfl, rfl⟩))) | (go_at_call 15; exact bx_call (same11_yes _ false false 0 none none 0 0 0 [] rfl (.inl rfl) (.inl rfl) (by omega)))))
            refine wpQuiet_nil ?_
            rintro _ ⟨y, rfl⟩
            go_wp2
            go_ret
            exact ⟨rfl, bl_bx HB5.out y⟩
          | some flo =>
            obtain ⟨f', l', o'⟩ := flo
            have HD := Lib.hid hD
            clear hD
            rintro e w4 ⟨hb4, A4, c4, rfl, hA4, _⟩
            obtain ⟨x4, rfl⟩ := bx_of hb4
            have HA4' := Lib.hid hA4
            have HB4 := Lib.hid (bl_alloc (bl_bx HBc.out x4) (.cells #[.bool f', .slice A4 l'.length c4, .bool o'.isSome, .int .i64 (o'.getD 0)] 24))
            have hll : l'.length ≤ 2 := decW_len HD.out
            clear hb4 hA4
            go_wp2_with fail
            refine (pairBDecode_any _ B m2 c2 xs HX.out hm2c (HR.out.below HB4.out) HW.out).mono ?_
            rw [HD.out]
            rintro e w5 ⟨hb5, A5, c5, p5, rfl, hA5, hp5, _, _⟩
            obtain ⟨x5, rfl⟩ := bx_of hb5
            have HA5 := Lib.hid hA5
            have HP5 := Lib.hid hp5
            have HB5 := Lib.hid (bl_alloc (bl_bx HB4.out x5) (.cells #[.bool f', .slice A5 l'.length c5, .pointer p5] 37))
            have hz4 : x4.w.heap.size < x5.w.heap.size := x5.lt_size (by simp)
            have hz4' : x4.w.heap.size < x5.w.heap.size + 1 := by omega
            have hz5 : ¬ x4.w.heap.size = x5.w.heap.size := by omega
            clear hb5 hA5 hp5
            go_wp2
            refine wp_region_bx (by kernel_rfl) (by kernel_rfl) ?_
            repeat (go_big_quiet_step (first | (go_at_call 16; exact bx_call (told11 _ f' A5 l'.length c5 p5 o' ((HP5.out.below (bl_alloc (Below.refl _ _) _)).below (BX.below _)))) | (go_at_call 15; exact bx_call (same11_yes _ f' o'.isSome (o'.getD 0) A5 A4 l'.length c5 c4 l' rfl ((HA5.out.alloc _).bx _) ((((HA4'.out.alloc _).bx x5).alloc _).bx _) (by omega)))))
            refine wpQuiet_nil ?_
            rintro _ ⟨y, rfl⟩
            go_wp2
            go_ret
            exact ⟨rfl, bl_bx HB5.out y⟩
end Go.Proofs.Ytlbgmoijepknbaa
