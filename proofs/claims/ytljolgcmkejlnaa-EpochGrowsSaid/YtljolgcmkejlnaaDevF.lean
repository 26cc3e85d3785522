/- Contract of Flush of a thread. -/
import Derived.Test.YtljolgcmkejlnaaDevG
import Derived.Test.YtljolgcmkejlnaaDevT
import Derived.Test.YtljolgcmkejlnaaTail
namespace Go.Proofs.Ytljolgcmkejlnaa
open Go.RowKit
set_option linter.unusedVariables false

theorem wf_mk (k : IntKind) (n : Int) (h1 : k.min ≤ n) (h2 : n ≤ k.max) : (Lit.int k n).wf = true := by simp [Lit.wf, h1, h2]
theorem wf_wr (n : Int) : (Lit.int .u64 (IntKind.u64.wrap n)).wf = true := wf_mk _ _ (by show (0 : Int) ≤ _; exact (wrap_u64_range n).1) (by show _ ≤ (18446744073709551615 : Int); have := (wrap_u64_range n).2; omega)
theorem NMap.note {w w' : World} {b n : Nat} {nt : Int → Option Int} (q : Nat) (c : Int) (D : DataW Unit) (hM0 : Maps.IsMap D) (hD : ∀ x, (Lit.int .i64 x).wf = true → Maps.has D (.int .i64 x) = (nt x).isSome ∧ ∀ c, nt x = some c → ∀ z, D.atKey (.int .i64 x) z = .lit (.int .u64 c))
    (hq : (Lit.int .i64 (q : Int)).wf = true) (h : w'.ownsMap Try.prog 3 (plainElem Try.prog 25) b (n + 1) (D.put (.int .i64 (q : Int)) (.lit (.int .u64 c)))) :
    NMap w' b (fun x => if x = (q : Int) then some c else nt x) (n + 1) := by
  have hk : WideAt.IsKeyLit (Lit.int .i64 (q : Int)) := by simp [WideAt.IsKeyLit]
  have hM : Maps.IsMap D := hM0
  refine ⟨_, h, fun x hx => ?_⟩
  by_cases hxq : x = (q : Int)
  · subst hxq
    simp only [if_true]
    refine ⟨by rw [Maps.has_put_same hM hk]; rfl, fun c' hc' z => ?_⟩
    injection hc' with hc'
    subst hc'
    exact Maps.atKey_put_same hM hk _ _
  · have hne : (Lit.int .i64 x) ≠ Lit.int .i64 (q : Int) := fun h => hxq (by injection h)
    simp only [hxq, if_false]
    rw [Maps.has_put_other hne]
    exact ⟨(hD x hx).1, fun c' hc' z => by rw [Maps.atKey_put_other hne]; exact (hD x hx).2 c' hc' z⟩

theorem fail_thr (S : DevS) (i : Nat) (e : Int) (j : Nat) : ((S.fail i e).thr j).notes = (S.thr j).notes ∧ ((S.fail i e).thr j).flu = (S.thr j).flu := by
  unfold DevS.fail
  split
  · simp only [DevS.setErr]
    by_cases hj : j = i
    · subst hj; simp
    · simp [hj]
  · exact ⟨rfl, rfl⟩
theorem on_thr (S : DevS) (i : Nat) (b : Bool) (j : Nat) : ((S.on i b).thr j).notes = (S.thr j).notes ∧ ((S.on i b).thr j).flu = (S.thr j).flu := by
  unfold DevS.on
  split
  · exact fail_thr S i 3 j
  · split
    · exact ⟨rfl, rfl⟩
    · exact fail_thr S i 2 j
theorem cnt_thr (S : DevS) (i : Nat) (b : Bool) (j : Nat) : ((S.cnt i b).thr j).notes = (S.thr j).notes ∧ ((S.cnt i b).thr j).flu = (S.thr j).flu := by
  unfold DevS.cnt
  split
  · exact on_thr S i b j
  · split
    · split
      · exact fail_thr { S with off := true } i 3 j
      · exact ⟨rfl, rfl⟩
    · exact ⟨rfl, rfl⟩

section
variable {w w' : World} {d : Nat} {L : Lay} {S : DevS}
/-- The notes of one thread have changed. -/
theorem Dev.setNotes (h : Dev w d L S) {i : Nat} (hi : i < 8) (hb : ∀ b, Fp L b → b ≠ L.m i → w'.heap[b]? = w.heap[b]?) (hs : w.heap.size ≤ w'.heap.size) (nt : Int → Option Int) (fl : Nat)
    (hc : NMap w' (L.m i) nt fl) :
    Dev w' d L { S with thr := fun j => if j = i then { S.thr i with notes := nt, flu := fl } else S.thr j } := by
  have hne : ∀ b, Fp L b → L.role b ≠ 13 + i → w'.heap[b]? = w.heap[b]? := fun b hf hr => hb b hf (by rintro rfl; exact hr (h.rm i hi))
  refine { dev := h.dev.keep (hne d (by unfold Fp; rw [h.rd]; omega) (by rw [h.rd]; omega)), pers := h.pers.keep fun b hb' => ?_, cur := h.cur.keep fun b hb' => ?_, np := h.np, nc := h.nc, nl := h.nl, lf := h.lf, ex := h.ex, lin := ?_, his := fun j hj => (h.his j hj).keep fun b hb' => hne b (by unfold Fp; rw [h.rh j hj b hb']; omega) (by rw [h.rh j hj b hb']; omega), thr := fun j hj => ?_, nts := fun j hj => ?_, rd := h.rd, rp := h.rp, rc := h.rc, rl := h.rl, rt := h.rt, rm := h.rm, rh := h.rh, fr := fun b hb' => Nat.lt_of_lt_of_le (h.fr b hb') hs }
  · have : L.pb = b := by simpa [OwnB] using hb'
    subst this
    exact hne _ (by unfold Fp; rw [h.rp]; omega) (by rw [h.rp]; omega)
  · have : L.cb = b := by simpa [OwnB] using hb'
    subst this
    exact hne _ (by unfold Fp; rw [h.rc]; omega) (by rw [h.rc]; omega)
  · obtain ⟨cs, h1, h2⟩ := h.lin
    exact ⟨cs, h1.keep (hne _ (by unfold Fp; rw [h.rl]; omega) (by rw [h.rl]; omega)), h2⟩
  · have := (h.thr j hj).keep (hne _ (by unfold Fp; rw [h.rt j hj]; omega) (by rw [h.rt j hj]; omega))
    by_cases hji : j = i
    · subst hji; simpa [thrCells] using this
    · simpa [thrCells, hji] using this
  · by_cases hji : j = i
    · subst hji; simpa using hc
    · have := (h.nts j hj).keep (hne _ (by unfold Fp; rw [h.rm j hj]; omega) (by rw [h.rm j hj]; omega))
      simpa [hji] using this
end

set_option maxRecDepth 100000 in
set_option maxHeartbeats 2000000 in
theorem thFlush (w : World) (d : Nat) (L : Lay) (S : DevS) (h : Dev w d L S) (i : Nat) (hi : i < 8) (off : Int) (hoff : 0 ≤ off ∧ off < 18446744073709551616) (hf : (S.thr i).flu < 1000000000) (hh : ∀ l ∈ S.lns, l.hist.length < 1000000) :
    Calls Try.prog 102 #[.pointer (some ⟨L.t i, 0, none⟩), .int .u64 off] w fun e w' => e = .returned (.tuple #[]) ∧ Dev w' d L (S.flush i off) ∧ Ch (Fp L) w w' := by
  have h0 := h.t0 hi
  have hl := h.tlt hi
  have H := Lib.hid h
  obtain ⟨o1, o2⟩ := hoff
  have HH := Lib.hid hh
  clear h hh
  obtain ⟨b, hb⟩ : ∃ b, S.inB off = b := ⟨_, rfl⟩
  have hb' : decide (off < (S.lns.length : Int) * 64) = b := hb
  cases hon : S.cntB b
  · have HE : Hid (S.flush i off = S.cnt i b) := by show _ = _; simp [DevS.flush, hb, hon]
    have HON : Hid (Calls Try.prog 46 #[.pointer (some ⟨L.t i, 0, none⟩), .bool b] w fun e w' => e = .returned (.bool false) ∧ Dev w' d L (S.cnt i b) ∧ Ch (Fp L) w w') := by
      have := thCounted w d L S H.out i hi b
      rwa [hon] at this
    clear hb hon
    go_enter Try.func102, Try.ntmps102
    go_wp2_with (first | (go_at_call 60; refine (devSize _ d L S H.out).mono ?_; rintro e w' ⟨rfl, rfl⟩) | (go_at_call 46; (try rw [hb']); refine HON.out.mono ?_; rintro e w1 ⟨rfl, hD, hC⟩; have HD := Lib.hid hD; have HC := Lib.hid hC; clear hD hC))
    exact bodyPost_ret (v := .tuple #[]) (by simp [results, Try.results102, go_sem]) rfl (by rw [HE.out]; exact ⟨rfl, HD.out, HC.out⟩)
  · obtain rfl := cntB_valid hon
    obtain ⟨hq1, hq2⟩ := inB_true hb o1
    obtain ⟨q, hq⟩ : ∃ q, (off / 64).toNat = q := ⟨_, rfl⟩
    rw [hq] at hq1 hq2
    have HE : Hid (S.flush i off = (S.cnt i true).note i q) := by
      show _ = _
      unfold DevS.flush
      rw [hb, hon, if_pos rfl, hq]
    have HON : Hid (Calls Try.prog 46 #[.pointer (some ⟨L.t i, 0, none⟩), .bool true] w fun e w' => e = .returned (.bool true) ∧ Dev w' d L (S.cnt i true) ∧ Ch (Fp L) w w') := by
      have := thCounted w d L S H.out i hi true
      rwa [hon] at this
    have HLN := Lib.hid (cnt_lns S i true).1
    have HQ := Lib.hid hq2
    have hnl := H.out.nl
    have hq64 : IntKind.i64.wrap (off / 64) = (q : Int) := by rw [hq2]; exact IntWalk.i64_in _ (by omega)
    clear hb hon hq
    go_enter Try.func102, Try.ntmps102
    go_upto_region 3 with (first | (go_at_call 60; refine (devSize _ d L S H.out).mono ?_; rintro e w' ⟨rfl, rfl⟩) | (go_at_call 46; (try rw [hb']); refine HON.out.mono ?_; rintro e w1 ⟨rfl, hD, hC⟩; have k0 := hD.t0 hi; have k1 := hD.tlt hi; have k2 := hD.lt; have k3 := hD.lcell; rw [HLN.out] at k3; have HD := Lib.hid hD; have HC := Lib.hid hC; clear hD hC))
    have hqc : q < (S.cnt i true).lns.length := by rw [HLN.out]; exact hq1
    obtain ⟨cs, hL, hLs, hLc⟩ := HD.out.lin
    obtain ⟨l1, l2⟩ := hLc q hqc
    have hcl := hL.cell_some l1
    have hch := hL.cell_some l2
    rw [show 2 * q = q * 2 by omega] at hcl hch
    have hll := hL.lt
    have h3 := HD.out.t3 hi
    obtain ⟨D, hown, hD2⟩ := HD.out.nts i hi
    have HO := Lib.hid hown
    have HD2 := Lib.hid hD2
    obtain ⟨dn, hdn⟩ : ∃ dn, (S.cnt i true).lns[q].done = dn := ⟨_, rfl⟩
    obtain ⟨hn, hhn⟩ : ∃ hn, (S.cnt i true).lns[q].hist.length = hn := ⟨_, rfl⟩
    obtain ⟨fl, hfl⟩ : ∃ fl, ((S.cnt i true).thr i).flu = fl := ⟨_, rfl⟩
    rw [hdn] at hcl
    rw [hhn] at hch
    rw [hfl] at HO
    have HN := Lib.hid (And.intro hdn (And.intro hhn hfl))
    have hwq : (Lit.int .i64 (q : Int)).wf = true := wf_mk _ _ (by show (-9223372036854775808 : Int) ≤ _; omega) (by show (_ : Int) ≤ 9223372036854775807; omega)
    have hwc : (Lit.int .u64 (IntKind.u64.wrap (dn + (hn : Int)))).wf = true := wf_wr _
    have hfl2 : fl < maxLen := by unfold maxLen; rw [← hfl, (cnt_thr S i true i).2]; omega
    have hun : IntKind.u64.wrap (hn : Int) = (hn : Int) := IntWalk.u64_in _ (by have := HH.out ((S.cnt i true).lns[q]) (by rw [← HLN.out]; exact List.getElem_mem hqc); omega)
    clear hL hLs hLc l1 l2 hown hD2 hdn hhn hfl
    refine wp_region_still_n 16 (by kernel_rfl) (by kernel_rfl) ?_
    simp only [List.take_succ_cons, List.take_zero, List.drop_succ_cons, List.drop_zero]
    repeat (go_big_quiet_step (fail))
    refine wpQuiet_nil ?_
    rintro _ ⟨nq, rfl⟩
    refine wpList_mapUpdate_own _ rfl _ _ _ 100 rfl 3 25 (Maps.int_keyed under_int) under_notes _ (L.m i) fl D rfl HO.out hfl2 _ _ (.int .i64 (q : Int)) rfl rfl (Maps.keyOf_int_mk under_int hwq) _ [] (plainElem_int under_u64 hwc) ?_
    intro w2 hown2 hg2
    have HO2 := Lib.hid hown2
    have HG2 := Lib.hid hg2
    clear hown2 hg2
    go_wp2
    go_end0
    rw [HE.out]
    have hN := NMap.note (w := w1) q _ D HO.out.isMap HD2.out hwq HO2.out
    refine ⟨rfl, ?_, HC.out.trans (T := At (L.m i)) ⟨HG2.out.os, HG2.out.tape, HG2.out.output, HG2.out.size, fun b hb hS => HG2.out.block b hb (fun h => hS (by injection h))⟩ (fun b hb _ => by rw [show b = L.m i from hb]; unfold Fp; rw [HD.out.rm i hi]; omega)⟩
    have hS : (S.cnt i true).note i q = { S.cnt i true with thr := fun j => if j = i then { (S.cnt i true).thr i with notes := (fun x => if x = (q : Int) then some (IntKind.u64.wrap (dn + (hn : Int))) else ((S.cnt i true).thr i).notes x), flu := fl + 1 } else (S.cnt i true).thr j } := by
      unfold DevS.note
      simp only [List.getElem?_eq_getElem hqc, Option.map_some, Option.getD_some]
      rw [HN.out.1, HN.out.2.1, HN.out.2.2]
    rw [hS]
    exact HD.out.setNotes hi (fun b hf hb => HG2.out.block b (HD.out.fr b hf) (fun h => hb (by injection h))) HG2.out.size _ _ hN
end Go.Proofs.Ytljolgcmkejlnaa
