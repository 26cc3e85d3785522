/- The reference's overlay, and the law MemOverlays. -/
import Derived.Test.YtngkhligjkcbmaaKv
import Derived.Test.YtngkhligjkcbmaaKo
import Derived.Test.YtngkhligjkcbmaaKq
import Derived.Test.YtngkhligjkcbmaaKe
import Derived.Deep.CutRange
import Derived.Deep.CutBlock
namespace Go.Proofs.Ytngkhligjkcbmaa
open Go.RowKit
set_option linter.unusedVariables false

/-- What the reference keeps: the stores, the marks, and whether a store was not to a word. -/
structure RfS where
  L : List (Int × Int)
  M : List (Int × Nat)
  bad : Bool
structure RfD (w : World) (r : Nat) (ws : List Int) (wA : Option Addr) (wc : Nat) (lA : Option Addr) (lc : Nat) (mA : Option Addr) (mc : Nat) (R : RfS) : Prop where
  st : CB w r 57 #[.slice wA ws.length wc, .slice lA R.L.length lc, .slice mA R.M.length mc, .bool R.bad]
  wd : Sl 30 1 w wA ws.length wc (uints ws)
  lg : Sl 94 2 w lA R.L.length lc (wcells R.L)
  mks : Sl 64 2 w mA R.M.length mc (mcells R.M)
  ow : ∀ b, OwnB wA b → b ≠ r
  ol : ∀ b, OwnB lA b → b ≠ r
  om : ∀ b, OwnB mA b → b ≠ r ∧ ¬ OwnB lA b ∧ ¬ OwnB wA b
def RfO (X : Nat → Prop) (r : Nat) (ws : List Int) (w : World) (R : RfS) : Prop :=
  (∀ b, w.heap.size ≤ b → X b) ∧ ∃ wA wc lA lc mA mc, RfD w r ws wA wc lA lc mA mc R ∧ X r ∧ (∀ b, OwnB wA b → X b) ∧ (∀ b, OwnB lA b → X b) ∧ ∀ b, OwnB mA b → X b
section
variable {X : Nat → Prop} {r : Nat} {ws : List Int} {w w' : World} {R : RfS} {wA lA mA : Option Addr} {wc lc mc : Nat}
theorem RfD.keep (h : RfD w r ws wA wc lA lc mA mc R) (hb : ∀ b, b = r ∨ OwnB wA b ∨ OwnB lA b ∨ OwnB mA b → w'.heap[b]? = w.heap[b]?) : RfD w' r ws wA wc lA lc mA mc R :=
  ⟨h.st.keep (hb _ (.inl rfl)), h.wd.keep (fun b h => hb _ (.inr (.inl h))), h.lg.keep (fun b h => hb _ (.inr (.inr (.inl h)))), h.mks.keep (fun b h => hb _ (.inr (.inr (.inr h)))), h.ow, h.ol, h.om⟩
theorem RfD.lt (h : RfD w r ws wA wc lA lc mA mc R) {b : Nat} (hb : b = r ∨ OwnB wA b ∨ OwnB lA b ∨ OwnB mA b) : b < w.heap.size := by
  rcases hb with rfl | hb | hb | hb
  · exact h.st.lt
  · exact h.wd.lt hb
  · exact h.lg.lt hb
  · exact h.mks.lt hb
theorem RfO.ch {T : Nat → Prop} (h : RfO X r ws w R) (hc : Ch T w w') (hT : ∀ b, b < w.heap.size → X b → ¬ T b) : RfO X r ws w' R := by
  obtain ⟨h1, wA, wc, lA, lc, mA, mc, h2, f1, f2, f3, f4⟩ := h
  refine ⟨fun b hb => h1 b (Nat.le_trans hc.size hb), wA, wc, lA, lc, mA, mc, h2.keep (fun b hb => ?_), f1, f2, f3, f4⟩
  have hl := h2.lt hb
  refine hc.block b hl (hT b hl ?_)
  rcases hb with rfl | hb | hb | hb
  · exact f1
  · exact f2 b hb
  · exact f3 b hb
  · exact f4 b hb
theorem RfO.below (h : RfO X r ws w R) (hb : Below w.heap.size w w') : RfO X r ws w' R := h.ch (T := fun _ => False) (Ch.of_below hb) (fun _ _ _ hf => hf)
theorem RfO.drewN (h : RfO X r ws w R) (n : Nat) : RfO X r ws (w.drewN n) R := h.below (below_drewN (Below.refl _ _) n)
theorem RfO.less (h : RfO X r ws w R) (hb : Below w.heap.size w w') (Y : Nat → Prop) (hY : ∀ b, Y b → w.heap.size ≤ b ∧ b < w'.heap.size) : RfO (fun b => X b ∧ ¬ Y b) r ws w' R := by
  obtain ⟨h1, wA, wc, lA, lc, mA, mc, h2, f1, f2, f3, f4⟩ := h
  have hn : ∀ b, (b = r ∨ OwnB wA b ∨ OwnB lA b ∨ OwnB mA b) → ¬ Y b := fun b hb hx => by have := h2.lt hb; have := hY b hx; omega
  exact ⟨fun b hb' => ⟨h1 b (by have := hb.size; omega), fun hx => by have := hY b hx; omega⟩, wA, wc, lA, lc, mA, mc, h2.keep (fun b hb' => hb.block b (h2.lt hb')), ⟨f1, hn _ (.inl rfl)⟩, fun b hb' => ⟨f2 b hb', hn _ (.inr (.inl hb'))⟩, fun b hb' => ⟨f3 b hb', hn _ (.inr (.inr (.inl hb')))⟩, fun b hb' => ⟨f4 b hb', hn _ (.inr (.inr (.inr hb')))⟩⟩
end
theorem Sl.wrR {w : World} {A : Option Addr} {m c : Nat} {ws : List (Int × Int)} (h : Sl 94 2 w A m c (wcells ws)) {k : Nat} (hk : k < ws.length) :
    ∃ g off, A = some ⟨g, off, none⟩ ∧ g < w.heap.size ∧ w.cell? ⟨g, off + k * 2, none⟩ = some (.int .u64 ws[k].1) ∧ w.cell? ⟨g, off + k * 2 + 1, none⟩ = some (.int .u64 ws[k].2) := by
  obtain ⟨e1, e2⟩ := wcells_get ws k hk
  rw [show 2 * k = k * 2 by omega] at e1 e2
  obtain ⟨g, off, hA, hl, _⟩ := h.at_ (j := k * 2) (by rw [length_wcells]; omega)
  have c1 := h.cells _ hA _ _ e1
  have c2 := h.cells _ hA _ _ e2
  have h1 : ∀ j, (⟨g, off, none⟩ : Addr).add j = ⟨g, off + j, none⟩ := by intro j; unfold Addr.add; split <;> simp_all
  rw [h1] at c1 c2
  exact ⟨g, off, hA, hl, c1, by rw [Nat.add_assoc]; exact c2⟩
theorem Sl.mkR {w : World} {A : Option Addr} {m c : Nat} {ms : List (Int × Nat)} (h : Sl 64 2 w A m c (mcells ms)) {k : Nat} (hk : k < ms.length) :
    ∃ g off, A = some ⟨g, off, none⟩ ∧ g < w.heap.size ∧ w.cell? ⟨g, off + k * 2, none⟩ = some (.int .i64 ms[k].1) ∧ w.cell? ⟨g, off + k * 2 + 1, none⟩ = some (.int .i64 (ms[k].2 : Int)) := by
  obtain ⟨e1, e2⟩ := mcells_get ms k hk
  obtain ⟨g, off, hA, hl, _⟩ := h.at_ (j := k * 2) (by rw [length_mcells]; omega)
  have c1 := h.cells _ hA _ _ e1
  have c2 := h.cells _ hA _ _ e2
  have h1 : ∀ j, (⟨g, off, none⟩ : Addr).add j = ⟨g, off + j, none⟩ := by intro j; unfold Addr.add; split <;> simp_all
  rw [h1] at c1 c2
  exact ⟨g, off, hA, hl, c1, by rw [Nat.add_assoc]; exact c2⟩
theorem lastV_get (L : List (Int × Int)) (j : Nat) (hj : j < L.length) (x : Int) : lastV (L.take (j + 1)) x = if L[j].1 = x then some L[j].2 else lastV (L.take j) x := by
  rw [List.take_succ_eq_append_getElem hj, lastV_snoc]

set_option maxRecDepth 100000 in
set_option maxHeartbeats 2000000 in
theorem rfLoad {X : Nat → Prop} {r : Nat} {ws : List Int} {R : RfS} (w : World) (h : RfO X r ws w R) (n : Nat) (hn : ws.length = n) (hb : R.L.length < 1000000) (k : Nat) (hk : k < n) (hkb : n ≤ 4096) (v : Int) (hv : ws[k]? = some v) :
    Calls Try.prog 70 #[.pointer (some ⟨r, 0, none⟩), .int .u64 (8 * (k : Int))] w fun e w' => e = .returned (.int .u64 ((lastV R.L (8 * (k : Int))).getD v)) ∧ w = w' := by
  obtain ⟨h1, wA, wc, lA, lc, mA, mc, h2, _⟩ := h
  have k0 : w.cell? ⟨r, 0, none⟩ = some (.slice wA ws.length wc) := h2.st.cell_some rfl
  have k1 : w.cell? ⟨r, 1, none⟩ = some (.slice lA R.L.length lc) := h2.st.cell_some rfl
  have hl := h2.st.lt
  have HLG := Lib.hid h2.lg
  have HWD := Lib.hid h2.wd
  obtain ⟨m, hm⟩ : ∃ m, R.L.length = m := ⟨_, rfl⟩
  have HM := Lib.hid hm
  have HV := Lib.hid hv
  have HN := Lib.hid hn
  rw [hm] at k1 hb
  rw [hn] at k0
  obtain ⟨L, hL⟩ : ∃ L, R.L = L := ⟨_, rfl⟩
  rw [hL] at HLG HM ⊢
  clear h1 h2 hm hv hn hL
  have hw8 : IntKind.u64.wrap (n : Int) = (n : Int) := IntWalk.u64_in _ (by omega)
  go_enter Try.func70, Try.ntmps70
  go_wp2
  go_loopw [5, 4, 12, 13, 14, 15, 16, 17, 18, 19, 20, 21, 22, 23, 24, 25, 26, 27, 28, 29, 30, 31, 32, 33] (fun i _ _ _ _ _ _ _ _ _ _ _ _ _ _ _ _ _ _ _ _ _ _ _ wr => ∃ j : Nat, j ≤ m ∧ i = .int .i64 ((j : Int) - 1) ∧ lastV L (8 * (k : Int)) = lastV (L.take j) (8 * (k : Int)) ∧ wr = w) (fun i _ _ _ _ _ _ _ _ _ _ _ _ _ _ _ _ _ _ _ _ _ _ _ _ => (intOf i + 1).toNat)
  case atStart => exact ⟨m, Nat.le_refl _, rfl, by rw [List.take_of_length_le (by rw [HM.out]; exact Nat.le_refl _)], rfl⟩
  case round =>
    obtain ⟨j, hj, rfl, hla, rfl⟩ := hrel
    have HLA := Lib.hid hla
    clear hla
    cases j with
    | zero =>
      have HZ : Hid (lastV L (8 * (k : Int)) = none) := by
        show _ = _
        rw [HLA.out]; rfl
      obtain ⟨g, off, hA, hg, hc⟩ := HWD.out.at_ (j := k) (by rw [length_uints, HN.out]; exact hk)
      have hcv : (uints ws)[k]'(by rw [length_uints, HN.out]; exact hk) = .int .u64 v := by
        have := HV.out
        obtain ⟨h1, h2⟩ := List.getElem?_eq_some_iff.1 this
        simp [uints, h2]
      rw [hcv] at hc
      subst hA
      have e1 : (8 * (k : Int)).tmod 8 = 0 := by rw [Int.tmod_eq_emod_of_nonneg (by omega)]; omega
      have e2 : (8 * (k : Int)).tdiv 8 = (k : Int) := by rw [Int.tdiv_eq_ediv_of_nonneg (by omega)]; omega
      have e3 : (k : Int) < (n : Int) := by omega
      have e4 : IntKind.u64.wrap (k : Int) = (k : Int) := IntWalk.u64_in _ (by omega)
      clear hcv
      go_wp2
      go_ret
      exact ⟨by rw [HZ.out]; rfl, rfl⟩
    | succ j =>
      have hjl : j < L.length := by rw [HM.out]; omega
      obtain ⟨g, off, hA, hg, c1, c2⟩ := HLG.out.wrR hjl
      have hs := lastV_get L j hjl (8 * (k : Int))
      have hjj : ((j + 1 : Nat) : Int) - 1 = (j : Int) := by omega
      rw [hjj]
      obtain ⟨⟨of, u⟩, hp⟩ : ∃ p, L[j] = p := ⟨_, rfl⟩
      rw [hp] at c1 c2 hs
      subst hA
      have hjm : (j : Int) < (m : Int) := by omega
      by_cases ho : of = 8 * (k : Int)
      · rw [if_pos ho] at hs
        have HR : Hid (lastV L (8 * (k : Int)) = some u) := by show _ = _; rw [HLA.out, hs]
        have hoe : (of == 8 * (k : Int)) = true := by simpa using ho
        clear hs hp
        subst ho
        go_wp2
        go_ret
        exact ⟨by rw [HR.out]; rfl, rfl⟩
      · rw [if_neg ho] at hs
        have HR : Hid (lastV L (8 * (k : Int)) = lastV (L.take j) (8 * (k : Int))) := by show _ = _; rw [HLA.out, hs]
        clear hs hp
        go_wp2
        go_roundw
        case rel => exact ⟨j, by omega, by go_num, HR.out, by first | rfl | trivial⟩
        case measure => simp [intOf]
theorem lastV_any (L : List (Int × Int)) (x : Int) : ∀ j, j ≤ L.length → (lastV (L.take j) x).isSome = (L.take j).any fun p => decide (p.1 = x) := by
  intro j
  induction j with
  | zero => intro _; rfl
  | succ j ih =>
    intro hj
    rw [lastV_get L j (by omega) x, List.take_succ_eq_append_getElem (by omega), List.any_append, ← ih (by omega)]
    by_cases h : L[j].1 = x
    · simp [h]
    · simp [h]
theorem lastV_none (L : List (Int × Int)) (x : Int) (h : ∀ p ∈ L, p.1 ≠ x) : lastV L x = none := by
  have := lastV_any L x L.length (Nat.le_refl _)
  rw [List.take_length] at this
  have h2 : (L.any fun p => decide (p.1 = x)) = false := by
    rw [Bool.eq_false_iff]
    intro ha
    obtain ⟨p, hp, he⟩ := List.any_eq_true.1 ha
    exact h p hp (by simpa using he)
  rw [h2] at this
  exact Option.not_isSome_iff_eq_none.1 (by rw [this]; simp)
theorem lastV_mem (L : List (Int × Int)) (x : Int) {p : Int × Int} (hp : p ∈ L) (he : p.1 = x) : (lastV L x).isSome = true := by
  have := lastV_any L x L.length (Nat.le_refl _)
  rw [List.take_length] at this
  rw [this]
  exact List.any_eq_true.2 ⟨p, hp, by simpa using he⟩

set_option maxRecDepth 100000 in
set_option maxHeartbeats 2000000 in
theorem rfBuffered {X : Nat → Prop} {r : Nat} {ws : List Int} {R : RfS} (w : World) (h : RfO X r ws w R) (hb : R.L.length < 1000000) (x : Int) :
    Calls Try.prog 71 #[.pointer (some ⟨r, 0, none⟩), .int .u64 x] w fun e w' => e = .returned (.bool (lastV R.L x).isSome) ∧ Below w.heap.size w w' := by
  obtain ⟨h1, wA, wc, lA, lc, mA, mc, h2, _⟩ := h
  have k1 : w.cell? ⟨r, 1, none⟩ = some (.slice lA R.L.length lc) := h2.st.cell_some rfl
  have hl := h2.st.lt
  have HLG := Lib.hid h2.lg
  obtain ⟨m, hm⟩ : ∃ m, R.L.length = m := ⟨_, rfl⟩
  have HM := Lib.hid hm
  rw [hm] at k1 hb
  obtain ⟨L, hL⟩ : ∃ L, R.L = L := ⟨_, rfl⟩
  rw [hL] at HLG HM ⊢
  clear h1 h2 hm hL
  go_enter Try.func71, Try.ntmps71
  go_wp2
  go_loopw [12, 4, 6, 13, 14, 15, 16, 17, 18, 19, 20] (fun i _ _ _ _ _ _ _ _ _ _ wr => ∃ j : Nat, j ≤ m ∧ i = .int .i64 j ∧ (∀ p ∈ L.take j, p.1 ≠ x) ∧ Below w.heap.size w wr) (fun i _ _ _ _ _ _ _ _ _ _ _ => m - (intOf i).toNat)
  case atStart => exact ⟨0, by omega, rfl, by simp, Below.refl _ _⟩
  case round =>
    obtain ⟨j, hj, rfl, hno, hB⟩ := hrel
    have HNO := Lib.hid hno
    have HB := Lib.hid hB
    clear hno hB
    by_cases hlt : j < m
    · have hjl : j < L.length := by rw [HM.out]; omega
      obtain ⟨g, off, hA, hg, c1, c2⟩ := (HLG.out.keep (w' := wr) (fun b hb => HB.out.block b (HLG.out.lt hb))).wrR hjl
      obtain ⟨⟨of, u⟩, hp⟩ : ∃ p, L[j] = p := ⟨_, rfl⟩
      rw [hp] at c1 c2
      subst hA
      have hgn : ¬ g = wr.heap.size := by omega
      by_cases ho : of = x
      · have HR : Hid ((lastV L x).isSome = true) := lastV_mem L x (List.getElem_mem hjl) (by rw [hp]; exact ho)
        have hoe : (of == x) = true := by simpa using ho
        clear hp
        subst ho
        go_wp2
        go_ret
        exact ⟨by rw [HR.out]; rfl, bl_alloc HB.out _⟩
      · have HNX : Hid (∀ p ∈ L.take (j + 1), p.1 ≠ x) := by
          intro p hpm
          rw [List.take_succ_eq_append_getElem hjl] at hpm
          rcases List.mem_append.1 hpm with hpm | hpm
          · exact HNO.out p hpm
          · have : p = L[j] := by simpa using hpm
            rw [this, hp]; exact ho
        clear hp
        go_wp2
        go_roundw
        case rel => exact ⟨j + 1, by omega, by go_num, HNX.out, bl_alloc HB.out _⟩
        case measure => simp [intOf]; omega
    · obtain rfl : j = m := by omega
      have hno := HNO.out
      rw [List.take_of_length_le (by rw [HM.out]; exact Nat.le_refl _)] at hno
      have HZ := Lib.hid (lastV_none L x hno)
      clear hno
      go_wp2
      go_ret
      exact ⟨by rw [HZ.out]; rfl, HB.out⟩
/-- The buffered words by increasing offsets. -/
def wrL (L : List (Int × Int)) (n : Nat) : List (Int × Int) := (List.range n).filterMap fun (i : Nat) => (lastV L (8 * (i : Int))).map fun v => (8 * (i : Int), v)
theorem wrL_succ (L : List (Int × Int)) (n : Nat) : wrL L (n + 1) = wrL L n ++ (match lastV L (8 * (n : Int)) with | some v => [(8 * (n : Int), v)] | none => []) := by
  unfold wrL
  rw [List.range_succ, List.filterMap_append]
  congr 1
  cases h : lastV L (8 * (n : Int)) <;> simp [h]
theorem length_wrL (L : List (Int × Int)) : ∀ n, (wrL L n).length ≤ n := by
  intro n
  unfold wrL
  exact Nat.le_trans (List.length_filterMap_le _ _) (by simp)
theorem info_writeR : (Try.prog.info? 94).map (fun i => (i.zero, i.size, i.bytes)) = some (some (.agg #[.int .u64 0, .int .u64 0]), 2, 16) := by kernel_rfl
/-- What Writes of the reference returns. -/
def RfWPost (w : World) (L : List (Int × Int)) (n : Nat) (e : Ending) (w' : World) : Prop :=
  ∃ A c, e = .returned (.slice A (wrL L n).length c) ∧ Sl 94 2 w' A (wrL L n).length c (wcells (wrL L n)) ∧ Below w.heap.size w w' ∧ ∀ b, OwnB A b → w.heap.size ≤ b
set_option maxRecDepth 100000 in
set_option maxHeartbeats 4000000 in
theorem rfWrites {X : Nat → Prop} {r : Nat} {ws : List Int} {R : RfS} (w : World) (h : RfO X r ws w R) (n : Nat) (hn : ws.length = n) (hnb : n ≤ 4096) (hb : R.L.length < 1000000) :
    Calls Try.prog 72 #[.pointer (some ⟨r, 0, none⟩)] w (RfWPost w R.L n) := by
  have H := Lib.hid h
  obtain ⟨h1, wA, wc, lA, lc, mA, mc, h2, _⟩ := h
  have k0 : w.cell? ⟨r, 0, none⟩ = some (.slice wA ws.length wc) := h2.st.cell_some rfl
  have hl := h2.st.lt
  have HN := Lib.hid hn
  rw [hn] at k0
  obtain ⟨L, hL⟩ : ∃ L, R.L = L := ⟨_, rfl⟩
  have HL := Lib.hid hL
  rw [hL] at hb
  unfold RfWPost
  rw [hL]
  clear h1 h2 hn hL
  go_enter Try.func72, Try.ntmps72
  go_wp2
  go_loopw [11, 3, 4, 5, 12, 13, 14, 15, 16, 17, 18, 19, 20, 21, 22, 23, 24, 25, 26, 27, 28] (fun i s _ _ _ _ _ _ _ _ _ _ _ _ _ _ _ _ _ _ _ wr => ∃ (j : Nat) (A : Option Addr) (c : Nat), j ≤ n ∧ i = .int .i64 j ∧ s = .slice A (wrL L j).length c ∧ Sl 94 2 wr A (wrL L j).length c (wcells (wrL L j)) ∧ Below w.heap.size w wr ∧ ∀ b, OwnB A b → w.heap.size ≤ b) (fun i s _ _ _ _ _ _ _ _ _ _ _ _ _ _ _ _ _ _ _ _ => n - (intOf i).toNat)
  case atStart => exact ⟨0, none, 0, by omega, rfl, rfl, Sl.nil, Below.refl _ _, fun b hb => by simp [OwnB] at hb⟩
  case round =>
    obtain ⟨j, A, c, hj, rfl, rfl, hS, hB, hO⟩ := hrel
    have HS := Lib.hid hS
    have HB := Lib.hid hB
    have HO := Lib.hid hO
    obtain ⟨q, hq⟩ : ∃ q, (wrL L j).length = q := ⟨_, rfl⟩
    have hqj : q ≤ j := by rw [← hq]; exact length_wrL L j
    rw [hq] at HS ⊢
    have HQ := Lib.hid hq
    clear hS hB hO hq
    by_cases hlt : j < n
    · have e8 : IntKind.u64.wrap (8 * (j : Int)) = 8 * (j : Int) := IntWalk.u64_in _ (by omega)
      have ej : IntKind.u64.wrap (j : Int) = (j : Int) := IntWalk.u64_in _ (by omega)
      have HBF : Hid (Calls Try.prog 71 #[.pointer (some ⟨r, 0, none⟩), .int .u64 (8 * (j : Int))] wr fun e w' => e = .returned (.bool (lastV L (8 * (j : Int))).isSome) ∧ Below wr.heap.size wr w') := by
        have := rfBuffered wr (H.out.below HB.out) (by rw [HL.out]; exact hb) (8 * (j : Int))
        rwa [HL.out] at this
      cases hv : lastV L (8 * (j : Int)) with
      | none =>
        rw [hv] at HBF
        have HNX : Hid (wrL L (j + 1) = wrL L j) := by show _ = _; rw [wrL_succ, hv]; simp
        clear hv
        go_wp2_with (go_at_call 71; refine HBF.out.mono ?_; rintro e w1 ⟨rfl, hb1⟩; have HB1 := Lib.hid (HB.out.trans (hb1.mono HB.out.size)); have HS1 := Lib.hid (HS.out.keep (w' := w1) (fun b hb => hb1.block b (HS.out.lt hb))); clear hb1)
        go_roundw
        case rel => exact ⟨j + 1, A, c, by omega, by go_num, by rw [HNX.out, HQ.out], by rw [HNX.out, HQ.out]; exact HS1.out, HB1.out, HO.out⟩
        case measure => simp [intOf]; omega
      | some v =>
        rw [hv] at HBF
        have HNX : Hid (wrL L (j + 1) = wrL L j ++ [(8 * (j : Int), v)]) := by show _ = _; rw [wrL_succ, hv]
        obtain ⟨u, hu⟩ : ∃ u, ws[j]? = some u := ⟨_, List.getElem?_eq_getElem (by rw [HN.out]; exact hlt)⟩
        have HLD : Hid (∀ W, Below w.heap.size w W → Calls Try.prog 70 #[.pointer (some ⟨r, 0, none⟩), .int .u64 (8 * (j : Int))] W fun e w' => e = .returned (.int .u64 v) ∧ W = w') := fun W hW => by
          have := rfLoad W (H.out.below hW) n HN.out (by rw [HL.out]; exact hb) j hlt hnb u hu
          rwa [HL.out, hv] at this
        clear hv hu
        go_wp2_with (first
          | (go_at_call 71; refine HBF.out.mono ?_; rintro e w1 ⟨rfl, hb1⟩; have HB1 := Lib.hid (HB.out.trans (hb1.mono HB.out.size)); have HS1 := Lib.hid (HS.out.keep (w' := w1) (fun b hb => hb1.block b (HS.out.lt hb))); clear hb1)
          | (go_at_call 70; refine (HLD.out _ HB1.out).mono ?_; rintro e w2 ⟨rfl, rfl⟩)
          | (at_builtin; refine wpList_append_sl rfl (.tmp 20) (.tmp 26) 54 rfl 94 (.agg #[.int .u64 0, .int .u64 0]) 2 16 rfl (by omega) Try.underlying54 info_writeR (by omega) A q c (wcells (wrL L j)) ⟨w1.heap.size, 0, none⟩ 1 1 [.int .u64 (8 * (j : Int)), .int .u64 v] rfl rfl (HS1.out.keep (fun b hb => Below.heap_alloc _ _ b (HS1.out.lt hb))) rfl (by omega) (cells_two w1 94 _ _) (by simp; exact ⟨rfl, rfl⟩) (by omega) ?_; intro A2 c2 w3 HO2 HC2 HW2 HN2))
        go_roundw
        case rel =>
          have hl1 : (wrL L (j + 1)).length = q + 1 := by rw [HNX.out]; simp [HQ.out]
          refine ⟨j + 1, A2, c2, by omega, by go_num, by rw [hl1], ?_, bl_ch (bl_alloc HB1.out _) HC2.out (fun b hb => HO.out b hb), fun b hb => ?_⟩
          · rw [hl1, HNX.out, show wcells (wrL L j ++ [(8 * (j : Int), v)]) = wcells (wrL L j) ++ [.int .u64 (8 * (j : Int)), .int .u64 v] by rw [wcells_snoc]]
            exact HO2.out
          · rcases HW2.out b hb with h | h
            · exact HO.out b h
            · rw [h]; have := HB1.out.size; simp; omega
        case measure => simp [intOf]; omega
    · obtain rfl : j = n := by omega
      go_wp2
      go_ret
      refine ⟨A, c, ?_, ?_, HB.out, HO.out⟩
      · rw [HQ.out]; rfl
      · rw [HQ.out]; exact HS.out
end Go.Proofs.Ytngkhligjkcbmaa

namespace Go.Proofs.Ytngkhligjkcbmaa
open Go.RowKit
set_option linter.unusedVariables false

def RfS.put (R : RfS) (off v : Int) : RfS := { R with L := R.L ++ [(off, v)] }
def RfS.brk (R : RfS) : RfS := { R with bad := true }
def RfS.rollTo (R : RfS) (i l : Nat) : RfS := { R with L := R.L.take l, M := R.M.take (i + 1) }
theorem wcR_one (ws : List (Int × Int)) : ∀ u ∈ wcells ws, u.oneCell' = true := by
  intro u hu
  simp only [wcells, List.mem_flatMap] at hu
  obtain ⟨p, _, hu⟩ := hu
  simp only [List.mem_cons, List.not_mem_nil, or_false] at hu
  rcases hu with rfl | rfl <;> rfl
/-- What a call that changes the reference's overlay leaves. -/
def RfPost (X : Nat → Prop) (r : Nat) (ws : List Int) (w : World) (R : RfS) (v : Value) (e : Ending) (w' : World) : Prop :=
  e = .returned v ∧ RfO X r ws w' R ∧ Ch X w w'
theorem RfD.set3 {w : World} {r : Nat} {ws : List Int} {wA lA mA : Option Addr} {wc lc mc : Nat} {R : RfS} (h : RfD w r ws wA wc lA lc mA mc R) : RfD (w.setCell ⟨r, 3, none⟩ (.bool true)) r ws wA wc lA lc mA mc R.brk := by
  have hk : ∀ b, b ≠ r → (w.setCell ⟨r, 3, none⟩ (.bool true)).heap[b]? = w.heap[b]? := fun b hb => Below.heap_setCell w ⟨r, 3, none⟩ _ b hb
  exact ⟨h.st.set 3 _, h.wd.keep (fun b hb => hk b (h.ow b hb)), h.lg.keep (fun b hb => hk b (h.ol b hb)), h.mks.keep (fun b hb => hk b (h.om b hb).1), h.ow, h.ol, h.om⟩

set_option maxRecDepth 100000 in
set_option maxHeartbeats 2000000 in
theorem rfStore_bad {X : Nat → Prop} {r : Nat} {ws : List Int} {R : RfS} (w : World) (h : RfO X r ws w R) (n : Nat) (hn : ws.length = n) (hnb : n ≤ 4096) (off v : Int) (hoff : 0 ≤ off ∧ off < 18446744073709551616) (hbad : off % 8 ≠ 0 ∨ (n : Int) * 8 ≤ off) :
    Calls Try.prog 25 #[.pointer (some ⟨r, 0, none⟩), .int .u64 off, .int .u64 v] w (RfPost X r ws w R.brk (.tuple #[])) := by
  have HR : Hid (RfO X r ws (w.setCell ⟨r, 3, none⟩ (.bool true)) R.brk ∧ Ch X w (w.setCell ⟨r, 3, none⟩ (.bool true))) := by
    obtain ⟨h1, wA, wc, lA, lc, mA, mc, h2, f1, f2, f3, f4⟩ := h
    exact ⟨⟨fun b hb => h1 b (by simpa using hb), wA, wc, lA, lc, mA, mc, h2.set3, f1, f2, f3, f4⟩, ((Ch.refl (At r) w).set1 3 _).mono (fun b hb _ => by rw [show b = r from hb]; exact f1)⟩
  obtain ⟨h1, wA, wc, lA, lc, mA, mc, h2, _⟩ := h
  have k0 : w.cell? ⟨r, 0, none⟩ = some (.slice wA ws.length wc) := h2.st.cell_some rfl
  have k3 : w.cell? ⟨r, 3, none⟩ = some (.bool R.bad) := h2.st.cell_some rfl
  have f3 := h2.st.frozen 3
  have hl := h2.st.lt
  rw [hn] at k0
  clear h1 h2 hn
  have hw8 : IntKind.u64.wrap (n : Int) = (n : Int) := IntWalk.u64_in _ (by omega)
  have e1 : off.tmod 8 = off % 8 := Int.tmod_eq_emod_of_nonneg hoff.1
  obtain ⟨z, hz⟩ : ∃ z, off % 8 = z := ⟨_, rfl⟩
  obtain ⟨y, hy⟩ : ∃ y, off.tdiv 8 = y := ⟨_, rfl⟩
  have hy2 : y = off / 8 := by rw [← hy]; exact Int.tdiv_eq_ediv_of_nonneg hoff.1
  have hyw : IntKind.u64.wrap y = y := IntWalk.u64_in _ (by omega)
  have hzw : IntKind.u64.wrap z = z := IntWalk.u64_in _ (by omega)
  rw [hz] at e1 hbad
  have HY := Lib.hid hy2
  have HOF := Lib.hid hoff
  by_cases h8 : z = 0
  · have h8' : (z != 0) = false := by simpa using h8
    have hge : (n : Int) ≤ y := by rcases hbad with h | h; exact absurd h8 h; omega
    clear hbad h8 hy2 hz hoff
    go_enter Try.func25, Try.ntmps25
    go_wp2
    exact bodyPost_ret (v := .tuple #[]) (by simp [results, Try.results25, go_sem]) rfl ⟨rfl, HR.out⟩
  · have h8' : (z != 0) = true := by simpa using h8
    clear hbad h8 hy2 hz hoff
    go_enter Try.func25, Try.ntmps25
    go_wp2
    exact bodyPost_ret (v := .tuple #[]) (by simp [results, Try.results25, go_sem]) rfl ⟨rfl, HR.out⟩

set_option maxRecDepth 100000 in
set_option maxHeartbeats 4000000 in
theorem rfStore {X : Nat → Prop} {r : Nat} {ws : List Int} {R : RfS} (w : World) (h : RfO X r ws w R) (n : Nat) (hn : ws.length = n) (hnb : n ≤ 4096) (hb : R.L.length < 1000000) (k : Nat) (hk : k < n) (v : Int) (hv : 0 ≤ v ∧ v < 18446744073709551616) :
    Calls Try.prog 25 #[.pointer (some ⟨r, 0, none⟩), .int .u64 (8 * (k : Int)), .int .u64 v] w (RfPost X r ws w (R.put (8 * (k : Int)) v) (.tuple #[])) := by
  have H := Lib.hid h
  obtain ⟨h1, wA, wc, lA, lc, mA, mc, h2, x1, x2, x3, x4⟩ := h
  have k0 : w.cell? ⟨r, 0, none⟩ = some (.slice wA ws.length wc) := h2.st.cell_some rfl
  have k1 : w.cell? ⟨r, 1, none⟩ = some (.slice lA R.L.length lc) := h2.st.cell_some rfl
  have hl := h2.st.lt
  have H2 := Lib.hid h2
  have HX := Lib.hid (And.intro h1 (And.intro x1 (And.intro x2 (And.intro x3 x4))))
  have HLG := Lib.hid h2.lg
  obtain ⟨m, hm⟩ : ∃ m, R.L.length = m := ⟨_, rfl⟩
  have HM := Lib.hid hm
  rw [hn] at k0
  rw [hm] at k1 hb HLG
  clear h1 h2 hn hm x1 x2 x3 x4
  have hw8 : IntKind.u64.wrap (n : Int) = (n : Int) := IntWalk.u64_in _ (by omega)
  have e1 : (8 * (k : Int)).tmod 8 = 0 := by rw [Int.tmod_eq_emod_of_nonneg (by omega)]; omega
  have e2 : (8 * (k : Int)).tdiv 8 = (k : Int) := by rw [Int.tdiv_eq_ediv_of_nonneg (by omega)]; omega
  have e3 : ¬ (n : Int) ≤ (k : Int) := by omega
  have e4 : IntKind.u64.wrap (k : Int) = (k : Int) := IntWalk.u64_in _ (by omega)
  have HE0 : Hid (Sl 94 2 (w.alloc (.cells #[] 94)) (some ⟨w.heap.size, 0, none⟩) 0 0 []) := ⟨by simp, .inr ⟨w.heap.size, 0, #[], rfl, CB.new _ _ _, Nat.le_refl _, by omega, by simp, by simp⟩⟩
  go_enter Try.func25, Try.ntmps25
  go_wp2_with (at_builtin; first
    | (refine wpList_append_sl2 rfl (.tmp 24) (.tmp 28) 54 rfl 94 (.agg #[.int .u64 0, .int .u64 0]) 2 16 rfl (by omega) Try.underlying54 info_writeR (by omega) (some ⟨w.heap.size, 0, none⟩) 0 0 [] lA m lc (wcells R.L) rfl rfl HE0.out (HLG.out.keep (fun b hb => Below.heap_alloc _ _ b (HLG.out.lt hb))) (wcR_one _) (by omega) ?_; intro A1 c1 w1 HO1 HC1 HW1; rw [List.nil_append, Nat.zero_add] at HO1; have KR : CB w1 r 57 #[.slice wA ws.length wc, .slice lA R.L.length lc, .slice mA R.M.length mc, .bool R.bad] := (H2.out.st.keep (Below.heap_alloc w _ r hl)).ch HC1.out (fun hb => by have : w.heap.size = r := (by simpa [OwnB] using hb); omega); have hlr := KR.lt; have f1 := KR.frozen 1; have HKR := Lib.hid KR; clear KR)
    | (refine wpList_append_sl rfl (.tmp 29) (.tmp 33) 54 rfl 94 (.agg #[.int .u64 0, .int .u64 0]) 2 16 rfl (by omega) Try.underlying54 info_writeR (by omega) A1 m c1 (wcells R.L) ⟨w1.heap.size, 0, none⟩ 1 1 [.int .u64 (8 * (k : Int)), .int .u64 v] rfl rfl (HO1.out.keep (fun b hb => Below.heap_alloc _ _ b (HO1.out.lt hb))) rfl (by omega) (cells_two w1 94 _ _) (by simp; exact ⟨rfl, rfl⟩) (by omega) ?_; intro A2 c2 w2 HO2 HC2 HW2 HN2; have K2 := (HKR.out.keep (Below.heap_alloc w1 (.cells #[.int .u64 (8 * (k : Int)), .int .u64 v] 94) r hlr)).ch HC2.out (fun hb => by rcases HW1.out r hb with h | h; (have : w.heap.size = r := (by simpa [OwnB] using h)); omega; simp at h; omega); have hlr2 := K2.lt; have fz2 := K2.frozen 1; have hc2 : w2.cell? ⟨r, 1, none⟩ = some (.slice lA R.L.length lc) := K2.cell_some rfl; have HK2 := Lib.hid K2; clear K2))
  have hZ : w2.heap.size ≥ w1.heap.size := by have := HC2.out.size; simp at this; omega
  have hw1 : w.heap.size ≤ w1.heap.size := by have := HC1.out.size; simp at this; omega
  have hA1 : ∀ b, OwnB A1 b → w.heap.size ≤ b := fun b hb => by
    rcases HW1.out b hb with h | h
    · have : w.heap.size = b := (by simpa [OwnB] using h)
      omega
    · simp at h; omega
  have hA2 : ∀ b, OwnB A2 b → w.heap.size ≤ b := fun b hb => by
    rcases HW2.out b hb with h | h
    · exact hA1 b h
    · simp at h; omega
  have hk1 : ∀ b, b < w.heap.size → w1.heap[b]? = w.heap[b]? := fun b hb => (HC1.out.block b (by simp; omega) (fun h => by have : w.heap.size = b := (by simpa [OwnB] using h); omega)).trans (Below.heap_alloc w _ b hb)
  have hk2 : ∀ b, b < w.heap.size → w2.heap[b]? = w.heap[b]? := fun b hb => (HC2.out.block b (by simp; omega) (fun h => by have := hA1 b h; omega)).trans ((Below.heap_alloc w1 _ b (by omega)).trans (hk1 b hb))
  have hk3 : ∀ b, b ≠ r → (w2.setCell ⟨r, 1, none⟩ (.slice A2 (m + 1) c2)).heap[b]? = w2.heap[b]? := fun b hb => Below.heap_setCell w2 ⟨r, 1, none⟩ _ b hb
  obtain ⟨x0, x1, x2, x3, x4⟩ := HX.out
  refine bodyPost_ret (v := .tuple #[]) (by simp [results, Try.results25, go_sem]) rfl ⟨rfl, ⟨fun b hb => x0 b (by simp at hb; omega), wA, wc, A2, c2, mA, mc, ⟨?_, ?_, ?_, ?_, H2.out.ow, fun b hb => by have := hA2 b hb; omega, fun b hb => ⟨(H2.out.om b hb).1, fun h => by have := hA2 b h; have := H2.out.mks.lt hb; omega, (H2.out.om b hb).2.2⟩⟩, x1, x2, fun b hb => x0 b (hA2 b hb), x4⟩, ?_⟩
  · have e1 : (R.put (8 * (k : Int)) v).L.length = m + 1 := by simp [RfS.put, HM.out]
    rw [e1]
    exact HK2.out.set 1 (.slice A2 (m + 1) c2)
  · exact H2.out.wd.keep (fun b hb => (hk3 b (H2.out.ow b hb)).trans (hk2 b (H2.out.wd.lt hb)))
  · have e1 : (R.put (8 * (k : Int)) v).L.length = m + 1 := by simp [RfS.put, HM.out]
    rw [e1]
    have e2 : wcells (R.put (8 * (k : Int)) v).L = wcells R.L ++ [.int .u64 (8 * (k : Int)), .int .u64 v] := by simp [RfS.put, wcells]
    rw [e2]
    exact HO2.out.keep (fun b hb => hk3 b (by have := hA2 b hb; omega))
  · exact H2.out.mks.keep (fun b hb => (hk3 b (H2.out.om b hb).1).trans (hk2 b (H2.out.mks.lt hb)))
  · have c1 : Ch (fun _ => False) w w2 := ⟨HC2.out.os.trans HC1.out.os, HC2.out.tape.trans HC1.out.tape, HC2.out.output.trans HC1.out.output, by omega, fun b hb _ => hk2 b hb⟩
    exact (c1.mono (fun b h _ => h.elim)).setCell (a := ⟨r, 1, none⟩) (.inl x1) _

set_option maxRecDepth 100000 in
set_option maxHeartbeats 2000000 in
theorem rfRoll_no {X : Nat → Prop} {r : Nat} {ws : List Int} {R : RfS} (w : World) (h : RfO X r ws w R) (hb : R.M.length < 1000000) (x : Int) (hno : ∀ p ∈ R.M, p.1 ≠ x) :
    Calls Try.prog 28 #[.pointer (some ⟨r, 0, none⟩), .int .i64 x] w fun e w' => e = .returned (.bool false) ∧ w = w' := by
  obtain ⟨h1, wA, wc, lA, lc, mA, mc, h2, _⟩ := h
  have k2 : w.cell? ⟨r, 2, none⟩ = some (.slice mA R.M.length mc) := h2.st.cell_some rfl
  have hl := h2.st.lt
  have HMK := Lib.hid h2.mks
  obtain ⟨m, hm⟩ : ∃ m, R.M.length = m := ⟨_, rfl⟩
  have HM := Lib.hid hm
  have HNO := Lib.hid hno
  rw [hm] at k2 hb
  clear h1 h2 hm hno
  go_enter Try.func28, Try.ntmps28
  go_wp2
  go_loopw [5, 4, 12, 13, 14, 15, 16, 17, 18, 19, 20, 21, 22, 23, 24, 25, 26, 27, 28, 29, 30, 31, 32, 33, 34, 35, 36, 37, 38, 39, 40, 41, 42, 43, 44, 45, 46, 47, 48, 49, 50, 51] (fun i _ _ _ _ _ _ _ _ _ _ _ _ _ _ _ _ _ _ _ _ _ _ _ _ _ _ _ _ _ _ _ _ _ _ _ _ _ _ _ _ _ wr => ∃ j : Nat, j ≤ m ∧ i = .int .i64 ((j : Int) - 1) ∧ wr = w) (fun i _ _ _ _ _ _ _ _ _ _ _ _ _ _ _ _ _ _ _ _ _ _ _ _ _ _ _ _ _ _ _ _ _ _ _ _ _ _ _ _ _ _ => (intOf i + 1).toNat)
  case atStart => exact ⟨m, Nat.le_refl _, rfl, rfl⟩
  case round =>
    obtain ⟨j, hj, rfl, rfl⟩ := hrel
    cases j with
    | zero =>
      go_wp2
      go_ret
      exact ⟨rfl, rfl⟩
    | succ j =>
      have hjl : j < R.M.length := by rw [HM.out]; omega
      obtain ⟨g, off, hA, hg, c1, c2⟩ := HMK.out.mkR hjl
      have hjj : ((j + 1 : Nat) : Int) - 1 = (j : Int) := by omega
      rw [hjj]
      have hne := HNO.out _ (List.getElem_mem hjl)
      obtain ⟨⟨of, u⟩, hp⟩ : ∃ p, R.M[j] = p := ⟨_, rfl⟩
      rw [hp] at c1 c2 hne
      have hne' : ¬ of = x := hne
      have hoe : (of == x) = false := by simpa using hne'
      subst hA
      have hjm : (j : Int) < (m : Int) := by omega
      clear hp hne
      go_wp2
      go_roundw
      case rel => exact ⟨j, by omega, by go_num, by first | rfl | trivial⟩
      case measure => simp [intOf]

set_option maxRecDepth 100000 in
set_option maxHeartbeats 4000000 in
theorem rfRoll {X : Nat → Prop} {r : Nat} {ws : List Int} {R : RfS} (w : World) (h : RfO X r ws w R) (hb : R.M.length < 1000000) (hbl : R.L.length < 1000000) (x : Int) (q l : Nat) (hq : q < R.M.length) (hx : R.M[q] = (x, l)) (hll : l ≤ R.L.length) (hlast : ∀ j (hj : j < R.M.length), q < j → (R.M[j]).1 ≠ x) :
    Calls Try.prog 28 #[.pointer (some ⟨r, 0, none⟩), .int .i64 x] w (RfPost X r ws w (R.rollTo q l) (.bool true)) := by
  have H := Lib.hid h
  obtain ⟨h1, wA, wc, lA, lc, mA, mc, h2, x1, x2, x3, x4⟩ := h
  have k1 : w.cell? ⟨r, 1, none⟩ = some (.slice lA R.L.length lc) := h2.st.cell_some rfl
  have k2 : w.cell? ⟨r, 2, none⟩ = some (.slice mA R.M.length mc) := h2.st.cell_some rfl
  have f1 := h2.st.frozen 1
  have f2 := h2.st.frozen 2
  have hl := h2.st.lt
  have HMK := Lib.hid h2.mks
  have H2 := Lib.hid h2
  have HX := Lib.hid (And.intro h1 (And.intro x1 (And.intro x2 (And.intro x3 x4))))
  have hlc : R.L.length ≤ lc := by
    rcases h2.lg.2 with ⟨_, h3, h4⟩ | ⟨_, _, _, _, _, y1, _⟩
    · omega
    · exact y1
  obtain ⟨g, off, hA, hg, c1, c2⟩ := h2.mks.mkR hq
  rw [hx] at c1 c2
  have hmc : R.M.length ≤ mc := by
    rcases h2.mks.2 with ⟨h3, _⟩ | ⟨_, _, _, _, _, y1, _⟩
    · rw [hA] at h3; cases h3
    · exact y1
  obtain ⟨m, hm⟩ : ∃ m, R.M.length = m := ⟨_, rfl⟩
  obtain ⟨n, hn⟩ : ∃ n, R.L.length = n := ⟨_, rfl⟩
  have HM := Lib.hid (And.intro hm hn)
  have HLA := Lib.hid hlast
  rw [hm] at k2 hb hmc
  rw [hn] at k1 hbl hll hlc
  have hqm : q < m := by rw [← hm]; exact hq
  subst hA
  clear h1 h2 x1 x2 x3 x4 hlast hx
  go_enter Try.func28, Try.ntmps28
  go_wp2
  go_loopw [5, 4, 12, 13, 14, 15, 16, 17, 18, 19, 20, 21, 22, 23, 24, 25, 26, 27, 28, 29, 30, 31, 32, 33, 34, 35, 36, 37, 38, 39, 40, 41, 42, 43, 44, 45, 46, 47, 48, 49, 50, 51] (fun i _ _ _ _ _ _ _ _ _ _ _ _ _ _ _ _ _ _ _ _ _ _ _ _ _ _ _ _ _ _ _ _ _ _ _ _ _ _ _ _ _ wr => ∃ j : Nat, q ≤ j ∧ j < m ∧ i = .int .i64 (j : Int) ∧ wr = w) (fun i _ _ _ _ _ _ _ _ _ _ _ _ _ _ _ _ _ _ _ _ _ _ _ _ _ _ _ _ _ _ _ _ _ _ _ _ _ _ _ _ _ _ => (intOf i + 1).toNat)
  case atStart => exact ⟨m - 1, by omega, by omega, by go_num, rfl⟩
  case round =>
    obtain ⟨j, hqj, hj, rfl, rfl⟩ := hrel
    have hjm : (j : Int) < (m : Int) := by omega
    by_cases hjq : j = q
    · subst hjq
      go_upto_region 5 with (fail)
      refine wp_region_still_n 16 (by kernel_rfl) (by kernel_rfl) ?_
      simp only [List.take_succ_cons, List.take_zero, List.drop_succ_cons, List.drop_zero]
      repeat (go_big_quiet_step (fail))
      refine wpQuiet_nil ?_
      rintro _ ⟨nq, rfl⟩
      have hv1 : (j : Int) + 1 ≤ (mc : Int) := by omega
      go_wp2
      go_ret
      have hk : ∀ b, b ≠ r → (((wr.drewN nq).setCell ⟨r, 1, none⟩ (.slice lA l lc)).setCell ⟨r, 2, none⟩ (.slice (some ⟨g, off, none⟩) (j + 1) mc)).heap[b]? = wr.heap[b]? := fun b hb => (Below.heap_setCell _ ⟨r, 2, none⟩ _ b hb).trans (Below.heap_setCell _ ⟨r, 1, none⟩ _ b hb)
      obtain ⟨x0, x1, x2, x3, x4⟩ := HX.out
      have hl1 : (R.rollTo j l).L.length = l := by simp [RfS.rollTo]; omega
      have hm1 : (R.rollTo j l).M.length = j + 1 := by simp [RfS.rollTo]; omega
      refine ⟨rfl, ⟨fun b hb => x0 b (by simpa using hb), wA, wc, lA, lc, some ⟨g, off, none⟩, mc, ⟨?_, ?_, ?_, ?_, H2.out.ow, H2.out.ol, H2.out.om⟩, x1, x2, x3, x4⟩, ?_⟩
      · rw [hl1, hm1]
        exact ((H2.out.st.drewN nq).set 1 (.slice lA l lc)).set 2 (.slice (some ⟨g, off, none⟩) (j + 1) mc)
      · exact H2.out.wd.keep (fun b hb => hk b (H2.out.ow b hb))
      · rw [hl1]
        have := H2.out.lg.take l (by omega)
        rw [wcells_take] at this
        exact this.keep (fun b hb => hk b (H2.out.ol b hb))
      · rw [hm1]
        have := H2.out.mks.take (j + 1) (by omega)
        rw [mcells_take] at this
        exact this.keep (fun b hb => hk b (H2.out.om b hb).1)
      · exact (((Ch.refl (At r) wr).drewN nq).set1 1 _).set1 2 _ |>.mono (fun b hb _ => by rw [show b = r from hb]; exact x1)
    · have hjl : j < R.M.length := by rw [HM.out.1]; omega
      obtain ⟨g', off', hA, hg', d1, d2⟩ := HMK.out.mkR hjl
      have hne := HLA.out j hjl (by omega)
      obtain ⟨⟨of, u⟩, hp⟩ : ∃ p, R.M[j] = p := ⟨_, rfl⟩
      rw [hp] at d1 d2 hne
      have hne' : ¬ of = x := hne
      have hoe : (of == x) = false := by simpa using hne'
      injection hA with hA
      injection hA with hA hA'
      subst hA hA'
      have hq1 : (q : Int) < (j : Int) := by omega
      clear hp hne
      go_wp2
      go_roundw
      case rel => exact ⟨j - 1, by omega, by omega, by go_num, by first | rfl | trivial⟩
      case measure => simp [intOf]
end Go.Proofs.Ytngkhligjkcbmaa

namespace Go.Proofs.Ytngkhligjkcbmaa
open Go.RowKit
set_option linter.unusedVariables false

set_option maxHeartbeats 1000000 in
theorem ovBuffered {F : Nat → Prop} {o : Nat} {B : Value} {S : OvS} (w : World) (h : OV F o B w S) (x : Int) (hx : 0 ≤ x ∧ x < 18446744073709551616) :
    Calls Try.prog 69 #[.pointer (some ⟨o, 0, none⟩), .int .u64 x] w fun e w' => e = .returned (.tuple #[.int .u64 ((lastV S.log x).getD 0), .bool (lastV S.log x).isSome]) ∧ w = w' := by
  obtain ⟨h0, hl⟩ := h.base
  obtain ⟨_, mb, la, lc, ma, mc, h2, _⟩ := h
  have h1 : w.cell? ⟨o, 1, none⟩ = some (.map (some mb)) := h2.ov.cell_some rfl
  obtain ⟨D, hown, hD⟩ := h2.mp
  have HO := Lib.hid hown
  have hwf : (Lit.int .u64 x).wf = true := wf_u64_mk hx
  obtain ⟨hD1, hD2⟩ := hD _ hwf
  have HD2 := Lib.hid hD2
  clear h2 hown hD hD2
  cases hc : lastV S.log x with
  | none =>
    rw [hc] at hD1
    have hD1' : Maps.has D (Lit.int .u64 x) = false := hD1
    have HAT0 : Hid (D.atKey (.int .u64 x) (.lit (.int .u64 0)) = .lit (.int .u64 0)) := by
      show _ = _
      exact Maps.atKey_of_not_has hD1 _
    clear hD1
    go_enter Try.func69, Try.ntmps69
    go_wp2_with (at_lookup; refine wpList_lookup_own_ok_int _ rfl _ _ 107 rfl 30 30 .u64 keyedU under_words Try.underlying30 (zeroU _) mb _ D rfl HO.out _ _ rfl (Maps.keyOf_int_mk Try.underlying30 hwf) ?_; intro c hat hwc; have HAT := Lib.hid hat; clear hat)
    have h1 := HAT.out
    rw [HAT0.out] at h1
    injection h1 with h1
    injection h1 with _ h1
    subst h1
    exact bodyPost_ret (v := .tuple #[.int .u64 0, .bool false]) (by simp [results, Try.results69, go_sem]) rfl ⟨rfl, rfl⟩
  | some c0 =>
    rw [hc] at hD1 HD2
    have hD1' : Maps.has D (Lit.int .u64 x) = true := hD1
    clear hD1
    go_enter Try.func69, Try.ntmps69
    go_wp2_with (at_lookup; refine wpList_lookup_own_ok_int _ rfl _ _ 107 rfl 30 30 .u64 keyedU under_words Try.underlying30 (zeroU _) mb _ D rfl HO.out _ _ rfl (Maps.keyOf_int_mk Try.underlying30 hwf) ?_; intro c hat hwc; have HAT := Lib.hid hat; clear hat)
    have h1 := HAT.out
    rw [HD2.out c0 rfl] at h1
    injection h1 with h1
    injection h1 with _ h1
    subst h1
    exact bodyPost_ret (v := .tuple #[.int .u64 c0, .bool true]) (by simp [results, Try.results69, go_sem]) rfl ⟨rfl, rfl⟩

/-- What words returns. -/
def WdPost (w : World) (xs : List Int) (n : Nat) (e : Ending) (w' : World) : Prop := ∃ A c, e = .returned (.slice A n c) ∧ Sl 30 1 w' A n c (uints xs) ∧ Below w.heap.size w w' ∧ ∀ b, OwnB A b → w.heap.size ≤ b
set_option maxRecDepth 100000 in
set_option maxHeartbeats 2000000 in
theorem words10 {T : Nat} {xs : List Int} (w : World) (hB : BaseM T 4 xs w) (hx : xs.length = 32) :
    Calls Try.prog 23 #[.pointer (some ⟨T, 0, none⟩)] w (WdPost w xs 32) := by
  have HBM := Lib.hid hB
  have HX := Lib.hid hx
  have h64 : Try.prog.info? 30 = Try.prog.info? 30 := rfl
  have hi64 : (Try.prog.info? 30).map (fun i => (i.zero, i.size, i.bytes)) = some (some (.int .u64 0), 1, 8) := by kernel_rfl
  clear hB hx h64
  go_enter Try.func23, Try.ntmps23
  go_wp2
  go_loopw [5, 3, 4, 6, 7, 8, 9, 10, 11, 12, 13, 14, 15] (fun i s _ _ _ _ _ _ _ _ _ _ _ wr => ∃ (j : Nat) (A : Option Addr) (c : Nat), j ≤ 32 ∧ i = .int .u64 j ∧ s = .slice A j c ∧ Sl 30 1 wr A j c (uints (xs.take j)) ∧ Below w.heap.size w wr ∧ ∀ b, OwnB A b → w.heap.size ≤ b) (fun i s _ _ _ _ _ _ _ _ _ _ _ _ => 32 - (intOf i).toNat)
  case atStart => exact ⟨0, none, 0, by omega, rfl, rfl, Sl.nil, Below.refl _ _, fun b hb => by simp [OwnB] at hb⟩
  case round =>
    obtain ⟨j, A, c, hj, rfl, rfl, hS, hB, hO⟩ := hrel
    have HS := Lib.hid hS
    have HB := Lib.hid hB
    have HO := Lib.hid hO
    clear hS hB hO
    by_cases hlt : j < 32
    · have hlt' : (j : Int) < 32 := by omega
      have e8 : IntKind.u64.wrap (8 * (j : Int)) = 8 * (j : Int) := IntWalk.u64_in _ (by omega)
      have ej : IntKind.u64.wrap ((j : Int) + 1) = ((j + 1 : Nat) : Int) := by rw [IntWalk.u64_in _ (by omega)]; omega
      obtain ⟨v, hv⟩ : ∃ v, xs[j]? = some v := ⟨_, List.getElem?_eq_getElem (by rw [HX.out]; exact hlt)⟩
      have HLD := Lib.hid (HBM.out.load wr HB.out j v hv)
      have HNX : Hid (uints (xs.take (j + 1)) = uints (xs.take j) ++ [.int .u64 v]) := by
        show _ = _
        rw [List.take_add_one, hv]; simp [uints]
      clear hv
      go_wp2_with (first
        | (go_at_call 54; refine HLD.out.mono ?_; rintro e w1 ⟨rfl, rfl⟩)
        | (at_builtin; refine wpList_append_sl rfl (.tmp 8) (.tmp 13) 52 rfl 30 (.int .u64 0) 1 8 rfl (by omega) Try.underlying52 hi64 (by omega) A j c (uints (xs.take j)) ⟨wr.heap.size, 0, none⟩ 1 1 [.int .u64 v] rfl rfl (HS.out.keep (fun b hb => Below.heap_alloc _ _ b (HS.out.lt hb))) rfl (by omega) ?hcl (by simp; rfl) (by omega) ?_; (case hcl => (intro i u hu; have hi0 : i = 0 := (by (have := (List.getElem?_eq_some_iff.1 hu).1; simp at this; omega)); subst hi0; have : u = .int .u64 v := (by simpa using hu.symm); rw [this]; exact (CB.new wr 30 #[.int .u64 v]).cell 0)); intro A2 c2 w3 HO2 HC2 HW2 HN2))
      go_roundw
      case rel =>
        refine ⟨j + 1, A2, c2, by omega, by go_num, by rfl, ?_, bl_ch (bl_alloc HB.out _) HC2.out (fun b hb => HO.out b hb), fun b hb => ?_⟩
        · rw [HNX.out]; exact HO2.out
        · rcases HW2.out b hb with h | h
          · exact HO.out b h
          · rw [h]; have := HB.out.size; simp; omega
      case measure => simp [intOf]; omega
    · obtain rfl : j = 32 := by omega
      go_wp2
      go_ret
      refine ⟨A, c, rfl, ?_, HB.out, HO.out⟩
      have := HS.out
      rwa [List.take_of_length_le (by rw [HX.out]; exact Nat.le_refl _)] at this
theorem asc_ext : ∀ (xs ys : List (Int × Int)), (xs.Pairwise fun a b => a.1 < b.1) → (ys.Pairwise fun a b => a.1 < b.1) → (∀ p, p ∈ xs ↔ p ∈ ys) → xs = ys := by
  intro xs
  induction xs with
  | nil =>
    intro ys _ _ h
    cases ys with
    | nil => rfl
    | cons y ys => exact absurd ((h y).2 List.mem_cons_self) (by simp)
  | cons x xs ih =>
    intro ys hx hy h
    cases ys with
    | nil => exact absurd ((h x).1 List.mem_cons_self) (by simp)
    | cons y ys =>
      have hx1 := List.pairwise_cons.1 hx
      have hy1 := List.pairwise_cons.1 hy
      have hxy : x = y := by
        rcases List.mem_cons.1 ((h x).1 List.mem_cons_self) with h1 | h1
        · exact h1
        · rcases List.mem_cons.1 ((h y).2 List.mem_cons_self) with h2 | h2
          · exact h2.symm
          · have := hy1.1 x h1
            have := hx1.1 y h2
            omega
      subst hxy
      congr 1
      refine ih ys hx1.2 hy1.2 (fun p => ⟨fun hp => ?_, fun hp => ?_⟩)
      · rcases List.mem_cons.1 ((h p).1 (List.mem_cons_of_mem _ hp)) with h1 | h1
        · subst h1; have := hx1.1 p hp; omega
        · exact h1
      · rcases List.mem_cons.1 ((h p).2 (List.mem_cons_of_mem _ hp)) with h1 | h1
        · subst h1; have := hy1.1 p hp; omega
        · exact h1
theorem mem_wrL (L : List (Int × Int)) (n : Nat) (p : Int × Int) : p ∈ wrL L n ↔ ∃ i : Nat, i < n ∧ p.1 = 8 * (i : Int) ∧ lastV L p.1 = some p.2 := by
  unfold wrL
  simp only [List.mem_filterMap, List.mem_range, Option.map_eq_some_iff]
  constructor
  · rintro ⟨i, hi, v, hv, rfl⟩
    exact ⟨i, hi, rfl, hv⟩
  · rintro ⟨i, hi, h1, h2⟩
    exact ⟨i, hi, p.2, by rw [← h1]; exact h2, by rw [← h1]⟩
theorem asc_wrL (L : List (Int × Int)) : ∀ n, (wrL L n).Pairwise fun a b => a.1 < b.1 := by
  intro n
  induction n with
  | zero => simp [wrL]
  | succ n ih =>
    rw [wrL_succ]
    cases h : lastV L (8 * (n : Int)) with
    | none => simpa using ih
    | some v =>
      refine List.pairwise_append.2 ⟨ih, by simp, fun a ha b hb => ?_⟩
      obtain ⟨i, hi, h1, _⟩ := (mem_wrL L n a).1 ha
      have : b = (8 * (n : Int), v) := by simpa using hb
      rw [this, h1]
      show 8 * (i : Int) < 8 * (n : Int)
      omega
theorem lastV_in (L : List (Int × Int)) (x v : Int) (h : lastV L x = some v) : ∃ p ∈ L, p.1 = x := by
  apply Classical.byContradiction
  intro hn
  have := lastV_none L x (fun p hp he => hn ⟨p, hp, he⟩)
  rw [this] at h
  cases h
theorem sorted_wrL {L ws : List (Int × Int)} {n : Nat} (hn : n ≤ 4096) (h : Sorted (lastV L) ws) (hL : ∀ p ∈ L, ∃ k : Nat, k < n ∧ p.1 = 8 * (k : Int)) : ws = wrL L n := by
  refine asc_ext _ _ h.asc (asc_wrL L n) (fun p => ⟨fun hp => ?_, fun hp => ?_⟩)
  · have h1 := h.mem p hp
    obtain ⟨q, hq, he⟩ := lastV_in L _ _ h1
    obtain ⟨k, hk, hk2⟩ := hL q hq
    exact (mem_wrL L n p).2 ⟨k, hk, by rw [← he]; exact hk2, h1⟩
  · obtain ⟨i, hi, h1, h2⟩ := (mem_wrL L n p).1 hp
    exact h.all p.1 (wf_u64_mk (by omega)) p.2 h2

set_option maxRecDepth 100000 in
set_option maxHeartbeats 8000000 in
theorem matches10 {F X : Nat → Prop} {o T r : Nat} {ws : List Int} {S : OvS} {R : RfS} (w : World) (hO : OV F o (bT T) w S) (hB : BaseM T 4 ws w) (hR : RfO X r ws w R) (hw : ws.length = 32) (hL : S.log = R.L) (hbad : S.broken = R.bad) (hlen : R.L.length < 1000) (hk : ∀ p ∈ R.L, ∃ k : Nat, k < 32 ∧ p.1 = 8 * (k : Int)) :
    Calls Try.prog 31 #[.pointer (some ⟨o, 0, none⟩), .pointer (some ⟨r, 0, none⟩)] w fun e w' => e = .returned (.bool true) ∧ Below w.heap.size w w' := by
  have HO := Lib.hid hO
  have HBM := Lib.hid hB
  have HR := Lib.hid hR
  have HW := Lib.hid hw
  have HL := Lib.hid hL
  have HBD := Lib.hid hbad
  obtain ⟨L, hLL⟩ : ∃ L, R.L = L := ⟨_, rfl⟩
  obtain ⟨bd, hbd⟩ : ∃ b, R.bad = b := ⟨_, rfl⟩
  have HLL := Lib.hid hLL
  have HBB := Lib.hid hbd
  rw [hLL] at hlen hk HL
  rw [hbd] at HBD
  have HK := Lib.hid hk
  have hr3 : ∀ W, Below w.heap.size w W → W.cell? ⟨r, 3, none⟩ = some (.bool bd) ∧ r < W.heap.size := fun W hW => by
    obtain ⟨_, wA, wc, lA, lc, mA, mc, h2, _⟩ := hR.below hW
    rw [← hbd]
    exact ⟨h2.st.cell_some rfl, h2.st.lt⟩
  have HR3 := Lib.hid hr3
  clear hO hB hR hw hL hbad hk hLL hbd hr3
  go_enter Try.func31, Try.ntmps31
  go_wp2
  go_loopw [11, 4, 5, 6, 7, 12, 13, 14, 15, 16, 17, 18, 19, 20, 21, 22, 23, 24, 25, 26, 27, 28, 29, 30, 31, 32, 33, 34, 35, 36, 37, 38, 39, 40, 41, 42, 43, 44, 45, 46, 47, 48, 49, 50, 51, 52, 53, 54, 55, 56, 57] (fun i _ _ _ _ _ _ _ _ _ _ _ _ _ _ _ _ _ _ _ _ _ _ _ _ _ _ _ _ _ _ _ _ _ _ _ _ _ _ _ _ _ _ _ _ _ _ _ _ _ _ wr => ∃ j : Nat, j ≤ 32 ∧ i = .int .u64 j ∧ Below w.heap.size w wr) (fun i _ _ _ _ _ _ _ _ _ _ _ _ _ _ _ _ _ _ _ _ _ _ _ _ _ _ _ _ _ _ _ _ _ _ _ _ _ _ _ _ _ _ _ _ _ _ _ _ _ _ _ => 32 - (intOf i).toNat)
  case atStart => exact ⟨0, by omega, rfl, Below.refl _ _⟩
  case round =>
    obtain ⟨j, hj, rfl, hB⟩ := hrel
    have HB := Lib.hid hB
    clear hB
    by_cases hlt : j < 32
    · have hlt' : (j : Int) < 32 := by omega
      have e8 : IntKind.u64.wrap (8 * (j : Int)) = 8 * (j : Int) := IntWalk.u64_in _ (by omega)
      have ej : IntKind.u64.wrap ((j : Int) + 1) = ((j + 1 : Nat) : Int) := by rw [IntWalk.u64_in _ (by omega)]; omega
      obtain ⟨v, hv⟩ : ∃ v, ws[j]? = some v := ⟨_, List.getElem?_eq_getElem (by rw [HW.out]; exact hlt)⟩
      have HBF : Hid (Calls Try.prog 69 #[.pointer (some ⟨o, 0, none⟩), .int .u64 (8 * (j : Int))] wr fun e w' => e = .returned (.tuple #[.int .u64 ((lastV L (8 * (j : Int))).getD 0), .bool (lastV L (8 * (j : Int))).isSome]) ∧ wr = w') := by
        have := ovBuffered wr (HO.out.below HB.out) (8 * (j : Int)) (by omega)
        rwa [HL.out] at this
      have HLD : Hid (Calls Try.prog 40 #[.pointer (some ⟨o, 0, none⟩), .int .u64 (8 * (j : Int))] wr fun e w' => e = .returned (.int .u64 ((lastV L (8 * (j : Int))).getD v)) ∧ wr = w') := by
        have := ovLoad wr (HO.out.below HB.out) (HBM.out.below HB.out) j v hv (by omega)
        rwa [HL.out] at this
      have HRL : Hid (∀ W, Below w.heap.size w W → Calls Try.prog 70 #[.pointer (some ⟨r, 0, none⟩), .int .u64 (8 * (j : Int))] W fun e w' => e = .returned (.int .u64 ((lastV L (8 * (j : Int))).getD v)) ∧ W = w') := fun W hW => by
        have := rfLoad W (HR.out.below hW) 32 HW.out (by rw [HLL.out]; omega) j hlt (by omega) v hv
        rwa [HLL.out] at this
      have HRB : Hid (Calls Try.prog 71 #[.pointer (some ⟨r, 0, none⟩), .int .u64 (8 * (j : Int))] wr fun e w' => e = .returned (.bool (lastV L (8 * (j : Int))).isSome) ∧ Below wr.heap.size wr w') := by
        have := rfBuffered wr (HR.out.below HB.out) (by rw [HLL.out]; omega) (8 * (j : Int))
        rwa [HLL.out] at this
      obtain ⟨lv, hlv⟩ : ∃ lv, lastV L (8 * (j : Int)) = lv := ⟨_, rfl⟩
      rw [hlv] at HBF HLD HRL HRB
      clear hv hlv
      cases lv with
      | none =>
        have hvv : (v != v) = false := by simp
        go_wp2_with (first
          | (go_at_call 69; refine HBF.out.mono ?_; rintro e w1 ⟨rfl, rfl⟩)
          | (go_at_call 40; refine HLD.out.mono ?_; rintro e w1 ⟨rfl, rfl⟩)
          | (go_at_call 70; (with_reducible refine (HRL.out _ HB.out).mono ?_); rintro e w1 ⟨rfl, rfl⟩)
          | (go_at_call 71; refine HRB.out.mono ?_; rintro e w2 ⟨rfl, hb⟩; have HB2 := Lib.hid (HB.out.trans (hb.mono HB.out.size)); clear hb))
        go_roundw
        case rel => exact ⟨j + 1, by omega, by go_num, HB2.out⟩
        case measure => simp [intOf]; omega
      | some u =>
        have hvv : (u != u) = false := by simp
        go_wp2_with (first
          | (go_at_call 69; refine HBF.out.mono ?_; rintro e w1 ⟨rfl, rfl⟩)
          | (go_at_call 40; refine HLD.out.mono ?_; rintro e w1 ⟨rfl, rfl⟩)
          | (go_at_call 70; (with_reducible refine (HRL.out _ HB.out).mono ?_); rintro e w1 ⟨rfl, rfl⟩)
          | (go_at_call 71; refine HRB.out.mono ?_; rintro e w2 ⟨rfl, hb⟩; have HB2 := Lib.hid (HB.out.trans (hb.mono HB.out.size)); clear hb)
          | (go_at_call 70; (with_reducible refine (HRL.out _ HB2.out).mono ?_); rintro e w1 ⟨rfl, rfl⟩))
        go_roundw
        case rel => exact ⟨j + 1, by omega, by go_num, HB2.out⟩
        case measure => simp [intOf]; omega
    · obtain rfl : j = 32 := by omega
      have HWR : Hid (Calls Try.prog 45 #[.pointer (some ⟨o, 0, none⟩)] wr (WritesPost wr (lastV L))) := by
        have := ovWrites wr (HO.out.below HB.out) (by rw [HL.out]; omega)
        rwa [HL.out] at this
      have HRW : Hid (∀ W, Below w.heap.size w W → Calls Try.prog 72 #[.pointer (some ⟨r, 0, none⟩)] W (RfWPost W L 32)) := fun W hW => by
        have := rfWrites W (HR.out.below hW) 32 HW.out (by omega) (by rw [HLL.out]; omega)
        rwa [HLL.out] at this
      go_upto_region 9 with (first
        | (go_at_call 45; refine HWR.out.mono ?_; rintro e w1 ⟨A1, n1, c1, ws1, rfl, hl1, _, _, hrd, hs1, hO1, hb1⟩; have hw1 := sorted_wrL (n := 32) (by omega) hs1 HK.out; subst hw1; have HL1 := Lib.hid hl1; have HRD := Lib.hid hrd; have HB1 := Lib.hid (HB.out.trans (hb1.mono HB.out.size)); clear hl1 hrd hs1 hO1 hb1)
        | (go_at_call 72; refine (HRW.out _ HB1.out).mono ?_; rintro e w2 ⟨A2, c2, rfl, hS2, hb2, hO2⟩; have HS2 := Lib.hid hS2; have HRD2 := Lib.hid (HRD.out.below hb2); have HB2 := Lib.hid (HB1.out.trans (hb2.mono HB1.out.size)); clear hS2 hb2 hO2))
      obtain ⟨W, hWL⟩ : ∃ W, wrL L 32 = W := ⟨_, rfl⟩
      rw [hWL] at HL1 HRD2 HS2 ⊢
      obtain ⟨n2, hn2⟩ : ∃ n, W.length = n := ⟨_, rfl⟩
      have hn12 : n1 = n2 := by rw [← HL1.out, hn2]
      subst hn12
      have hnb : n1 ≤ 32 := by rw [← hn2, ← hWL]; exact length_wrL L 32
      rw [hn2] at HS2 ⊢
      have HN2 := Lib.hid hn2
      obtain ⟨y0, y1⟩ := HR3.out w2 HB2.out
      have HER : Hid (∀ n, Calls Try.prog 41 #[.pointer (some ⟨o, 0, none⟩)] (w2.drewN n) fun e w' => e = .returned (.int .i64 (if bd then 2 else 0)) ∧ w2.drewN n = w') := fun n => by
        have := ovErr (w2.drewN n) (HO.out.below (bl_drewN HB2.out n)) (HBM.out.below (bl_drewN HB2.out n))
        rwa [HBD.out] at this
      clear HWR HRW HRD hWL hn2 HL1
      cases bd with
      | true =>
        have hnne : ((n1 : Int) != (n1 : Int)) = false := by simp
        go_wp2
        go_quiet ((go_at_call 41; exact q_same (HER.out _)))
        obtain ⟨w3, hw3⟩ : ∃ w3, w2.drewN nq = w3 := ⟨_, rfl⟩
        have HB3 : Hid (Below w.heap.size w w3) := by rw [← hw3]; exact bl_drewN HB2.out nq
        have HS3 : Hid (Sl 94 2 w3 A2 n1 c2 (wcells W)) := by rw [← hw3]; exact HS2.out
        have HRD3 : Hid (WrRd w3 A1 W) := by rw [← hw3]; exact HRD2.out.below (bl_drewN (Below.refl _ _) nq)
        rw [hw3]
        clear hw3 HS2 HRD2 HER y0 y1
        go_wp2
        go_loopw [91, 4, 10, 92, 93, 94, 95, 96, 97, 98, 99, 100, 101, 102, 103, 104, 105, 106, 107, 108, 109, 110, 111, 112, 113, 114, 115, 116, 117, 118] (fun i _ _ _ _ _ _ _ _ _ _ _ _ _ _ _ _ _ _ _ _ _ _ _ _ _ _ _ _ _ wr => ∃ j y : Nat, j ≤ n1 ∧ i = .int .i64 j ∧ w3.drewN y = wr) (fun i _ _ _ _ _ _ _ _ _ _ _ _ _ _ _ _ _ _ _ _ _ _ _ _ _ _ _ _ _ _ => n1 - (intOf i).toNat)
        case atStart => exact ⟨0, 0, by omega, rfl, rfl⟩
        case round =>
          obtain ⟨j, y, hj, rfl, hwr⟩ := hrel
          have HWR := Lib.hid hwr
          by_cases hlt : j < n1
          · have hlt' : (j : Int) < (n1 : Int) := by omega
            have hjl : j < W.length := by rw [HN2.out]; exact hlt
            obtain ⟨b1, o1, hA1, hb1, e1, e2⟩ := (HRD3.out.keep (w' := wr) (fun b _ _ => by rw [← hwr]; rfl) (by rw [← hwr]; exact Nat.le_refl _)) j hjl
            obtain ⟨b2, o2, hA2, hb2, e3, e4⟩ := (HS3.out.keep (w' := wr) (fun b hb => by rw [← hwr]; rfl)).wrR hjl
            obtain ⟨⟨of, v⟩, hp⟩ : ∃ p, W[j] = p := ⟨_, rfl⟩
            rw [hp] at e1 e2 e3 e4
            subst hA1 hA2
            have hoo : (of != of) = false := by simp
            have hvv : (v != v) = false := by simp
            clear hp hwr
            go_wp2
            go_quiet (fail)
            go_wp2
            go_roundw
            case rel => exact ⟨j + 1, y + nq, by omega, by go_num, by rw [← HWR.out, World.drewN_drewN]⟩
            case measure => simp [intOf]; omega
          · obtain rfl : j = n1 := by omega
            clear hwr
            go_wp2
            go_ret
            exact ⟨rfl, by rw [← HWR.out]; exact bl_drewN HB3.out y⟩
      | false =>
        have hnne : ((n1 : Int) != (n1 : Int)) = false := by simp
        go_wp2
        go_quiet ((go_at_call 41; exact q_same (HER.out _)))
        obtain ⟨w3, hw3⟩ : ∃ w3, w2.drewN nq = w3 := ⟨_, rfl⟩
        have HB3 : Hid (Below w.heap.size w w3) := by rw [← hw3]; exact bl_drewN HB2.out nq
        have HS3 : Hid (Sl 94 2 w3 A2 n1 c2 (wcells W)) := by rw [← hw3]; exact HS2.out
        have HRD3 : Hid (WrRd w3 A1 W) := by rw [← hw3]; exact HRD2.out.below (bl_drewN (Below.refl _ _) nq)
        rw [hw3]
        clear hw3 HS2 HRD2 HER y0 y1
        go_wp2
        go_loopw [91, 4, 10, 92, 93, 94, 95, 96, 97, 98, 99, 100, 101, 102, 103, 104, 105, 106, 107, 108, 109, 110, 111, 112, 113, 114, 115, 116, 117, 118] (fun i _ _ _ _ _ _ _ _ _ _ _ _ _ _ _ _ _ _ _ _ _ _ _ _ _ _ _ _ _ wr => ∃ j y : Nat, j ≤ n1 ∧ i = .int .i64 j ∧ w3.drewN y = wr) (fun i _ _ _ _ _ _ _ _ _ _ _ _ _ _ _ _ _ _ _ _ _ _ _ _ _ _ _ _ _ _ => n1 - (intOf i).toNat)
        case atStart => exact ⟨0, 0, by omega, rfl, rfl⟩
        case round =>
          obtain ⟨j, y, hj, rfl, hwr⟩ := hrel
          have HWR := Lib.hid hwr
          by_cases hlt : j < n1
          · have hlt' : (j : Int) < (n1 : Int) := by omega
            have hjl : j < W.length := by rw [HN2.out]; exact hlt
            obtain ⟨b1, o1, hA1, hb1, e1, e2⟩ := (HRD3.out.keep (w' := wr) (fun b _ _ => by rw [← hwr]; rfl) (by rw [← hwr]; exact Nat.le_refl _)) j hjl
            obtain ⟨b2, o2, hA2, hb2, e3, e4⟩ := (HS3.out.keep (w' := wr) (fun b hb => by rw [← hwr]; rfl)).wrR hjl
            obtain ⟨⟨of, v⟩, hp⟩ : ∃ p, W[j] = p := ⟨_, rfl⟩
            rw [hp] at e1 e2 e3 e4
            subst hA1 hA2
            have hoo : (of != of) = false := by simp
            have hvv : (v != v) = false := by simp
            clear hp hwr
            go_wp2
            go_quiet (fail)
            go_wp2
            go_roundw
            case rel => exact ⟨j + 1, y + nq, by omega, by go_num, by rw [← HWR.out, World.drewN_drewN]⟩
            case measure => simp [intOf]; omega
          · obtain rfl : j = n1 := by omega
            clear hwr
            go_wp2
            go_ret
            exact ⟨rfl, by rw [← HWR.out]; exact bl_drewN HB3.out y⟩
end Go.Proofs.Ytngkhligjkcbmaa

namespace Go.Proofs.Ytngkhligjkcbmaa
open Go.RowKit
set_option linter.unusedVariables false

structure OvRel (S : OvS) (R : RfS) (ks : List Int) (N : Nat) : Prop where
  log : S.log = R.L
  bad : S.broken = R.bad
  asc : Asc S.marks
  asc2 : S.marks.Pairwise fun a b => a.2 ≤ b.2
  mem : ∀ p, p ∈ R.M ↔ p ∈ S.marks
  mono : R.M.Pairwise fun a b => a.1 ≤ b.1
  len : ∀ p ∈ S.marks, p.2 ≤ S.log.length
  lt : ∀ p ∈ S.marks, 0 ≤ p.1 ∧ p.1 < S.next
  next : 0 ≤ S.next ∧ S.next ≤ (N : Int)
  nl : R.L.length ≤ N
  nm : R.M.length ≤ N
  ns : S.marks.length ≤ N
  ok : ∀ p ∈ R.L, (∃ k : Nat, k < 32 ∧ p.1 = 8 * (k : Int)) ∧ 0 ≤ p.2 ∧ p.2 < 18446744073709551616
  kr : ∀ k ∈ ks, 0 ≤ k ∧ k ≤ (N : Int)
  nk : ks.length ≤ N
section
variable {S : OvS} {R : RfS} {ks : List Int} {N : Nat}
theorem OvRel.up (h : OvRel S R ks N) : OvRel S R ks (N + 1) :=
  { h with next := ⟨h.next.1, by have := h.next.2; omega⟩, nl := by have := h.nl; omega, nm := by have := h.nm; omega, ns := by have := h.ns; omega, kr := fun k hk => ⟨(h.kr k hk).1, by have := (h.kr k hk).2; omega⟩, nk := by have := h.nk; omega }
theorem OvRel.init : OvRel ⟨[], [], 0, false⟩ ⟨[], [], false⟩ [] 0 where
  log := rfl
  bad := rfl
  asc := by simp [Asc]
  asc2 := by simp
  mem := by simp
  mono := by simp
  len := by simp
  lt := by simp
  next := by simp
  nl := by simp
  nm := by simp
  ns := by simp
  ok := by simp
  kr := by simp
  nk := by simp
theorem OvRel.put (h : OvRel S R ks N) (k : Nat) (hk : k < 32) (v : Int) (hv : 0 ≤ v ∧ v < 18446744073709551616) : OvRel (S.put (8 * (k : Int)) v) (R.put (8 * (k : Int)) v) ks (N + 1) := by
  have h' := h.up
  refine { h' with log := by simp [OvS.put, RfS.put, h.log], len := fun p hp => ?_, nl := ?_, ok := fun p hp => ?_ }
  · have := h.len p hp; simp [OvS.put]; omega
  · have := h.nl; simp [RfS.put]; omega
  · rcases List.mem_append.1 hp with hp | hp
    · exact h.ok p hp
    · have : p = (8 * (k : Int), v) := by simpa using hp
      subst this
      exact ⟨⟨k, hk, rfl⟩, hv⟩
theorem OvRel.brk (h : OvRel S R ks N) : OvRel S.brk R.brk ks (N + 1) := { h.up with bad := rfl }
theorem OvRel.hit_last (h : OvRel S R ks N) {n : Int} (hh : S.hit = some n) : (n, S.log.length) ∈ S.marks ∧ ∀ p ∈ S.marks, p.1 ≤ n := by
  unfold OvS.hit at hh
  cases hg : S.marks.getLast? with
  | none => rw [hg] at hh; cases hh
  | some p =>
    rw [hg] at hh
    dsimp only at hh
    split at hh
    · rename_i hp
      injection hh with hh
      have hm : p ∈ S.marks := List.mem_of_getLast? hg
      refine ⟨by rw [← hh, ← hp]; exact hm, fun q hq => ?_⟩
      obtain ⟨i, hi, rfl⟩ := List.getElem_of_mem hq
      obtain ⟨ys, hys⟩ := List.getLast?_eq_some_iff.1 hg
      have hl : S.marks.length = ys.length + 1 := by rw [hys]; simp
      have hlast : S.marks[ys.length]'(by omega) = p := by simp [hys]
      by_cases he : i = ys.length
      · subst he; rw [hlast, hh]; exact Int.le_refl _
      · have := asc_get h.asc (i := i) (j := ys.length) (by omega) (by omega)
        rw [hlast, hh] at this
        omega
    · cases hh
theorem OvRel.mark (h : OvRel S R ks N) (hN : N < 1000000) : OvRel S.mark { R with M := R.M ++ [(S.markN, R.L.length)] } (ks ++ [S.markN]) (N + 1) := by
  have h' := h.up
  obtain ⟨n0, n1⟩ := h.next
  cases hh : S.hit with
  | some n =>
    have e1 : S.mark = S := by unfold OvS.mark; rw [hh]; simp
    have e2 : S.markN = n := by unfold OvS.markN; rw [hh]; rfl
    obtain ⟨hm, hmax⟩ := h.hit_last hh
    rw [e1, e2]
    refine { h' with mem := fun p => ?_, mono := ?_, nm := by have := h.nm; simp; omega, kr := fun k hk => ?_, nk := by have := h.nk; simp; omega }
    · rw [List.mem_append, h.mem p]
      refine ⟨fun hp => hp.elim id (fun hp => ?_), .inl⟩
      have : p = (n, R.L.length) := by simpa using hp
      rw [this, ← h.log]; exact hm
    · refine List.pairwise_append.2 ⟨h.mono, by simp, fun a ha b hb => ?_⟩
      have : b = (n, R.L.length) := by simpa using hb
      rw [this]
      exact hmax a ((h.mem a).1 ha)
    · rcases List.mem_append.1 hk with hk | hk
      · have := h.kr k hk; exact ⟨this.1, by omega⟩
      · have hkn : k = n := by simpa using hk
        have := h.lt _ hm
        rw [hkn]
        exact ⟨this.1, by have h2 := this.2; dsimp only at h2; omega⟩
  | none =>
    have e0 : wrap64 (S.next + 1) = S.next + 1 := by unfold wrap64; omega
    have e1 : S.mark = { S with marks := S.marks ++ [(S.next, S.log.length)], next := S.next + 1 } := by unfold OvS.mark; rw [hh, e0]; simp
    have e2 : S.markN = S.next := by unfold OvS.markN; rw [hh]; rfl
    rw [e1, e2]
    refine { h' with asc := ?_, asc2 := ?_, mem := fun p => ?_, mono := ?_, len := fun p hp => ?_, lt := fun p hp => ?_, next := ⟨by show 0 ≤ S.next + 1; omega, by show S.next + 1 ≤ _; omega⟩, nm := by have := h.nm; simp; omega, ns := by have := h.ns; simp; omega, kr := fun k hk => ?_, nk := by have := h.nk; simp; omega }
    · refine List.pairwise_append.2 ⟨h.asc, by simp, fun a ha b hb => ?_⟩
      have : b = (S.next, S.log.length) := by simpa using hb
      rw [this]; exact (h.lt a ha).2
    · refine List.pairwise_append.2 ⟨h.asc2, by simp, fun a ha b hb => ?_⟩
      have : b = (S.next, S.log.length) := by simpa using hb
      rw [this]; exact h.len a ha
    · rw [List.mem_append, List.mem_append, h.mem p, h.log]
    · refine List.pairwise_append.2 ⟨h.mono, by simp, fun a ha b hb => ?_⟩
      have : b = (S.next, R.L.length) := by simpa using hb
      rw [this]
      have := (h.lt a ((h.mem a).1 ha)).2
      show a.1 ≤ S.next
      omega
    · rcases List.mem_append.1 hp with hp | hp
      · exact h.len p hp
      · have : p = (S.next, S.log.length) := by simpa using hp
        rw [this]; exact Nat.le_refl _
    · rcases List.mem_append.1 hp with hp | hp
      · have := h.lt p hp
        exact ⟨this.1, by show p.1 < S.next + 1; omega⟩
      · have : p = (S.next, S.log.length) := by simpa using hp
        rw [this]; exact ⟨n0, by show S.next < S.next + 1; omega⟩
    · rcases List.mem_append.1 hk with hk | hk
      · have := h.kr k hk; exact ⟨this.1, by omega⟩
      · have hkn : k = S.next := by simpa using hk
        rw [hkn]
        exact ⟨n0, by omega⟩
/-- No mark has the number. -/
theorem OvRel.roll_no (h : OvRel S R ks N) (x : Int) (hx : ∀ p ∈ S.marks, p.1 ≠ x) : S.roll x = none ∧ ∀ p ∈ R.M, p.1 ≠ x := by
  refine ⟨?_, fun p hp => hx p ((h.mem p).1 hp)⟩
  unfold OvS.roll
  cases hg : S.marks[lessN S.marks x]? with
  | none => rfl
  | some p =>
    dsimp only
    rw [if_neg (hx p (List.mem_of_getElem? hg))]
/-- The last index of which something holds. -/
theorem last_index {α : Type} (p : α → Prop) (xs : List α) : (∃ a ∈ xs, p a) → ∃ q, ∃ (hq : q < xs.length), p xs[q] ∧ ∀ j (hj : j < xs.length), q < j → ¬ p xs[j] := by
  induction xs with
  | nil => rintro ⟨a, ha, _⟩; simp at ha
  | cons x xs ih =>
    intro h
    by_cases hx : ∃ a ∈ xs, p a
    · obtain ⟨q, hq, h1, h2⟩ := ih hx
      refine ⟨q + 1, by simpa using hq, h1, fun j hj hqj => ?_⟩
      cases j with
      | zero => omega
      | succ j => exact h2 j (by simpa using hj) (by omega)
    · obtain ⟨a, ha, hpa⟩ := h
      have : a = x := by
        rcases List.mem_cons.1 ha with h | h
        · exact h
        · exact absurd ⟨a, h, hpa⟩ hx
      subst this
      refine ⟨0, by simp, hpa, fun j hj hqj => ?_⟩
      cases j with
      | zero => omega
      | succ j => exact fun hp => hx ⟨_, List.getElem_mem (by simpa using hj), hp⟩
/-- A mark has the number. -/
theorem OvRel.roll (h : OvRel S R ks N) (x : Int) (hx : ∃ p ∈ S.marks, p.1 = x) :
    ∃ (k l q : Nat), S.roll x = some (S.rollTo k l) ∧ ∃ (hq : q < R.M.length), R.M[q] = (x, l) ∧ l ≤ R.L.length ∧ (∀ j (hj : j < R.M.length), q < j → (R.M[j]).1 ≠ x) ∧ OvRel (S.rollTo k l) (R.rollTo q l) ks (N + 1) := by
  obtain ⟨p, hp, hpx⟩ := hx
  obtain ⟨k, hk, hke⟩ := List.getElem_of_mem hp
  obtain ⟨x', l⟩ := p
  have hx' : x' = x := hpx
  subst hx'
  have hlk : lessN S.marks x' = k := by
    have h1 := lessN_iff h.asc x' hk
    rw [hke] at h1
    have h2 : ¬ k < lessN S.marks x' := fun hlt => by have := h1.1 hlt; dsimp only at this; omega
    by_cases h3 : lessN S.marks x' < k
    · have h4 : lessN S.marks x' < S.marks.length := by omega
      have h5 := asc_get h.asc (i := lessN S.marks x') (j := k) hk h3
      rw [hke] at h5
      have := (lessN_iff h.asc x' h4).2 h5
      omega
    · omega
  obtain ⟨q, hq, hq1, hq2⟩ := last_index (fun p : Int × Nat => p.1 = x') R.M ⟨(x', l), (h.mem _).2 hp, rfl⟩
  have hql : R.M[q] = (x', l) := by
    have hm := (h.mem _).1 (List.getElem_mem hq)
    obtain ⟨j, hj, hje⟩ := List.getElem_of_mem hm
    have hjk : j = k := by
      rcases Nat.lt_trichotomy j k with hlt | he | hgt
      · have := asc_get h.asc (i := j) (j := k) hk hlt
        rw [hje, hke, hq1] at this; dsimp only at this; omega
      · exact he
      · have := asc_get h.asc (i := k) (j := j) hj hgt
        rw [hje, hke, hq1] at this; dsimp only at this; omega
    subst hjk
    rw [← hje, hke]
  have hll : l ≤ R.L.length := by have := h.len _ hp; rw [h.log] at this; exact this
  refine ⟨k, l, q, ?_, hq, hql, hll, hq2, ?_⟩
  · unfold OvS.roll
    rw [hlk, List.getElem?_eq_getElem hk, hke]
    simp
  · have h' := h.up
    have hsub : ∀ p, p ∈ S.marks.take (k + 1) → p ∈ S.marks := fun p hp => List.mem_of_mem_take hp
    refine { h' with log := ?_, asc := ?_, asc2 := ?_, mem := fun p => ?_, mono := ?_, len := fun p hp => ?_, lt := fun p hp => h.lt p (hsub p hp), nl := ?_, nm := ?_, ns := ?_, ok := fun p hp => h.ok p (List.mem_of_mem_take hp) }
    · show S.log.take l = R.L.take l; rw [h.log]
    · exact List.Pairwise.sublist (List.take_sublist _ _) h.asc
    · exact List.Pairwise.sublist (List.take_sublist _ _) h.asc2
    · show p ∈ R.M.take (q + 1) ↔ p ∈ S.marks.take (k + 1)
      constructor
      · intro hp
        obtain ⟨i, hi, rfl⟩ := List.getElem_of_mem hp
        rw [List.length_take] at hi
        rw [List.getElem_take]
        have hle : (R.M[i]'(by omega)).1 ≤ x' := by
          by_cases he : i = q
          · subst he; rw [hql]; exact Int.le_refl _
          · have := List.pairwise_iff_getElem.1 h.mono i q (by omega) hq (by omega)
            rw [hql] at this; exact this
        obtain ⟨j, hj, hje⟩ := List.getElem_of_mem ((h.mem _).1 (List.getElem_mem (show i < R.M.length by omega)))
        have hjk : j ≤ k := by
          apply Nat.le_of_not_lt
          intro hgt
          have := asc_get h.asc (i := k) (j := j) hj hgt
          rw [hje, hke] at this; dsimp only at this; omega
        rw [← hje]
        exact List.mem_take_iff_getElem.2 ⟨j, by omega, rfl⟩
      · intro hp
        obtain ⟨j, hj, hje⟩ := List.mem_take_iff_getElem.1 hp
        have hjl : j < S.marks.length := by omega
        have hle : p.1 ≤ x' := by
          rw [← hje]
          by_cases he : j = k
          · subst he; rw [hke]; exact Int.le_refl _
          · have := asc_get h.asc (i := j) (j := k) hk (by omega)
            rw [hke] at this; dsimp only at this; omega
        obtain ⟨i, hi, hie⟩ := List.getElem_of_mem ((h.mem p).2 (hsub p hp))
        have hiq : i ≤ q := by
          apply Nat.le_of_not_lt
          intro hgt
          have h1 := List.pairwise_iff_getElem.1 h.mono q i hq hi hgt
          rw [hql, hie] at h1
          have h2 := hq2 i hi hgt
          rw [hie] at h2
          exact h2 (by dsimp only at h1; omega)
        exact List.mem_take_iff_getElem.2 ⟨i, by omega, hie⟩
    · exact List.Pairwise.sublist (List.take_sublist _ _) h.mono
    · show p.2 ≤ (S.log.take l).length
      obtain ⟨j, hj, hje⟩ := List.mem_take_iff_getElem.1 (show p ∈ S.marks.take (k + 1) from hp)
      have hpl : p.2 ≤ l := by
        rw [← hje]
        by_cases he : j = k
        · subst he; rw [hke]; exact Nat.le_refl _
        · have := List.pairwise_iff_getElem.1 h.asc2 j k (by omega) hk (by omega)
          rw [hke] at this; exact this
      rw [List.length_take, h.log]
      omega
    · show (R.L.take l).length ≤ N + 1
      have := h.nl; rw [List.length_take]; omega
    · show (R.M.take (q + 1)).length ≤ N + 1
      have := h.nm; rw [List.length_take]; omega
    · show (S.marks.take (k + 1)).length ≤ N + 1
      have := h.ns; rw [List.length_take]; omega
end
end Go.Proofs.Ytngkhligjkcbmaa

namespace Go.Proofs.Ytngkhligjkcbmaa
open Go.RowKit
set_option linter.unusedVariables false

def iints (ks : List Int) : List Value := ks.map (Value.int .i64)
/-- The overlay, the reference's, and the marks; the blocks K belong to none of them. -/
structure MoI (K : Nat → Prop) (o T r : Nat) (ws : List Int) (W : World) (S : OvS) (R : RfS) (A : Option Addr) (n c : Nat) (ks : List Int) : Prop where
  ex : ∃ F X, OV F o (bT T) W S ∧ RfO X r ws W R ∧ (∀ b, b < W.heap.size → F b → ¬ K b ∧ ¬ X b ∧ ¬ OwnB A b) ∧ (∀ b, b < W.heap.size → X b → ¬ K b ∧ ¬ OwnB A b)
  sl : Sl 3 1 W A n c (iints ks)
  own : ∀ b, OwnB A b → ¬ K b
  kl : ∀ b, K b → b < W.heap.size
theorem OV.shr {F T : Nat → Prop} {o : Nat} {B : Value} {w w' : World} {S : OvS} (h : OV F o B w S) (hc : Ch T w w') (hT : ∀ b, b < w.heap.size → F b → ¬ T b) : OV (fun b => F b ∧ ¬ (w.heap.size ≤ b ∧ b < w'.heap.size)) o B w' S := by
  obtain ⟨h1, mb, la, lc, ma, mc, h2, f1, f2, f3, f4⟩ := h
  have hn : ∀ b, (b = o ∨ b = mb ∨ OwnB la b ∨ OwnB ma b) → ¬ (w.heap.size ≤ b ∧ b < w'.heap.size) := fun b hb hx => by have := h2.lt hb; omega
  have hF : ∀ b, (b = o ∨ b = mb ∨ OwnB la b ∨ OwnB ma b) → F b := fun b hb => by
    rcases hb with rfl | rfl | hb | hb
    · exact f1
    · exact f2
    · exact f3 b hb
    · exact f4 b hb
  exact ⟨fun b hb => ⟨h1 b (by have := hc.size; omega), by omega⟩, mb, la, lc, ma, mc, h2.keep (fun b hb => hc.block b (h2.lt hb) (hT b (h2.lt hb) (hF b hb))), ⟨f1, hn _ (.inl rfl)⟩, ⟨f2, hn _ (.inr (.inl rfl))⟩, fun b hb => ⟨f3 b hb, hn _ (.inr (.inr (.inl hb)))⟩, fun b hb => ⟨f4 b hb, hn _ (.inr (.inr (.inr hb)))⟩⟩
theorem RfO.shr {X T : Nat → Prop} {r : Nat} {ws : List Int} {w w' : World} {R : RfS} (h : RfO X r ws w R) (hc : Ch T w w') (hT : ∀ b, b < w.heap.size → X b → ¬ T b) : RfO (fun b => X b ∧ ¬ (w.heap.size ≤ b ∧ b < w'.heap.size)) r ws w' R := by
  obtain ⟨h1, wA, wc, lA, lc, mA, mc, h2, f1, f2, f3, f4⟩ := h
  have hn : ∀ b, (b = r ∨ OwnB wA b ∨ OwnB lA b ∨ OwnB mA b) → ¬ (w.heap.size ≤ b ∧ b < w'.heap.size) := fun b hb hx => by have := h2.lt hb; omega
  have hF : ∀ b, (b = r ∨ OwnB wA b ∨ OwnB lA b ∨ OwnB mA b) → X b := fun b hb => by
    rcases hb with rfl | hb | hb | hb
    · exact f1
    · exact f2 b hb
    · exact f3 b hb
    · exact f4 b hb
  exact ⟨fun b hb => ⟨h1 b (by have := hc.size; omega), by omega⟩, wA, wc, lA, lc, mA, mc, h2.keep (fun b hb => hc.block b (h2.lt hb) (hT b (h2.lt hb) (hF b hb))), ⟨f1, hn _ (.inl rfl)⟩, fun b hb => ⟨f2 b hb, hn _ (.inr (.inl hb))⟩, fun b hb => ⟨f3 b hb, hn _ (.inr (.inr (.inl hb)))⟩, fun b hb => ⟨f4 b hb, hn _ (.inr (.inr (.inr hb)))⟩⟩
section
variable {K : Nat → Prop} {o T r n c : Nat} {ws ks : List Int} {W W' : World} {S S' : OvS} {R R' : RfS} {A : Option Addr}
theorem MoI.less {K' : Nat → Prop} (h : MoI K o T r ws W S R A n c ks) (hK : ∀ b, K' b → K b) : MoI K' o T r ws W S R A n c ks := by
  obtain ⟨⟨F, X, h1, h2, h3, h4⟩, h5, h6, h7⟩ := h
  exact ⟨⟨F, X, h1, h2, fun b hb hf => ⟨fun hk => (h3 b hb hf).1 (hK b hk), (h3 b hb hf).2⟩, fun b hb hx => ⟨fun hk => (h4 b hb hx).1 (hK b hk), (h4 b hb hx).2⟩⟩, h5, fun b hb hk => h6 b hb (hK b hk), fun b hk => h7 b (hK b hk)⟩
/-- Only new memory: it may belong to others. -/
theorem MoI.bl (h : MoI K o T r ws W S R A n c ks) (hb : Below W.heap.size W W') : MoI (fun b => K b ∨ (W.heap.size ≤ b ∧ b < W'.heap.size)) o T r ws W' S R A n c ks := by
  obtain ⟨⟨F, X, h1, h2, h3, h4⟩, h5, h6, h7⟩ := h
  have hs := hb.size
  refine ⟨⟨_, _, h1.shr (T := fun _ => False) (Ch.of_below hb) (fun _ _ _ hf => hf), h2.shr (T := fun _ => False) (Ch.of_below hb) (fun _ _ _ hf => hf), fun b hbl hf => ?_, fun b hbl hx => ?_⟩, h5.keep (fun b hb' => hb.block b (h5.lt hb')), fun b hb' hk => ?_, fun b hk => ?_⟩
  · have hlt : b < W.heap.size := by have := hf.2; omega
    obtain ⟨x1, x2, x3⟩ := h3 b hlt hf.1
    exact ⟨fun hk => hk.elim x1 hf.2, fun hx => x2 hx.1, x3⟩
  · have hlt : b < W.heap.size := by have := hx.2; omega
    obtain ⟨x1, x2⟩ := h4 b hlt hx.1
    exact ⟨fun hk => hk.elim x1 hx.2, x2⟩
  · rcases hk with hk | hk
    · exact h6 b hb' hk
    · have := h5.lt hb'; omega
  · rcases hk with hk | hk
    · have := h7 b hk; omega
    · exact hk.2
/-- A call on the overlay. -/
theorem MoI.left {F X : Nat → Prop} (h1 : OV F o (bT T) W' S') (h2 : RfO X r ws W R) (hC : Ch F W W') (h3 : ∀ b, b < W.heap.size → F b → ¬ K b ∧ ¬ X b ∧ ¬ OwnB A b) (h4 : ∀ b, b < W.heap.size → X b → ¬ K b ∧ ¬ OwnB A b) (h5 : Sl 3 1 W A n c (iints ks)) (h6 : ∀ b, OwnB A b → ¬ K b) (h7 : ∀ b, K b → b < W.heap.size) : MoI K o T r ws W' S' R A n c ks := by
  have hs := hC.size
  refine ⟨⟨F, _, h1, h2.shr hC (fun b hb hx hf => (h3 b hb hf).2.1 hx), fun b hb hf => ?_, fun b hb hx => ?_⟩, h5.keep (fun b hb => hC.block b (h5.lt hb) (fun hf => (h3 b (h5.lt hb) hf).2.2 hb)), h6, fun b hk => by have := h7 b hk; omega⟩
  · by_cases hl : b < W.heap.size
    · obtain ⟨x1, x2, x3⟩ := h3 b hl hf
      exact ⟨x1, fun hx => x2 hx.1, x3⟩
    · exact ⟨fun hk => hl (h7 b hk), fun hx => hx.2 ⟨by omega, hb⟩, fun ha => hl (h5.lt ha)⟩
  · exact h4 b (by have := hx.2; omega) hx.1
theorem moOv {v : Value} {f : FuncId} {args : Array Value} (h : MoI K o T r ws W S R A n c ks) (hcall : ∀ F, OV F o (bT T) W S → Calls Try.prog f args W fun e w' => e = .returned v ∧ OV F o (bT T) w' S' ∧ Ch F W w') :
    Calls Try.prog f args W fun e w' => e = .returned v ∧ MoI K o T r ws w' S' R A n c ks ∧ Ch (fun b => ¬ K b) W w' := by
  obtain ⟨⟨F, X, h1, h2, h3, h4⟩, h5, h6, h7⟩ := h
  refine (hcall F h1).mono ?_
  rintro e w' ⟨rfl, hO, hC⟩
  exact ⟨rfl, MoI.left hO h2 hC h3 h4 h5 h6 h7, hC.mono (fun b hf hb => (h3 b hb hf).1)⟩
/-- A change of the reference's overlay. -/
theorem MoI.right {F X : Nat → Prop} (h1 : OV F o (bT T) W S) (h2 : RfO X r ws W' R') (hC : Ch X W W') (h3 : ∀ b, b < W.heap.size → F b → ¬ K b ∧ ¬ X b ∧ ¬ OwnB A b) (h4 : ∀ b, b < W.heap.size → X b → ¬ K b ∧ ¬ OwnB A b) (h5 : Sl 3 1 W A n c (iints ks)) (h6 : ∀ b, OwnB A b → ¬ K b) (h7 : ∀ b, K b → b < W.heap.size) : MoI K o T r ws W' S R' A n c ks := by
  have hs := hC.size
  refine ⟨⟨_, X, h1.shr hC (fun b hb hf hx => (h3 b hb hf).2.1 hx), h2, fun b hb hf => ?_, fun b hb hx => ?_⟩, h5.keep (fun b hb => hC.block b (h5.lt hb) (fun hx => (h4 b (h5.lt hb) hx).2 hb)), h6, fun b hk => by have := h7 b hk; omega⟩
  · exact h3 b (by have := hf.2; omega) hf.1
  · by_cases hl : b < W.heap.size
    · exact h4 b hl hx
    · exact ⟨fun hk => hl (h7 b hk), fun ha => hl (h5.lt ha)⟩
theorem moRf {v : Value} {f : FuncId} {args : Array Value} (h : MoI K o T r ws W S R A n c ks) (hcall : ∀ X, RfO X r ws W R → Calls Try.prog f args W (RfPost X r ws W R' v)) :
    Calls Try.prog f args W fun e w' => e = .returned v ∧ MoI K o T r ws w' S R' A n c ks ∧ Ch (fun b => ¬ K b) W w' := by
  obtain ⟨⟨F, X, h1, h2, h3, h4⟩, h5, h6, h7⟩ := h
  refine (hcall X h2).mono ?_
  rintro e w' ⟨rfl, hO, hC⟩
  exact ⟨rfl, MoI.right h1 hO hC h3 h4 h5 h6 h7, hC.mono (fun b hx hb => (h4 b hb hx).1)⟩
theorem MoI.bl0 (h : MoI K o T r ws W S R A n c ks) (hb : Below W.heap.size W W') : MoI K o T r ws W' S R A n c ks := (h.bl hb).less (fun b hk => .inl hk)
/-- The marks grow. -/
theorem MoI.grow {A2 : Option Addr} {c2 : Nat} {k : Int} (h : MoI K o T r ws W S R A n c ks) (hC : Ch (OwnB A) W W') (hO : Sl 3 1 W' A2 (n + 1) c2 (iints ks ++ [.int .i64 k])) (hA : ∀ b, OwnB A2 b → OwnB A b ∨ (W.heap.size ≤ b ∧ b < W'.heap.size)) : MoI K o T r ws W' S R A2 (n + 1) c2 (ks ++ [k]) := by
  obtain ⟨⟨F, X, h1, h2, h3, h4⟩, h5, h6, h7⟩ := h
  have hs := hC.size
  refine ⟨⟨_, _, h1.shr hC (fun b hb hf => (h3 b hb hf).2.2), h2.shr hC (fun b hb hx => (h4 b hb hx).2), fun b hb hf => ?_, fun b hb hx => ?_⟩, by simpa [iints] using hO, fun b hb hk => ?_, fun b hk => by have := h7 b hk; omega⟩
  · obtain ⟨x1, x2, x3⟩ := h3 b (by have := hf.2; omega) hf.1
    exact ⟨x1, fun hx => x2 hx.1, fun ha => (hA b ha).elim x3 hf.2⟩
  · obtain ⟨x1, x2⟩ := h4 b (by have := hx.2; omega) hx.1
    exact ⟨x1, fun ha => (hA b ha).elim x2 hx.2⟩
  · rcases hA b hb with ha | ha
    · exact h6 b ha hk
    · have := h7 b hk; omega
/-- The law's comparison. -/
theorem moMatches {N : Nat} (h : MoI K o T r ws W S R A n c ks) (hB : BaseM T 4 ws W) (hw : ws.length = 32) (hR : OvRel S R ks N) (hN : N < 1000) :
    Calls Try.prog 31 #[.pointer (some ⟨o, 0, none⟩), .pointer (some ⟨r, 0, none⟩)] W fun e w' => e = .returned (.bool true) ∧ MoI K o T r ws w' S R A n c ks ∧ Below W.heap.size W w' := by
  obtain ⟨F, X, h1, h2, h3, h4⟩ := h.ex
  refine (matches10 W h1 hB h2 hw hR.log hR.bad (by have := hR.nl; omega) (fun p hp => (hR.ok p hp).1)).mono ?_
  rintro e w' ⟨rfl, hb⟩
  exact ⟨rfl, h.bl0 hb, hb⟩
/-- A mark of the reference's. -/
theorem MoI.addMark (x : Int) (l : Nat) (h : MoI K o T r ws W S R A n c ks) :
    ∃ mA mc lA lc, W.cell? ⟨r, 2, none⟩ = some (.slice mA R.M.length mc) ∧ W.cell? ⟨r, 1, none⟩ = some (.slice lA R.L.length lc) ∧ r < W.heap.size ∧ Sl 64 2 W mA R.M.length mc (mcells R.M) ∧
      ∀ W1, Below W.heap.size W W1 → ∀ A2 c2 w2, Ch (OwnB mA) W1 w2 → Sl 64 2 w2 A2 (R.M.length + 1) c2 (mcells R.M ++ [.int .i64 x, .int .i64 (l : Int)]) → (∀ b, OwnB A2 b → OwnB mA b ∨ b = W1.heap.size) →
        w2.frozen? ⟨r, 2, none⟩ = false ∧ w2.cell? ⟨r, 2, none⟩ = some (.slice mA R.M.length mc) ∧ r < w2.heap.size ∧ MoI K o T r ws (w2.setCell ⟨r, 2, none⟩ (.slice A2 (R.M.length + 1) c2)) S { R with M := R.M ++ [(x, l)] } A n c ks ∧ Ch (fun b => ¬ K b) W (w2.setCell ⟨r, 2, none⟩ (.slice A2 (R.M.length + 1) c2)) := by
  obtain ⟨⟨F, X, h1, h2, h3, h4⟩, h5, h6, h7⟩ := h
  obtain ⟨x0, wA, wc, lA, lc, mA, mc, d, x1, x2, x3, x4⟩ := h2
  refine ⟨mA, mc, lA, lc, d.st.cell_some rfl, d.st.cell_some rfl, d.st.lt, d.mks, fun W1 hb A2 c2 w2 hC hO hA => ?_⟩
  have hsz := hb.size
  have hs2 := hC.size
  have hk2 : ∀ b, b < W.heap.size → ¬ OwnB mA b → w2.heap[b]? = W.heap[b]? := fun b hl hn => (hC.block b (by omega) hn).trans (hb.block b hl)
  have hr := d.st.lt
  have hst := d.st.keep (hk2 r hr (fun h => (d.om r h).1 rfl))
  have hA2 : ∀ b, OwnB A2 b → OwnB mA b ∨ W.heap.size ≤ b := fun b hb' => (hA b hb').imp id (fun he => by omega)
  have hk3 : ∀ b, b ≠ r → (w2.setCell ⟨r, 2, none⟩ (.slice A2 (R.M.length + 1) c2)).heap[b]? = w2.heap[b]? := fun b hb' => Below.heap_setCell w2 ⟨r, 2, none⟩ _ b hb'
  have hCX : Ch X W (w2.setCell ⟨r, 2, none⟩ (.slice A2 (R.M.length + 1) c2)) := ((Ch.of_below hb).trans hC (fun b h _ => x4 b h)).setCell (a := ⟨r, 2, none⟩) (.inl x1) _
  have hA3 : ∀ b, OwnB A2 b → b ≠ r := fun b hb' he => by
    rcases hA2 b hb' with h | h
    · exact (d.om b h).1 he
    · omega
  refine ⟨hst.frozen 2, hst.cell_some rfl, hst.lt, MoI.right h1 ⟨fun b hb' => x0 b (by simp at hb'; omega), wA, wc, lA, lc, A2, c2, ⟨?_, ?_, ?_, ?_, d.ow, d.ol, fun b hb' => ⟨hA3 b hb', fun h => ?_, fun h => ?_⟩⟩, x1, x2, x3, fun b hb' => (hA2 b hb').elim (x4 b) (x0 b)⟩ hCX h3 h4 h5 h6 h7, hCX.mono (fun b hx hb' => (h4 b hb' hx).1)⟩
  · have e1 : (R.M ++ [(x, l)]).length = R.M.length + 1 := by simp
    simp only [e1]
    exact hst.set 2 (.slice A2 (R.M.length + 1) c2)
  · exact d.wd.keep (fun b hb' => (hk3 b (d.ow b hb')).trans (hk2 b (d.wd.lt hb') (fun h => (d.om b h).2.2 hb')))
  · exact d.lg.keep (fun b hb' => (hk3 b (d.ol b hb')).trans (hk2 b (d.lg.lt hb') (fun h => (d.om b h).2.1 hb')))
  · have e1 : (R.M ++ [(x, l)]).length = R.M.length + 1 := by simp
    simp only [e1, mcells_snoc]
    exact hO.keep (fun b hb' => hk3 b (hA3 b hb'))
  · rcases hA2 b hb' with h' | h'
    · exact (d.om b h').2.1 h
    · have := d.lg.lt h; omega
  · rcases hA2 b hb' with h' | h'
    · exact (d.om b h').2.2 h
    · have := d.wd.lt h; omega
end
end Go.Proofs.Ytngkhligjkcbmaa

namespace Go.Proofs.Ytngkhligjkcbmaa
open Go.RowKit
set_option linter.unusedVariables false

theorem info_markR : (Try.prog.info? 64).map (fun i => (i.zero, i.size, i.bytes)) = some (some (.agg #[.int .i64 0, .int .i64 0]), 2, 16) := by kernel_rfl
/-- What holds between two actions. -/
def MoHd (w3 : World) (o T r : Nat) (ws : List Int) (N : Nat) (s : Value) (W : World) : Prop :=
  ∃ S R A m c ks, s = .slice A m c ∧ ks.length = m ∧ MoI (fun b => b < w3.heap.size) o T r ws W S R A m c ks ∧ OvRel S R ks N ∧ Below w3.heap.size w3 W
theorem mo_back {w3 W W' : World} {K : Nat → Prop} (hK : ∀ b, b < w3.heap.size → K b) (hb : Below w3.heap.size w3 W) (hC : Ch (fun b => ¬ K b) W W') : Below w3.heap.size w3 W' :=
  hb.trans ⟨hC.os, hC.tape, hC.output, hC.size, fun b hbl => hC.block b (by have := hb.size; omega) (fun h => h (hK b hbl))⟩
theorem mo_act {W W' : World} {K : Nat → Prop} {g : Nat} {v : Array Value} {t : TypeId} (hK : K g) (h : CB W g t v) (hC : Ch (fun b => ¬ K b) W W') : CB W' g t v := h.keep (hC.block g h.lt (fun hn => hn hK))
theorem moSize {K : Nat → Prop} {o T r n c : Nat} {ws ks : List Int} {W : World} {S : OvS} {R : RfS} {A : Option Addr} (h : MoI K o T r ws W S R A n c ks) (hB : BaseM T 4 ws W) : Calls Try.prog 33 #[.pointer (some ⟨o, 0, none⟩)] W fun e w' => e = .returned (.int .u64 256) ∧ W = w' := by
  obtain ⟨F, X, h1, _⟩ := h.ex
  exact ovSize W h1 hB

set_option maxRecDepth 100000 in
set_option maxHeartbeats 16000000 in
theorem law_MemOverlays (w : World) (A0 : Option Addr) (n0 c0 : Nat) (z0 : List (Int × Int × Int)) (hz0 : IsTrips w A0 n0 c0 z0) :
    Calls Try.prog 4 #[.slice A0 n0 c0] w fun e w' => e = .returned (.bool true) ∧ Below w.heap.size w w' := by
  have HAW := Lib.hid (awake10_ok w)
  have HZ := Lib.hid (fun W (hW : Below w.heap.size w W) => hz0.bx hW)
  have HN := Lib.hid hz0.1
  have hn1 : n0 ≤ 9223372036854775807 := by have := hz0.2.1; have := hz0.2.2.1; omega
  clear hz0
  go_enter Try.func4, Try.ntmps4
  go_upto_region 3 with (go_at_call 11; refine HAW.out.mono ?_; rintro e w2 ⟨rfl, hb⟩; have HB2 := Lib.hid hb; have HFR1 := Lib.hid (fresh_ok w2); clear hb)
  clear HAW
  go_upto_region 4 with (go_at_call 20; first
    | ((with_reducible refine HFR1.out.mono ?_); rintro e w3 ⟨d1, L1, rfl, hD, hb, hf⟩; have HD1 := Lib.hid hD; have HB3 := Lib.hid hb; have HF1 := Lib.hid hf; have HFR2 := Lib.hid (fresh_ok w3); clear hD hb hf)
    | ((with_reducible refine HFR2.out.mono ?_); rintro e w4 ⟨d2, L2, rfl, hD, hb, hf⟩; have HD2 := Lib.hid hD; have HB4 := Lib.hid hb; have HF2 := Lib.hid hf; clear hD hb hf))
  obtain ⟨F, G, hTwo, hF, hGf⟩ := two_fresh HD1.out HB3.out HF1.out HD2.out HB4.out HF2.out
  have hon := new_on frW 4 frW_length
  have hfit := fr_fitS
  have hfitc := fr_fitC
  obtain ⟨S0, hS0⟩ : ∃ S, newS frW 4 = S := ⟨_, rfl⟩
  rw [hS0] at hTwo hon hfit hfitc
  obtain ⟨t1, ht1⟩ : ∃ t, L1.t = t := ⟨_, rfl⟩
  obtain ⟨t2, ht2⟩ : ∃ t, L2.t = t := ⟨_, rfl⟩
  rw [ht1, ht2] at hTwo
  have HB24 : Hid (Below w2.heap.size w2 w4) := HB3.out.trans (HB4.out.mono HB3.out.size)
  obtain ⟨ws, hws⟩ : ∃ ws, frW = ws := ⟨_, rfl⟩
  rw [hws] at hon
  have HWL : Hid (ws.length = 32) := by show _ = _; rw [← hws]; exact frW_length
  obtain ⟨T, hT⟩ : ∃ T, t1 0 = T := ⟨_, rfl⟩
  have HBM : Hid (BaseM T 4 ws w4) := by rw [← hT]; exact baseM hTwo.1 hon 0 (by omega)
  have HTH : Hid (∀ W, Below w4.heap.size w4 W → Calls Try.prog 22 #[.pointer (some ⟨d1, 0, none⟩), .int .i64 0] W fun e w' => e = .returned (.pointer (some ⟨T, 0, none⟩)) ∧ W = w') := by
    rw [← hT]; exact fun W hW => vThread0 (hTwo.1.below hW)
  have HAL : Hid (∀ W, Below w4.heap.size w4 W → Calls Try.prog 32 #[.pointer (some ⟨d1, 0, none⟩), .pointer (some ⟨d2, 0, none⟩)] W fun r w' => r = .returned (.bool true) ∧ Below W.heap.size W w') := by
    intro W hW
    obtain ⟨G', hT', _⟩ := hTwo.below hW
    exact hT'.alike (Same.refl _) hfit hfitc hon.good (by omega)
  clear HFR1 HFR2 HD1 HD2 HB3 HB4 HF1 HF2 hS0 ht1 ht2 hTwo hF hGf hon hfit hfitc hws hT
  have HOVR := Lib.hid (ovOver w4 T)
  unfold bT at HOVR
  go_upto_region 5 with (first
    | (go_at_call 22; refine (HTH.out _ (Below.refl _ _)).mono ?_; rintro e w' ⟨rfl, rfl⟩)
    | (go_at_call 21; refine HOVR.out.mono ?_; rintro e w5 ⟨o, rfl, hO, hb⟩; have HO5 := Lib.hid hO; have HB5 := Lib.hid hb; clear hO hb))
  clear HOVR
  have HTH5 := Lib.hid (HTH.out w5 HB5.out)
  have HWD := Lib.hid (words10 w5 (HBM.out.below HB5.out) HWL.out)
  go_upto_region 6 with (first
    | (go_at_call 22; refine HTH5.out.mono ?_; rintro e w' ⟨rfl, rfl⟩)
    | (go_at_call 23; refine HWD.out.mono ?_; rintro e w6 ⟨wA, wc, rfl, hS, hb, hO⟩; have HS6 := Lib.hid hS; have HB6 := Lib.hid hb; have HO6 := Lib.hid hO; clear hS hb hO))
  clear HTH5 HWD HTH
  have HI0 : Hid (MoHd w4 o T w6.heap.size ws 0 (.slice none 0 0) (w6.alloc (.cells #[.slice wA 32 wc, .slice none 0 0, .slice none 0 0, .bool false] 57))) := by
    have hb57 : Below w5.heap.size w5 (w6.alloc (.cells #[.slice wA 32 wc, .slice none 0 0, .slice none 0 0, .bool false] 57)) := bl_alloc HB6.out _
    have s4 := HB5.out.size
    have s5 := HB6.out.size
    refine ⟨⟨[], [], 0, false⟩, ⟨[], [], false⟩, none, 0, 0, [], rfl, rfl, ⟨⟨_, fun b => w5.heap.size ≤ b, HO5.out.shr (T := fun _ => False) (Ch.of_below hb57) (fun _ _ _ hf => hf), ⟨fun b hb => by simp at hb; show w5.heap.size ≤ b; omega, wA, wc, none, 0, none, 0, ⟨?_, ?_, Sl.nil, Sl.nil, ?_, by simp [OwnB], by simp [OwnB]⟩, s5, HO6.out, by simp [OwnB], by simp [OwnB]⟩, fun b hb hf => ⟨fun hk => by have h1 : w4.heap.size ≤ b := hf.1; omega, fun hx => hf.2 ⟨hx, hb⟩, by simp [OwnB]⟩, fun b hb hx => ⟨fun hk => by have h1 : w5.heap.size ≤ b := hx; omega, by simp [OwnB]⟩⟩, Sl.nil, by simp [OwnB], fun b hk => by simp; omega⟩, OvRel.init, HB5.out.trans (hb57.mono s4)⟩
    · have := CB.new w6 57 #[.slice wA 32 wc, .slice none 0 0, .slice none 0 0, .bool false]
      simp only [HWL.out, List.length_nil]
      exact this
    · simp only [HWL.out]
      exact HS6.out.keep (fun b hb => Below.heap_alloc _ _ b (HS6.out.lt hb))
    · intro b hb he
      have := HS6.out.lt hb
      omega
  obtain ⟨r, hr⟩ : ∃ r, w6.heap.size = r := ⟨_, rfl⟩
  obtain ⟨w7, hw7⟩ : ∃ w7, w6.alloc (.cells #[.slice wA 32 wc, .slice none 0 0, .slice none 0 0, .bool false] 57) = w7 := ⟨_, rfl⟩
  rw [hw7, hr] at HI0
  rw [hw7, hr]
  clear hr hw7 HS6 HO6 HO5 HB5 HB6
  go_wp2
  go_loopw [29, 7, 2, 8, 9, 10, 11, 12, 13, 30, 31, 32, 33, 34, 35, 36, 37, 38, 39, 40, 41, 42, 43, 44, 45, 46, 47, 48, 49, 50, 51, 52, 53, 54, 55, 56, 57, 58, 59, 60, 61, 62, 63, 64, 65, 66, 67, 68, 69, 70, 71, 72, 73, 74, 75, 76, 77, 78, 79, 80, 81, 82, 83, 84, 85, 86, 87, 88, 89, 90, 91, 92, 93, 94, 95, 96, 97, 98, 99, 100, 101, 102, 103, 104, 105, 106, 107, 108, 109, 110, 111, 112, 113, 114, 115, 116, 117, 118, 119, 120, 121, 122, 123, 124, 125, 126, 127, 128, 129, 130, 131, 132, 133, 134, 135, 136, 137, 138, 139, 140, 141, 142, 143, 144, 145, 146, 147, 148, 149, 150, 151, 152] (fun i s _ _ _ _ _ _ _ _ _ _ _ _ _ _ _ _ _ _ _ _ _ _ _ _ _ _ _ _ _ _ _ _ _ _ _ _ _ _ _ _ _ _ _ _ _ _ _ _ _ _ _ _ _ _ _ _ _ _ _ _ _ _ _ _ _ _ _ _ _ _ _ _ _ _ _ _ _ _ _ _ _ _ _ _ _ _ _ _ _ _ _ _ _ _ _ _ _ _ _ _ _ _ _ _ _ _ _ _ _ _ _ _ _ _ _ _ _ _ _ _ _ _ _ _ _ _ _ _ _ _ wr => ∃ k : Nat, k ≤ n0 ∧ k ≤ 40 ∧ i = .int .i64 k ∧ MoHd w4 o T r ws k s wr) (fun i s _ _ _ _ _ _ _ _ _ _ _ _ _ _ _ _ _ _ _ _ _ _ _ _ _ _ _ _ _ _ _ _ _ _ _ _ _ _ _ _ _ _ _ _ _ _ _ _ _ _ _ _ _ _ _ _ _ _ _ _ _ _ _ _ _ _ _ _ _ _ _ _ _ _ _ _ _ _ _ _ _ _ _ _ _ _ _ _ _ _ _ _ _ _ _ _ _ _ _ _ _ _ _ _ _ _ _ _ _ _ _ _ _ _ _ _ _ _ _ _ _ _ _ _ _ _ _ _ _ _ _ => n0 - (intOf i).toNat)
  case atStart => exact ⟨0, by omega, by omega, rfl, HI0.out⟩
  case round =>
    clear HI0
    obtain ⟨k, hk, hk4, rfl, S, R, A, m, c, ks, rfl, hm, hI, hRel, hB⟩ := hrel
    have HI := Lib.hid hI
    have HREL := Lib.hid hRel
    have HB := Lib.hid hB
    have HM := Lib.hid hm
    have HBW : Hid (Below w2.heap.size w2 wr) := HB24.out.trans (hB.mono HB24.out.size)
    clear hI hRel hB hm
    by_cases hlt : k < n0
    · have hkl : k < z0.length := by rw [HN.out]; exact hlt
      obtain ⟨ab, ao, rfl, hbl, y1, y2, y3, r1, r2, r3⟩ := (HZ.out wr (HB2.out.trans (HBW.out.mono HB2.out.size))).2.2.2 k hkl
      obtain ⟨⟨dd, wd, v⟩, hp⟩ : ∃ p, z0[k] = p := ⟨_, rfl⟩
      rw [hp] at y1 y2 y3 r1 r2 r3
      clear hp
      by_cases h40 : k = 40
      · subst h40
        clear r1 r2 r3
        have HALF := Lib.hid (HAL.out (wr.alloc (.cells #[.int .u8 dd, .int .u8 wd, .int .u64 v] 60)) (bl_alloc HB.out _))
        have HIQ : Hid (MoI (fun b => b < w4.heap.size) o T r ws (wr.alloc (.cells #[.int .u8 dd, .int .u8 wd, .int .u64 v] 60)) S R A m c ks) := HI.out.bl0 (bl_alloc (Below.refl _ _) _)
        have HBQ : Hid (Below w4.heap.size w4 (wr.alloc (.cells #[.int .u8 dd, .int .u8 wd, .int .u64 v] 60))) := bl_alloc HB.out _
        go_wp2_with (first
          | (go_at_call 32; refine HALF.out.mono ?_; rintro e w8 ⟨rfl, hb⟩; have HB8 : Hid (Below w4.heap.size w4 w8) := HBQ.out.trans (hb.mono HBQ.out.size); have HSZ := Lib.hid (moSize (HIQ.out.bl0 hb) (HBM.out.below HB8.out)); clear hb)
          | (go_at_call 33; refine HSZ.out.mono ?_; rintro e w9 ⟨rfl, rfl⟩))
        go_ret
        exact ⟨rfl, HB2.out.trans ((HB24.out.trans (HB8.out.mono HB24.out.size)).mono HB2.out.size)⟩
      · have h40' : ((k : Int) == 40) = false := by simp; omega
        obtain ⟨r10, r11⟩ : 0 ≤ dd ∧ dd ≤ 255 := r1
        obtain ⟨r20, r21⟩ : 0 ≤ wd ∧ wd ≤ 255 := r2
        have HV : Hid (0 ≤ v ∧ v < 18446744073709551616) := r3
        obtain ⟨q, hq⟩ : ∃ q : Int, dd % 7 = q := ⟨_, rfl⟩
        have hqr : 0 ≤ q ∧ q < 7 := by omega
        clear r3
        go_upto_block 2 with (fail)
        have hcb : CB (wr.alloc (.cells #[.int .u8 dd, .int .u8 wd, .int .u64 v] 60)) wr.heap.size 60 [.int .u8 dd, .int .u8 wd, .int .u64 v].toArray := CB.new _ _ _
        have hI1 := HI.out.bl (bl_alloc (Below.refl _ _) (.cells #[.int .u8 dd, .int .u8 wd, .int .u64 v] 60))
        have hB1 := bl_alloc HB.out (.cells #[.int .u8 dd, .int .u8 wd, .int .u64 v] 60)
        obtain ⟨g, hg⟩ : ∃ g, wr.heap.size = g := ⟨_, rfl⟩
        obtain ⟨W1, hW1⟩ : ∃ W1, wr.alloc (.cells #[.int .u8 dd, .int .u8 wd, .int .u64 v] 60) = W1 := ⟨_, rfl⟩
        rw [hg, hW1] at hcb hI1
        rw [hW1] at hB1
        rw [hg, hW1]
        have HCB := Lib.hid hcb
        obtain ⟨K, hI1', hK⟩ : ∃ K : Nat → Prop, MoI K o T r ws W1 S R A m c ks ∧ (∀ b, b < w4.heap.size → K b) ∧ K g := ⟨_, hI1, fun b h => .inl h, .inr ⟨Nat.le_refl _, hcb.lt⟩⟩
        have HI1 := Lib.hid hI1'
        have HK := Lib.hid hK
        have HB1 := Lib.hid hB1
        have b0 : W1.cell? ⟨g, 0, none⟩ = some (.int .u8 dd) := hcb.cell_some rfl
        have b1 : W1.cell? ⟨g, 1, none⟩ = some (.int .u8 wd) := hcb.cell_some rfl
        have b2 : W1.cell? ⟨g, 2, none⟩ = some (.int .u64 v) := hcb.cell_some rfl
        have bl := hcb.lt
        clear hcb hI1 hI1' hK hB1 hg hW1 HI HB hbl y1 y2 y3
        go_cut [7, 10, 11, 12, 13] from 30 to 152 (fun s _ _ _ _ wx => MoHd w4 o T r ws (k + 1) s wx)
        case first =>
          rcases (by omega : q = 0 ∨ q = 1 ∨ q = 2 ∨ q = 3 ∨ q = 4 ∨ q = 5 ∨ q = 6) with rfl | rfl | rfl | rfl | rfl | rfl | rfl
          · clear hqr
            obtain ⟨j, hj, hjl⟩ : ∃ j : Nat, wd % 32 = (j : Int) ∧ j < 32 := ⟨(wd % 32).toNat, by omega, by omega⟩
            have e8 : IntKind.u64.wrap (8 * (j : Int)) = 8 * (j : Int) := IntWalk.u64_in _ (by omega)
            have ey8 : IntKind.u8.wrap (j : Int) = (j : Int) := by rw [IntKind.wrap_u8]; omega
            have ey : IntKind.u64.wrap (j : Int) = (j : Int) := IntWalk.u64_in _ (by omega)
            have HST1 := Lib.hid (moOv HI1.out (fun F hO => ovStore W1 hO (HBM.out.below HB1.out) j v (by omega) (by omega) HV.out (by rw [HREL.out.log]; have := HREL.out.nl; omega)))
            go_wp2_with (first
              | (go_at_call 24; refine HST1.out.mono ?_; rintro e w8 ⟨rfl, hI, hC⟩; have HI8 := Lib.hid hI; have HB8 := Lib.hid (mo_back HK.out.1 HB1.out hC); have hcb := mo_act HK.out.2 HCB.out hC; have x1 : w8.cell? ⟨g, 1, none⟩ = some (.int .u8 wd) := hcb.cell_some rfl; have x2 : w8.cell? ⟨g, 2, none⟩ = some (.int .u64 v) := hcb.cell_some rfl; have xl := hcb.lt; clear hI hC hcb)
              | (go_at_call 25; refine (moRf HI8.out (fun X hX => rfStore w8 hX 32 HWL.out (by omega) (by have := HREL.out.nl; omega) j (by omega) v HV.out)).mono ?_; rintro e w9 ⟨rfl, hI, hC⟩; have HI9 := Lib.hid hI; have HB9 := Lib.hid (mo_back HK.out.1 HB8.out hC); clear hI hC))
            go_meet
            exact ⟨_, _, A, m, c, ks, rfl, HM.out, HI9.out.less HK.out.1, HREL.out.put j hjl v HV.out, HB9.out⟩
          · clear hqr
            obtain ⟨mk, hmk⟩ : ∃ mk, S.markN = mk := ⟨_, rfl⟩
            have HST1 := Lib.hid (moOv HI1.out (fun F hO => ovMark W1 hO (by rw [HREL.out.log]; have := HREL.out.nl; omega) (by have := HREL.out.ns; omega)))
            rw [hmk] at HST1
            have hrm := HREL.out.mark (by omega)
            rw [hmk] at hrm
            obtain ⟨qm, hqm⟩ : ∃ n, R.M.length = n := ⟨_, rfl⟩
            obtain ⟨ql, hql⟩ : ∃ n, R.L.length = n := ⟨_, rfl⟩
            have hqmb : qm ≤ 40 := by have := HREL.out.nm; omega
            have hmb : m ≤ 40 := by have := HREL.out.nk; rw [HM.out] at this; omega
            rw [hql] at hrm
            have HRM := Lib.hid hrm
            have HQM := Lib.hid hqm
            have HQL := Lib.hid hql
            clear hmk hrm hqm hql
            go_upto_region 19 with (first
              | (go_at_call 26; refine HST1.out.mono ?_; rintro e w8 ⟨rfl, hI, hC⟩; have HI8 := Lib.hid hI; have HB8 := Lib.hid (mo_back HK.out.1 HB1.out hC); clear hI hC)
              | (at_builtin; refine wpList_append_sl rfl (.tmp 65) (.tmp 67) 58 rfl 3 (.int .i64 0) 1 8 rfl (by omega) Try.underlying58 info_int (by omega) A m c (iints ks) ⟨w8.heap.size, 0, none⟩ 1 1 [.int .i64 mk] rfl rfl (HI8.out.sl.keep (fun b hb => Below.heap_alloc _ _ b (HI8.out.sl.lt hb))) rfl (by omega) (cellsI_one _ _ _) (by simp; rfl) (by omega) ?_; intro A2 c2 w9 HO2 HC2 HW2 HN2))
            have hI9 : MoI K o T r ws w9 S.mark R A2 (m + 1) c2 (ks ++ [mk]) := (HI8.out.bl0 (bl_alloc (Below.refl _ _) _)).grow HC2.out HO2.out (fun b hb => (HW2.out b hb).imp id (fun he => ⟨by rw [he]; exact Nat.le_refl _, HO2.out.lt hb⟩))
            have HB9 : Hid (Below w4.heap.size w4 w9) := bl_ch (bl_alloc HB8.out _) HC2.out (fun b hb => by have := HI8.out.own b hb; have h1 := HK.out.1 b; exact Nat.le_of_not_lt (fun h => this (h1 h)))
            obtain ⟨mA, mc, lA, lc, k2, k1, kl, hS, hE⟩ := hI9.addMark mk ql
            rw [HQM.out] at k2 hS hE
            rw [HQL.out] at k1
            have HE := Lib.hid hE
            have HSM : Hid (Sl 64 2 (w9.drew.alloc (.cells #[.int .i64 mk, .int .i64 (ql : Int)] 64)) mA qm mc (mcells R.M)) := hS.keep (fun b hb => Below.heap_alloc w9.drew _ b (hS.lt hb))
            have hrn : ¬ r = w9.heap.size := by omega
            clear HST1 HI8 HC2 HO2 HW2 HN2 hS hE hI9
            go_region_law (first | (refine step_append_sl rfl (.tmp 73) (.tmp 81) 55 rfl 64 (.agg #[.int .i64 0, .int .i64 0]) 2 16 rfl (by omega) Try.underlying55 info_markR (by omega) mA qm mc (mcells R.M) ⟨w9.heap.size, 0, none⟩ 1 1 [.int .i64 mk, .int .i64 (ql : Int)] (by go_simp) (by go_simp) HSM.out rfl (by omega) (cells_two w9.drew 64 _ _) (by simp; exact ⟨rfl, rfl⟩) (by omega) ?_; intro A3 c3 w10 HO3 HC3 HW3 HN3; obtain ⟨z1, z2, z3, z4, z5⟩ := HE.out (w9.drew.alloc (.cells #[.int .i64 mk, .int .i64 (ql : Int)] 64)) (bl_alloc (bl_drew (Below.refl _ _)) _) A3 c3 w10 HC3.out HO3.out HW3.out; have HI10 := Lib.hid z4; have HC10 := Lib.hid z5; clear z4 z5))
            all_goals
              go_wp2
              go_meet
              exact ⟨_, _, A2, m + 1, c2, ks ++ [mk], rfl, by simp [HM.out], HI10.out.less HK.out.1, HRM.out, mo_back HK.out.1 HB9.out HC10.out⟩
          · clear hqr
            by_cases hm0 : m = 0
            · subst hm0
              go_wp2
              go_meet
              exact ⟨S, R, A, 0, c, ks, rfl, HM.out, HI1.out.less HK.out.1, HREL.out.up, HB1.out⟩
            · have hmb : m ≤ 40 := by have := HREL.out.nk; rw [HM.out] at this; omega
              have hmod := Int.emod_lt_of_pos wd (show (0 : Int) < (m : Int) by omega)
              have hmod0 := Int.emod_nonneg wd (show (m : Int) ≠ 0 by omega)
              obtain ⟨j, hj, hjl⟩ : ∃ j : Nat, wd % (m : Int) = (j : Int) ∧ j < m := ⟨(wd % (m : Int)).toNat, by omega, by omega⟩
              have hjk : j < (iints ks).length := by simp [iints, HM.out]; exact hjl
              obtain ⟨ag, ao2, hA', hag, hac⟩ := HI1.out.sl.at_ hjk
              obtain ⟨x, hx0⟩ : ∃ x, (iints ks)[j] = .int .i64 x := ⟨ks[j]'(by simpa [iints] using hjk), by simp [iints]⟩
              rw [hx0] at hac
              have hm1 : (0 : Int) < (m : Int) := by omega
              have hm2 : ((m : Int) == 0) = false := by simp; omega
              have hjl' : (j : Int) < (m : Int) := by omega
              have ei : IntKind.i64.wrap wd = wd := IntWalk.i64_in _ (by omega)
              have ej : IntKind.i64.wrap (j : Int) = (j : Int) := IntWalk.i64_in _ (by omega)
              have hm3 : ¬ m = 0 := hm0
              clear hmod hmod0 hjk hx0 hm0
              subst hA'
              by_cases hx : ∃ p ∈ S.marks, p.1 = x
              · obtain ⟨kk, l, qq, hroll, hqq, hRM, hll, hlast, hrel'⟩ := HREL.out.roll x hx
                have HST1 := Lib.hid (moOv HI1.out (fun F hO => ovRollback_ok W1 hO (by rw [HREL.out.log]; have := HREL.out.nl; omega) (by have := HREL.out.ns; omega) HREL.out.asc HREL.out.len (fun p hp => by rw [HREL.out.log] at hp; obtain ⟨⟨i, hi, he⟩, hv⟩ := HREL.out.ok p hp; exact ⟨by omega, hv⟩) x hroll))
                have HRR := Lib.hid (fun (W : World) X (hX : RfO X r ws W R) => rfRoll W hX (by have := HREL.out.nm; omega) (by have := HREL.out.nl; omega) x qq l hqq hRM hll hlast)
                have HR2 := Lib.hid hrel'
                clear hx hroll hRM hll hlast hrel' hqq
                go_wp2_with (first
                  | (go_at_call 27; refine HST1.out.mono ?_; rintro e w8 ⟨rfl, hI, hC⟩; have HI8 := Lib.hid hI; have HB8 := Lib.hid (mo_back HK.out.1 HB1.out hC); clear hI hC)
                  | (go_at_call 28; refine (moRf HI8.out (fun X hX => HRR.out w8 X hX)).mono ?_; rintro e w9 ⟨rfl, hI, hC⟩; have HI9 := Lib.hid hI; have HB9 := Lib.hid (mo_back HK.out.1 HB8.out hC); clear hI hC))
                go_meet
                exact ⟨_, _, some ⟨ag, ao2, none⟩, m, c, ks, rfl, HM.out, HI9.out.less HK.out.1, HR2.out, HB9.out⟩
              · obtain ⟨hroll, hno⟩ := HREL.out.roll_no x (fun p hp he => hx ⟨p, hp, he⟩)
                have HST1 : Hid (Calls Try.prog 27 #[.pointer (some ⟨o, 0, none⟩), .int .i64 x] W1 fun e w' => e = .returned (.int .i64 1) ∧ Below W1.heap.size W1 w') := by
                  obtain ⟨F, X, h1, _⟩ := HI1.out.ex
                  exact ovRollback_no W1 h1 (by have := HREL.out.ns; omega) HREL.out.asc x hroll
                have HRR : Hid (∀ W, MoI K o T r ws W S R (some ⟨ag, ao2, none⟩) m c ks → Calls Try.prog 28 #[.pointer (some ⟨r, 0, none⟩), .int .i64 x] W fun e w' => e = .returned (.bool false) ∧ W = w') := by
                  intro W hW
                  obtain ⟨F, X, _, h2, _⟩ := hW.ex
                  exact rfRoll_no W h2 (by have := HREL.out.nm; omega) x hno
                clear hx hroll hno
                go_wp2_with (first
                  | (go_at_call 27; refine HST1.out.mono ?_; rintro e w8 ⟨rfl, hb⟩; have HI8 := Lib.hid (HI1.out.bl0 hb); have HB8 : Hid (Below w4.heap.size w4 w8) := HB1.out.trans (hb.mono HB1.out.size); clear hb)
                  | (go_at_call 28; refine (HRR.out w8 HI8.out).mono ?_; rintro e w9 ⟨rfl, rfl⟩))
                go_meet
                exact ⟨_, _, some ⟨ag, ao2, none⟩, m, c, ks, rfl, HM.out, HI8.out.less HK.out.1, HREL.out.up, HB8.out⟩
          · clear hqr
            obtain ⟨x, hx0⟩ : ∃ x, IntKind.i64.wrap v = x := ⟨_, rfl⟩
            by_cases hx : ∃ p ∈ S.marks, p.1 = x
            · obtain ⟨kk, l, qq, hroll, hqq, hRM, hll, hlast, hrel'⟩ := HREL.out.roll x hx
              have HST1 := Lib.hid (moOv HI1.out (fun F hO => ovRollback_ok W1 hO (by rw [HREL.out.log]; have := HREL.out.nl; omega) (by have := HREL.out.ns; omega) HREL.out.asc HREL.out.len (fun p hp => by rw [HREL.out.log] at hp; obtain ⟨⟨i, hi, he⟩, hv⟩ := HREL.out.ok p hp; exact ⟨by omega, hv⟩) x hroll))
              have HRR := Lib.hid (fun (W : World) X (hX : RfO X r ws W R) => rfRoll W hX (by have := HREL.out.nm; omega) (by have := HREL.out.nl; omega) x qq l hqq hRM hll hlast)
              have HR2 := Lib.hid hrel'
              clear hx hroll hRM hll hlast hrel' hqq
              go_wp2_with (first
                | (go_at_call 27; refine HST1.out.mono ?_; rintro e w8 ⟨rfl, hI, hC⟩; have HI8 := Lib.hid hI; have HB8 := Lib.hid (mo_back HK.out.1 HB1.out hC); clear hI hC)
                | (go_at_call 28; refine (moRf HI8.out (fun X hX => HRR.out w8 X hX)).mono ?_; rintro e w9 ⟨rfl, hI, hC⟩; have HI9 := Lib.hid hI; have HB9 := Lib.hid (mo_back HK.out.1 HB8.out hC); clear hI hC))
              go_meet
              exact ⟨_, _, A, m, c, ks, rfl, HM.out, HI9.out.less HK.out.1, HR2.out, HB9.out⟩
            · obtain ⟨hroll, hno⟩ := HREL.out.roll_no x (fun p hp he => hx ⟨p, hp, he⟩)
              have HST1 : Hid (Calls Try.prog 27 #[.pointer (some ⟨o, 0, none⟩), .int .i64 x] W1 fun e w' => e = .returned (.int .i64 1) ∧ Below W1.heap.size W1 w') := by
                obtain ⟨F, X, h1, _⟩ := HI1.out.ex
                exact ovRollback_no W1 h1 (by have := HREL.out.ns; omega) HREL.out.asc x hroll
              have HRR : Hid (∀ W, MoI K o T r ws W S R A m c ks → Calls Try.prog 28 #[.pointer (some ⟨r, 0, none⟩), .int .i64 x] W fun e w' => e = .returned (.bool false) ∧ W = w') := by
                intro W hW
                obtain ⟨F, X, _, h2, _⟩ := hW.ex
                exact rfRoll_no W h2 (by have := HREL.out.nm; omega) x hno
              clear hx hroll hno
              go_wp2_with (first
                | (go_at_call 27; refine HST1.out.mono ?_; rintro e w8 ⟨rfl, hb⟩; have HI8 := Lib.hid (HI1.out.bl0 hb); have HB8 : Hid (Below w4.heap.size w4 w8) := HB1.out.trans (hb.mono HB1.out.size); clear hb)
                | (go_at_call 28; refine (HRR.out w8 HI8.out).mono ?_; rintro e w9 ⟨rfl, rfl⟩))
              go_meet
              exact ⟨_, _, A, m, c, ks, rfl, HM.out, HI8.out.less HK.out.1, HREL.out.up, HB8.out⟩
          · clear hqr
            by_cases hg4 : v % 8 = 0 ∧ v < 256
            · obtain ⟨j, hjl, rfl⟩ : ∃ j : Nat, j < 32 ∧ v = 8 * (j : Int) := ⟨(v / 8).toNat, by have := HV.out; omega, by have := HV.out; omega⟩
              clear hg4
              have HST1 := Lib.hid (moOv HI1.out (fun F hO => ovStore W1 hO (HBM.out.below HB1.out) j 9 (by omega) (by omega) (by omega) (by rw [HREL.out.log]; have := HREL.out.nl; omega)))
              go_wp2_with (first
                | (go_at_call 24; refine HST1.out.mono ?_; rintro e w8 ⟨rfl, hI, hC⟩; have HI8 := Lib.hid hI; have HB8 := Lib.hid (mo_back HK.out.1 HB1.out hC); have hcb := mo_act HK.out.2 HCB.out hC; have x1 : w8.cell? ⟨g, 1, none⟩ = some (.int .u8 wd) := hcb.cell_some rfl; have x2 : w8.cell? ⟨g, 2, none⟩ = some (.int .u64 (8 * (j : Int))) := hcb.cell_some rfl; have xl := hcb.lt; clear hI hC hcb)
                | (go_at_call 25; refine (moRf HI8.out (fun X hX => rfStore w8 hX 32 HWL.out (by omega) (by have := HREL.out.nl; omega) j (by omega) 9 (by omega))).mono ?_; rintro e w9 ⟨rfl, hI, hC⟩; have HI9 := Lib.hid hI; have HB9 := Lib.hid (mo_back HK.out.1 HB8.out hC); clear hI hC))
              go_meet
              exact ⟨_, _, A, m, c, ks, rfl, HM.out, HI9.out.less HK.out.1, HREL.out.put j hjl 9 (by omega), HB9.out⟩
            · have hg5 : v % 8 ≠ 0 ∨ 256 ≤ v := by omega
              clear hg4
              have HST1 := Lib.hid (moOv HI1.out (fun F hO => ovStore_bad W1 hO (HBM.out.below HB1.out) v 9 HV.out (by omega)))
              go_wp2_with (first
                | (go_at_call 24; refine HST1.out.mono ?_; rintro e w8 ⟨rfl, hI, hC⟩; have HI8 := Lib.hid hI; have HB8 := Lib.hid (mo_back HK.out.1 HB1.out hC); have hcb := mo_act HK.out.2 HCB.out hC; have x1 : w8.cell? ⟨g, 1, none⟩ = some (.int .u8 wd) := hcb.cell_some rfl; have x2 : w8.cell? ⟨g, 2, none⟩ = some (.int .u64 v) := hcb.cell_some rfl; have xl := hcb.lt; clear hI hC hcb)
                | (go_at_call 25; refine (moRf HI8.out (fun X hX => rfStore_bad w8 hX 32 HWL.out (by omega) v 9 HV.out (by omega))).mono ?_; rintro e w9 ⟨rfl, hI, hC⟩; have HI9 := Lib.hid hI; have HB9 := Lib.hid (mo_back HK.out.1 HB8.out hC); clear hI hC))
              go_meet
              exact ⟨_, _, A, m, c, ks, rfl, HM.out, HI9.out.less HK.out.1, HREL.out.brk, HB9.out⟩
          · clear hqr
            obtain ⟨j, hj, hjl⟩ : ∃ j : Nat, wd % 32 = (j : Int) ∧ j < 32 := ⟨(wd % 32).toNat, by omega, by omega⟩
            have e8 : IntKind.u64.wrap (8 * (j : Int)) = 8 * (j : Int) := IntWalk.u64_in _ (by omega)
            have ey8 : IntKind.u8.wrap (j : Int) = (j : Int) := by rw [IntKind.wrap_u8]; omega
            have ey : IntKind.u64.wrap (j : Int) = (j : Int) := IntWalk.u64_in _ (by omega)
            go_wp2_with (go_at_call 29; refine (ovFlush _ _ _).mono ?_; rintro e w8 ⟨rfl, rfl⟩)
            go_meet
            exact ⟨S, R, A, m, c, ks, rfl, HM.out, HI1.out.less HK.out.1, HREL.out.up, HB1.out⟩
          · clear hqr
            go_wp2_with (go_at_call 30; refine (ovFence _ _).mono ?_; rintro e w8 ⟨rfl, rfl⟩)
            go_meet
            exact ⟨S, R, A, m, c, ks, rfl, HM.out, HI1.out.less HK.out.1, HREL.out.up, HB1.out⟩
        case rest =>
          obtain ⟨S', R', A', m', c', ks', rfl, hm', hI', hR', hB'⟩ := hcut
          have HMT := Lib.hid (moMatches hI' (HBM.out.below hB') HWL.out hR' (by omega))
          have HR' := Lib.hid hR'
          have HB' := Lib.hid hB'
          have HM' := Lib.hid hm'
          clear hI' hR' hB' hm' HI1 HREL HB1 HCB b0 b1 b2 bl
          go_wp2_with (go_at_call 31; refine HMT.out.mono ?_; rintro e w8 ⟨rfl, hI, hb⟩; have HI8 := Lib.hid hI; have HB8 : Hid (Below w4.heap.size w4 w8) := HB'.out.trans (hb.mono HB'.out.size); clear hI hb)
          go_roundw
          case rel => exact ⟨k + 1, by omega, by omega, by go_num, S', R', A', m', c', ks', rfl, HM'.out, HI8.out, HR'.out, HB8.out⟩
          case measure => simp [intOf]; omega
    · obtain rfl : k = n0 := by omega
      have HALF := Lib.hid (HAL.out wr HB.out)
      have HIQ : Hid (MoI (fun b => b < w4.heap.size) o T r ws wr S R A m c ks) := HI.out
      have HBQ : Hid (Below w4.heap.size w4 wr) := HB.out
      go_wp2_with (first
        | (go_at_call 32; refine HALF.out.mono ?_; rintro e w8 ⟨rfl, hb⟩; have HB8 : Hid (Below w4.heap.size w4 w8) := HBQ.out.trans (hb.mono HBQ.out.size); have HSZ := Lib.hid (moSize (HIQ.out.bl0 hb) (HBM.out.below HB8.out)); clear hb)
        | (go_at_call 33; refine HSZ.out.mono ?_; rintro e w9 ⟨rfl, rfl⟩))
      go_ret
      exact ⟨rfl, HB2.out.trans ((HB24.out.trans (HB8.out.mono HB24.out.size)).mono HB2.out.size)⟩
end Go.Proofs.Ytngkhligjkcbmaa
