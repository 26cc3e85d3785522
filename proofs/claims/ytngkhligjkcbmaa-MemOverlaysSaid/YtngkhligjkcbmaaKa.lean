/- Two devices, what tells them apart, programs on one of them (merged). -/
import Derived.Test.YtngkhligjkcbmaaKo
import Derived.Test.YtngkhligjkcbmaaKd
import Derived.Test.YtngkhligjkcbmaaKq
import Derived.Test.YtngkhligjkcbmaaStr
import Derived.Deep.Cut
namespace Go.Proofs.Ytngkhligjkcbmaa
open Go.RowKit
set_option linter.unusedVariables false

/-- A device of n lines that is on, with those words, all persistent. -/
structure Clean (S : DevS) (n : Nat) (xs : List Int) (N : Nat) : Prop where
  good : Good S N
  nl : S.lns.length = n
  cur : S.cur = xs
  pers : S.pers = xs
  off : S.off = false
  armed : S.armed = false
  hist : ∀ (q : Nat) (l : Ln), S.lns[q]? = some l → l.hist = []
  err : ∀ j, (S.thr j).err = 0
  notes : ∀ j x, (S.thr j).notes x = none
/-- In the middle of a program of stores: those writes are stored, those lines are flushed. -/
structure Mid (S : DevS) (i n : Nat) (xs : List Int) (ws : List (Int × Int)) (ls : List Int) (N : Nat) : Prop where
  good : Good S N
  nl : S.lns.length = n
  cur : S.cur = applyW xs ws
  pers : S.pers = xs
  off : S.off = false
  armed : S.armed = false
  hist : ∀ (q : Nat) (l : Ln), S.lns[q]? = some l → l.hist = ws.filter fun p => decide (p.1 / 64 = (q : Int))
  err : ∀ j, (S.thr j).err = 0
  other : ∀ j, j ≠ i → ∀ x, (S.thr j).notes x = none
  notes : ∀ (q : Nat), (64 * (q : Int) ∈ ls ∧ q < n) ∨ (S.thr i).notes (q : Int) = none
  note : ∀ (q : Nat) (l : Ln), S.lns[q]? = some l → 64 * (q : Int) ∈ ls → (S.thr i).notes (q : Int) = some (l.done + (l.hist.length : Int))

section
variable {S : DevS} {i n N : Nat} {xs : List Int} {ws : List (Int × Int)} {ls : List Int}
theorem Clean.mid (h : Clean S n xs N) (i : Nat) : Mid S i n xs [] [] N :=
  ⟨h.good, h.nl, h.cur, h.pers, h.off, h.armed, fun q l hl => by rw [h.hist q l hl]; rfl, h.err, fun j _ x => h.notes j x, fun q => .inr (h.notes i q), fun q l _ hm => by cases hm⟩
theorem cnt_ok (ho : S.off = false) (ha : S.armed = false) : S.cntB true = true ∧ S.cnt i true = { S with exec := IntKind.u64.wrap (S.exec + 1) } := by
  simp [DevS.cntB, DevS.cnt, DevS.onB, ho, ha]
theorem store_ok (ho : S.off = false) (ha : S.armed = false) {k : Nat} (hk : k < 8 * S.lns.length) (v : Int) : S.store i (8 * (k : Int)) v = ({ S with exec := IntKind.u64.wrap (S.exec + 1) } : DevS).write k v := by
  have hw : S.wordB (8 * (k : Int)) = true := by unfold DevS.wordB; simp; omega
  have hq : ((8 * (k : Int)) / 8).toNat = k := by omega
  unfold DevS.store
  rw [hw, (cnt_ok (i := i) ho ha).1, if_pos rfl, hq, (cnt_ok ho ha).2]
theorem Mid.store (h : Mid S i n xs ws [] N) {k : Nat} (hk : k < 8 * n) (v : Int) : Mid (S.store i (8 * (k : Int)) v) i n xs (ws ++ [(8 * (k : Int), v)]) [] (N + 1) := by
  have hG := h.good.store i (8 * (k : Int)) v (by omega)
  have hE := store_ok (i := i) h.off h.armed (k := k) (by rw [h.nl]; exact hk) v
  rw [hE] at hG ⊢
  refine ⟨hG, by simp [DevS.write, h.nl], ?_, h.pers, h.off, h.armed, ?_, h.err, h.other, fun q => .inr (by have := h.notes q; simp only [List.not_mem_nil, false_and, false_or] at this; exact this), fun q l _ hm => by cases hm⟩
  · rw [applyW_snoc, show ((8 * (k : Int)) / 8).toNat = k by omega]
    show S.cur.set k v = _
    rw [h.cur]
  · intro q l hl
    have hlt : q < S.lns.length := by
      have := (List.getElem?_eq_some_iff.1 hl).1
      simpa [DevS.write] using this
    have h0 := h.hist q S.lns[q] (by simp [hlt])
    simp only [DevS.write, List.getElem?_modify, List.getElem?_eq_getElem hlt] at hl
    rw [List.filter_append]
    by_cases hq : k / 8 = q
    · simp [hq] at hl
      subst hl
      have : (8 * (k : Int)) / 64 = (q : Int) := by omega
      simp [h0, this]
    · simp [hq] at hl
      subst hl
      have : ¬ (8 * (k : Int)) / 64 = (q : Int) := by omega
      simp [h0, this]
theorem Mid.flush (h : Mid S i n xs ws ls N) {q : Nat} (hq : q < n) (hN : N < 1000000) : Mid (S.flush i (64 * (q : Int))) i n xs ws (ls ++ [64 * (q : Int)]) (N + 1) := by
  have hG := h.good.flush i (64 * (q : Int)) (by omega) (by omega)
  have hin : S.inB (64 * (q : Int)) = true := by unfold DevS.inB; simp [h.nl]; omega
  have hE : S.flush i (64 * (q : Int)) = ({ S with exec := IntKind.u64.wrap (S.exec + 1) } : DevS).note i q := by
    unfold DevS.flush
    rw [hin, (cnt_ok (i := i) h.off h.armed).1, if_pos rfl, (cnt_ok h.off h.armed).2, show ((64 * (q : Int)) / 64).toNat = q by omega]
  rw [hE] at hG ⊢
  have hql : q < S.lns.length := by rw [h.nl]; exact hq
  obtain ⟨a1, a2, _⟩ := h.good.ln q S.lns[q] (by simp [hql])
  have hw : IntKind.u64.wrap (S.lns[q].done + (S.lns[q].hist.length : Int)) = S.lns[q].done + (S.lns[q].hist.length : Int) := IntWalk.u64_in _ (by omega)
  refine ⟨hG, h.nl, h.cur, h.pers, h.off, h.armed, h.hist, fun j => ?_, fun j hj x => ?_, fun r => ?_, fun r l hl hm => ?_⟩
  · by_cases hj : j = i
    · subst hj; simp [DevS.note, h.err]
    · simp [DevS.note, hj, h.err]
  · simp [DevS.note, hj, h.other j hj x]
  · by_cases hr : r = q
    · subst hr; left; exact ⟨by simp, hq⟩
    · have hr' : ¬ (r : Int) = (q : Int) := by omega
      rcases h.notes r with h1 | h1
      · left; exact ⟨by simp [h1.1], h1.2⟩
      · right; simp [DevS.note, hr', h1]
  · have hl1 : S.lns[r]? = some l := hl
    by_cases hr : r = q
    · subst hr
      have : S.lns[r] = l := by rw [List.getElem?_eq_getElem hql] at hl1; injection hl1
      subst this
      simp [DevS.note, hql, hw]
    · have hr' : ¬ (r : Int) = (q : Int) := by omega
      simp only [List.mem_append, List.mem_singleton] at hm
      rcases hm with hm | hm
      · simp [DevS.note, hr', h.note r l hl1 hm]
      · exfalso; omega
theorem applyW_filter (j : Nat) : ∀ (ws : List (Int × Int)) (xs : List Int), (∀ p ∈ ws, 0 ≤ p.1) → (applyW xs (ws.filter fun p => decide (p.1 / 64 = ((j / 8 : Nat) : Int))))[j]? = (applyW xs ws)[j]? := by
  intro ws
  induction ws with
  | nil => intro xs _; rfl
  | cons p ws ih =>
    intro xs hp
    have hp0 := hp p (by simp)
    have ih' := fun xs => ih xs (fun q hq => hp q (by simp [hq]))
    by_cases hd : p.1 / 64 = ((j / 8 : Nat) : Int)
    · rw [List.filter_cons_of_pos (by simpa using hd)]
      exact ih' _
    · rw [List.filter_cons_of_neg (by simpa using hd), ih' xs]
      show _ = (applyW (xs.set (p.1 / 8).toNat p.2) ws)[j]?
      refine applyW_congr _ j _ _ (by simp) ?_
      rw [List.getElem?_set, if_neg (by omega)]
theorem Mid.fence (h : Mid S i n xs ws ls N) (hi : i < 8) (hN : N < 1000000) (hw : ∀ p ∈ ws, 0 ≤ p.1 ∧ startOf p.1 ∈ ls) : Clean (S.fence i) n (applyW xs ws) (N + 1) := by
  have hG := (h.good.fence hi (by omega)).mono (Nat.le_succ N)
  obtain ⟨c1, c2⟩ := cnt_ok (i := i) h.off h.armed
  have hE : S.fence i = ((({ S with exec := IntKind.u64.wrap (S.exec + 1) } : DevS).upto (({ S with exec := IntKind.u64.wrap (S.exec + 1) } : DevS).due i))).clearN i := by
    unfold DevS.fence; rw [c1, if_pos rfl, c2]
  rw [hE] at hG ⊢
  obtain ⟨T, hT⟩ : ∃ T : DevS, T = { S with exec := IntKind.u64.wrap (S.exec + 1) } := ⟨_, rfl⟩
  have hTl : T.lns = S.lns := by rw [hT]
  have hTt : T.thr = S.thr := by rw [hT]
  have hTp : T.pers = xs := by rw [hT]; exact h.pers
  have hTc : T.cur = applyW xs ws := by rw [hT]; exact h.cur
  rw [← hT] at hG ⊢
  have hdue : ∀ (q : Nat) (l : Ln), S.lns[q]? = some l → T.due i q = l.hist.length := by
    intro q l hl
    obtain ⟨a1, a2, _⟩ := h.good.ln q l hl
    unfold DevS.due
    rw [hTt, hTl, hl]
    rcases h.notes q with hm | hm
    · rw [h.note q l hl hm.1]; simp; omega
    · rw [hm]
      have : l.hist = [] := by
        rw [h.hist q l hl, List.filter_eq_nil_iff]
        intro p hp hd
        have hd' : p.1 / 64 = (q : Int) := by simpa using hd
        have hs := (hw p hp).2
        unfold startOf at hs
        have : p.1 - p.1 % 64 = 64 * (q : Int) := by omega
        rw [this] at hs
        rw [h.note q l hl hs] at hm
        cases hm
      rw [this]; rfl
  have hlen : (T.upto (T.due i)).pers.length = xs.length := by rw [(length_upto _).1, hTp]
  refine ⟨hG, ?_, hTc, ?_, by rw [hT]; exact h.off, by rw [hT]; exact h.armed, ?_, fun j => ?_, fun j x => ?_⟩
  · show (T.upto (T.due i)).lns.length = n
    rw [(length_upto _).2, hTl]; exact h.nl
  · show (T.upto (T.due i)).pers = _
    apply List.ext_getElem?
    intro j
    by_cases hj : j < xs.length
    · rw [upto_pers _ j (by rw [hTp]; exact hj), hTp, hTl]
      have hjl : j / 8 < S.lns.length := by
        have := h.good.np
        rw [h.pers] at this
        omega
      obtain ⟨l, hl⟩ : ∃ l, S.lns[j / 8]? = some l := ⟨_, List.getElem?_eq_getElem hjl⟩
      rw [hl, hdue _ l hl]
      simp only [Option.map_some, Option.getD_some, List.take_length]
      rw [h.hist _ l hl]
      exact applyW_filter j ws xs (fun p hp => (hw p hp).1)
    · rw [List.getElem?_eq_none (by rw [hlen]; omega), List.getElem?_eq_none (by rw [length_applyW]; omega)]
  · intro q l hl
    have hl : (T.upto (T.due i)).lns[q]? = some l := hl
    rw [upto_ln, hTl] at hl
    obtain ⟨l0, h0, rfl⟩ := Option.map_eq_some_iff.1 hl
    simp [hdue q l0 h0]
  · show (((T.upto (T.due i)).clearN i).thr j).err = 0
    have e1 : ((T.upto (T.due i)).thr) = S.thr := hTt
    by_cases hj : j = i
    · subst hj; simp [DevS.clearN, e1, h.err]
    · simp [DevS.clearN, hj, e1, h.err]
  · show (((T.upto (T.due i)).clearN i).thr j).notes x = none
    have e1 : ((T.upto (T.due i)).thr) = S.thr := hTt
    by_cases hj : j = i
    · subst hj; simp [DevS.clearN]
    · simp [DevS.clearN, hj, e1, h.other j hj x]

theorem Mid.stores (hi : i < 8) : ∀ (vs : List (Int × Int)) {S : DevS} {ws : List (Int × Int)} {N : Nat}, Mid S i n xs ws [] N → (∀ p ∈ vs, ∃ k : Nat, p.1 = 8 * (k : Int) ∧ k < 8 * n) → Mid (S.runP i (insSt vs)) i n xs (ws ++ vs) [] (N + vs.length) := by
  intro vs
  induction vs with
  | nil => intro S ws N h _; simpa [insSt, DevS.runP] using h
  | cons p vs ih =>
    intro S ws N h hp
    obtain ⟨k, hk1, hk2⟩ := hp p (by simp)
    have h1 := h.store hk2 p.2
    have h2 := ih h1 (fun q hq => hp q (by simp [hq]))
    have e : (8 * (k : Int), p.2) = p := by rw [← hk1]
    rw [e, ← hk1] at h2
    simp only [List.append_assoc, List.singleton_append] at h2
    simp only [List.length_cons]
    rw [show N + (vs.length + 1) = N + 1 + vs.length by omega]
    exact h2
theorem Mid.flushes (hi : i < 8) : ∀ (ks : List Int) {S : DevS} {ls : List Int} {N : Nat}, Mid S i n xs ws ls N → N + ks.length < 1000000 → (∀ l ∈ ks, ∃ q : Nat, l = 64 * (q : Int) ∧ q < n) → Mid (S.runP i (insFl ks)) i n xs ws (ls ++ ks) (N + ks.length) := by
  intro ks
  induction ks with
  | nil => intro S ls N h _ _; simpa [insFl, DevS.runP] using h
  | cons l ks ih =>
    intro S ls N h hN hp
    simp only [List.length_cons] at hN ⊢
    obtain ⟨q, rfl, hq⟩ := hp l (by simp)
    have h1 := h.flush hq (by omega)
    have h2 := ih h1 (by omega) (fun q hq => hp q (by simp [hq]))
    simp only [List.append_assoc, List.singleton_append] at h2
    rw [show N + (ks.length + 1) = N + 1 + ks.length by omega]
    exact h2
theorem mem_cpt (ys : List Int) : ∀ k, ∀ x, x ∈ cpt (ys.take k) ↔ x ∈ ys.take k := by
  intro k
  induction k with
  | zero => intro x; simp [cpt]
  | succ k ih =>
    intro x
    by_cases hk : k < ys.length
    · rw [List.take_succ_eq_append_getElem hk, cpt_snoc]
      split
      · rename_i hl
        rw [List.mem_append, ih x]
        constructor
        · exact fun h => .inl h
        · rintro (h | h)
          · exact h
          · simp at h
            subst h
            exact (ih _).1 (List.mem_of_getLast? hl)
      · rw [List.mem_append, List.mem_append, ih x]
    · rw [List.take_of_length_le (by omega)]
      have := ih x
      rwa [List.take_of_length_le (by omega)] at this
theorem mem_cpt' (ys : List Int) (x : Int) : x ∈ cpt ys ↔ x ∈ ys := by have := mem_cpt ys ys.length x; rwa [List.take_length] at this
theorem runP_append (S : DevS) (i : Nat) (ps qs : List Ins) : S.runP i (ps ++ qs) = (S.runP i ps).runP i qs := by simp [DevS.runP]
/-- The program of Stores makes the writes persistent. -/
theorem Clean.stores (h : Clean S n xs N) (hi : i < 8) (vs : List (Int × Int)) (hv : ∀ p ∈ vs, ∃ k : Nat, p.1 = 8 * (k : Int) ∧ k < 8 * n) (hN : N + (storesP vs).length < 1000000) : Clean (S.runP i (storesP vs)) n (applyW xs vs) (N + (storesP vs).length) := by
  have hl : (storesP vs).length = vs.length + (cpt (starts vs)).length + 1 := by simp [storesP, insSt, insFl]; omega
  rw [hl] at hN ⊢
  have h1 := Mid.stores hi vs (h.mid i) hv
  rw [List.nil_append] at h1
  have h2 := Mid.flushes hi (cpt (starts vs)) h1 (by omega) (fun l hl => by
    rw [mem_cpt'] at hl
    obtain ⟨p, hp, rfl⟩ := List.mem_map.1 hl
    obtain ⟨k, hk1, hk2⟩ := hv p hp
    refine ⟨k / 8, ?_, by omega⟩
    unfold startOf; omega)
  rw [List.nil_append] at h2
  have h3 := h2.fence hi (by omega) (fun p hp => by
    obtain ⟨k, hk1, hk2⟩ := hv p hp
    exact ⟨by omega, by rw [mem_cpt']; exact List.mem_map.2 ⟨p, hp, rfl⟩⟩)
  unfold storesP
  rw [runP_append, runP_append]
  rw [show N + (vs.length + (cpt (starts vs)).length + 1) = N + vs.length + (cpt (starts vs)).length + 1 by omega]
  exact h3
end
end Go.Proofs.Ytngkhligjkcbmaa

namespace Go.Proofs.Ytngkhligjkcbmaa
open Go.RowKit
set_option linter.unusedVariables false

theorem info_int : (Try.prog.info? 3).map (fun i => (i.zero, i.size, i.bytes)) = some (some (.int .i64 0), 1, 8) := by kernel_rfl
theorem cellsI_one (w : World) (e : TypeId) (a : Value) : ∀ (j : Nat) (u : Value), [a][j]? = some u → (w.alloc (.cells #[a] e)).cell? ((⟨w.heap.size, 0, none⟩ : Addr).add j) = some u := by
  intro j u hu
  have h1 : (⟨w.heap.size, 0, none⟩ : Addr).add j = ⟨w.heap.size, 0 + j, none⟩ := by unfold Addr.add; split <;> simp_all
  rw [h1, Nat.zero_add, (CB.new w e #[a]).cell]
  simpa using hu
theorem i64_one (a : Int) : ∀ u ∈ ([.int .i64 a] : List Value), u.oneCell' = true := by
  intro u hu
  simp only [List.mem_singleton] at hu
  subst hu; rfl
/-- The number of stores of a line that are not persistent. -/
def hlen (S : DevS) (q : Nat) : Nat := (S.lns[q]?.map (·.hist.length)).getD 0
def dirtyL (S : DevS) (k : Nat) : List Nat := (List.range k).filter fun q => decide (0 < hlen S q)
theorem dirtyL_step (S : DevS) (k : Nat) : dirtyL S (k + 1) = dirtyL S k ++ (if 0 < hlen S k then [k] else []) := by
  unfold dirtyL
  rw [List.range_succ, List.filter_append]
  by_cases h : 0 < hlen S k
  · simp [h]
  · simp [h]
theorem dirtyL_le (S : DevS) : ∀ k, (dirtyL S k).length ≤ k := by
  intro k
  exact Nat.le_trans (List.length_filter_le _ _) (by simp)
def nints (xs : List Nat) : List Value := xs.map fun (q : Nat) => Value.int .i64 (q : Int)
theorem length_nints (xs : List Nat) : (nints xs).length = xs.length := by simp [nints]
/-- What Dirty leaves. -/
def DirtyPost (w : World) (S : DevS) (e : Ending) (w' : World) : Prop :=
  ∃ A c, e = .returned (.slice A (dirtyL S S.lns.length).length c) ∧ Sl 3 1 w' A (dirtyL S S.lns.length).length c (nints (dirtyL S S.lns.length)) ∧ (∀ b, OwnB A b → w.heap.size ≤ b) ∧ Below w.heap.size w w'
set_option maxRecDepth 100000 in
set_option maxHeartbeats 2000000 in
theorem devDirty (w : World) (d : Nat) (L : Lay) (S : DevS) (h : Dev w d L S) :
    Calls Try.prog 88 #[.pointer (some ⟨d, 0, none⟩)] w (DirtyPost w S) := by
  have l2 := h.lcell
  have dl := h.lt
  obtain ⟨cs, hcb, hsz, hcs⟩ := h.lin
  obtain ⟨n, hn⟩ : ∃ n, S.lns.length = n := ⟨_, rfl⟩
  have hn2 : n ≤ 4096 := by rw [← hn]; exact h.nl.2
  have HCL : Hid (∀ q, q < n → w.cell? ⟨L.lb, q * 2 + 1, none⟩ = some (.slice (L.ha q) (hlen S q) (L.hc q))) := by
    intro q hq
    have hq' : q < S.lns.length := by omega
    rw [hcb.cell, show q * 2 + 1 = 2 * q + 1 by omega, (hcs q hq').2]
    unfold hlen
    rw [List.getElem?_eq_getElem hq']; rfl
  have lbl := hcb.lt
  rw [hn] at l2
  unfold DirtyPost
  rw [hn]
  clear h hcb hsz hcs
  go_enter Try.func88, Try.ntmps88
  go_wp2
  go_loopw [12, 3, 4, 13, 14, 15, 16, 17, 18, 19, 20, 21, 22, 23, 24, 25, 26, 27, 28, 29] (fun i s _ _ _ _ _ _ _ _ _ _ _ _ _ _ _ _ _ _ wr => ∃ (k : Nat) (A : Option Addr) (c : Nat), k ≤ n ∧ i = .int .i64 k ∧ s = .slice A (dirtyL S k).length c ∧ Sl 3 1 wr A (dirtyL S k).length c (nints (dirtyL S k)) ∧ (∀ b, OwnB A b → w.heap.size ≤ b) ∧ Below w.heap.size w wr) (fun i _ _ _ _ _ _ _ _ _ _ _ _ _ _ _ _ _ _ _ _ => n - (intOf i).toNat)
  case atStart => exact ⟨0, none, 0, by omega, rfl, rfl, Sl.nil, fun b hb => by simp [OwnB] at hb, Below.refl _ _⟩
  case round =>
    obtain ⟨k, A, c, hk, rfl, rfl, hS, hO, hB⟩ := hrel
    have HS := Lib.hid hS
    have HO := Lib.hid hO
    have HB := Lib.hid hB
    have l2' : wr.cell? ⟨d, 2, none⟩ = some (.slice (some ⟨L.lb, 0, none⟩) n n) := (hB.cell (p := ⟨d, 2, none⟩) dl).trans l2
    have hbs := hB.size
    have dl' : d < wr.heap.size := by omega
    have lbl' : L.lb < wr.heap.size := by omega
    clear hS hO hB
    by_cases hlt : k < n
    · have hc1 : wr.cell? ⟨L.lb, k * 2 + 1, none⟩ = some (.slice (L.ha k) (hlen S k) (L.hc k)) := (HB.out.cell (p := ⟨L.lb, k * 2 + 1, none⟩) lbl).trans (HCL.out k hlt)
      have HST := Lib.hid (dirtyL_step S k)
      have hle := dirtyL_le S k
      obtain ⟨dk, hdk⟩ : ∃ dk, dirtyL S k = dk := ⟨_, rfl⟩
      rw [hdk] at HST HS hle
      rw [hdk]
      obtain ⟨hl, hhl⟩ : ∃ hl, hlen S k = hl := ⟨_, rfl⟩
      rw [hhl] at hc1 HST
      clear hdk hhl
      by_cases h0 : 0 < hl
      · rw [if_pos h0] at HST
        have h0' : (hl : Int) > 0 := by omega
        go_wp2_with (at_builtin; refine wpList_append_sl rfl (.tmp 25) (.tmp 27) 58 rfl 3 (.int .i64 0) 1 8 rfl (by omega) Try.underlying58 info_int (by omega) A dk.length c (nints dk) ⟨wr.heap.size, 0, none⟩ 1 1 [.int .i64 (k : Int)] rfl rfl (HS.out.keep (fun b hb => Below.heap_alloc _ _ _ (HS.out.lt hb))) rfl (by omega) (cellsI_one wr 3 _) (i64_one _) (by omega) ?_; intro A2 c2 w2 HO2 HC2 HW2 HG2)
        refine ⟨⟨k + 1, A2, c2, by omega, by go_num, by rw [HST.out, List.length_append]; rfl, ?_, ?_, ?_⟩, by simp [intOf]; omega⟩
        · rw [HST.out, List.length_append]
          have := HO2.out
          simpa [nints] using this
        · intro b hb
          rcases HW2.out b hb with h | h
          · exact HO.out b h
          · have := HB.out.size; simp at h; omega
        · exact bl_ch (bl_alloc HB.out _) HC2.out (fun b hb => HO.out b hb)
      · rw [if_neg h0, List.append_nil] at HST
        have h0' : ¬ (hl : Int) > 0 := by omega
        go_wp2
        exact ⟨⟨k + 1, A, c, by omega, by go_num, by rw [HST.out], by rw [HST.out]; exact HS.out, HO.out, HB.out⟩, by simp [intOf]; omega⟩
    · obtain rfl : k = n := by omega
      go_wp2
      go_ret
      exact ⟨A, c, rfl, HS.out, HO.out, HB.out⟩
end Go.Proofs.Ytngkhligjkcbmaa

namespace Go.Proofs.Ytngkhligjkcbmaa
open Go.RowKit
set_option linter.unusedVariables false

def histL (S : DevS) (q : Nat) : List (Int × Int) := (S.lns[q]?.map (·.hist)).getD []
theorem hlen_histL (S : DevS) (q : Nat) : (histL S q).length = hlen S q := by
  unfold histL hlen
  cases S.lns[q]? with
  | none => rfl
  | some l => rfl
/-- How many stores of a line a choice selects. -/
def imgK (S : DevS) (cs : List Int) (q : Nat) : Nat := (cs[(dirtyL S S.lns.length).idxOf q % cs.length]?.getD 0).toNat % (hlen S q + 1)
/-- The words after the first k dirty lines. -/
def imgC (S : DevS) (K : Nat → Nat) (D : List Nat) (k : Nat) : List Int := (D.take k).foldl (fun xs q => applyW xs ((histL S q).take (K q))) S.pers
theorem imgC_step (S : DevS) (K : Nat → Nat) (D : List Nat) (k : Nat) (hk : k < D.length) : imgC S K D (k + 1) = applyW (imgC S K D k) ((histL S D[k]).take (K D[k])) := by
  unfold imgC
  rw [List.take_succ_eq_append_getElem hk, List.foldl_append]; rfl
theorem length_imgC (S : DevS) (K : Nat → Nat) (D : List Nat) : ∀ k, (imgC S K D k).length = S.pers.length := by
  intro k
  induction k with
  | zero => rfl
  | succ k ih =>
    by_cases hk : k < D.length
    · rw [imgC_step S K D k hk, length_applyW, ih]
    · unfold imgC at ih ⊢
      rw [List.take_of_length_le (by omega)] at ih ⊢
      exact ih
theorem mem_dirtyL {S : DevS} {k q : Nat} : q ∈ dirtyL S k ↔ q < k ∧ 0 < hlen S q := by unfold dirtyL; simp
theorem nodup_dirtyL (S : DevS) (k : Nat) : (dirtyL S k).Nodup := List.Pairwise.sublist List.filter_sublist List.nodup_range
section
variable {S : DevS} {N : Nat}
theorem hist_line (h : Good S N) (q : Nat) : ∀ p ∈ histL S q, ∃ k : Nat, p.1 = 8 * (k : Int) ∧ k / 8 = q := by
  intro p hp
  unfold histL at hp
  cases hl : S.lns[q]? with
  | none => rw [hl] at hp; simp at hp
  | some l =>
    rw [hl] at hp
    exact (h.ln q l hl).2.2 p hp
/-- The words after dirty lines, one by one. -/
theorem imgC_at (h : Good S N) (K : Nat → Nat) (D : List Nat) (hD : D.Nodup) (j : Nat) : ∀ k, k ≤ D.length → (imgC S K D k)[j]? = if j / 8 ∈ D.take k then (applyW S.pers ((histL S (j / 8)).take (K (j / 8))))[j]? else S.pers[j]? := by
  intro k
  induction k with
  | zero => intro _; simp [imgC]
  | succ k ih =>
    intro hk
    have hkl : k < D.length := by omega
    have ih := ih (by omega)
    rw [imgC_step S K D k hkl, List.take_succ_eq_append_getElem hkl]
    by_cases hq : D[k] = j / 8
    · have hnot : ¬ j / 8 ∈ D.take k := by
        intro hm
        obtain ⟨i, hi, hie⟩ := List.getElem_of_mem hm
        have hik : i < k := by simp at hi; omega
        rw [List.getElem_take] at hie
        have := (List.getElem_inj hD).1 (hie.trans hq.symm)
        omega
      rw [if_neg hnot] at ih
      rw [if_pos (by simp [hq]), hq]
      exact applyW_congr _ j _ _ (length_imgC S K D k) ih
    · rw [applyW_none _ j (fun p hp => by
        obtain ⟨i, hi1, hi2⟩ := hist_line h D[k] p (List.mem_of_mem_take hp)
        rw [hi1]; omega), ih]
      have : (j / 8 ∈ D.take k ++ [D[k]]) = (j / 8 ∈ D.take k) := by
        simp only [List.mem_append, List.mem_singleton, eq_iff_iff]
        constructor
        · rintro (h | h)
          · exact h
          · exact absurd h.symm hq
        · exact .inl
      simp only [this]
/-- What all dirty lines make of the words. -/
theorem imgC_all (h : Good S N) (K : Nat → Nat) : imgC S K (dirtyL S S.lns.length) (dirtyL S S.lns.length).length = (S.upto K).pers := by
  apply List.ext_getElem?
  intro j
  by_cases hj : j < S.pers.length
  · rw [imgC_at h K _ (nodup_dirtyL S _) j _ (Nat.le_refl _), List.take_length, upto_pers K j hj]
    have hl : j / 8 < S.lns.length := by have := h.np; omega
    have e1 : (S.lns[j / 8]?.map (·.hist)).getD [] = histL S (j / 8) := rfl
    rw [e1]
    by_cases hm : j / 8 ∈ dirtyL S S.lns.length
    · rw [if_pos hm]
    · rw [if_neg hm]
      have h0 : hlen S (j / 8) = 0 := Nat.eq_zero_of_not_pos (fun h0 => hm (mem_dirtyL.2 ⟨hl, h0⟩))
      have : histL S (j / 8) = [] := List.eq_nil_of_length_eq_zero (by rw [hlen_histL]; exact h0)
      rw [this]; simp [applyW]
  · rw [List.getElem?_eq_none (by rw [length_imgC]; omega), List.getElem?_eq_none (by rw [(length_upto K).1]; omega)]
end
end Go.Proofs.Ytngkhligjkcbmaa

namespace Go.Proofs.Ytngkhligjkcbmaa
open Go.RowKit
set_option linter.unusedVariables false

theorem Sl.rdW {w : World} {A : Option Addr} {n c : Nat} {xs : List Int} (h : Sl 30 1 w A n c (uints xs)) : Rd .u64 w A xs := by
  by_cases h0 : xs = []
  · exact .inl h0
  · have hlen : 0 < xs.length := List.length_pos_iff.2 h0
    obtain ⟨g, off, hA, hlt, _⟩ := h.at_ (j := 0) (by rw [length_uints]; exact hlen)
    refine .inr ⟨g, off, hA, hlt, fun i hi => ?_⟩
    obtain ⟨g', off', hA', _, hc⟩ := h.at_ (j := i) (by rw [length_uints]; exact hi)
    rw [hA] at hA'
    injection hA' with hA'
    injection hA' with e1 e2
    subst e1 e2
    rw [hc, get_uints xs i hi]
theorem fits_applyW (ws : List (Int × Int)) (hw : ∀ p ∈ ws, 0 ≤ p.2 ∧ p.2 < 18446744073709551616) : ∀ xs, Fits xs → Fits (applyW xs ws) := by
  induction ws with
  | nil => intro xs h; exact h
  | cons p ws ih =>
    intro xs h
    exact ih (fun q hq => hw q (by simp [hq])) _ (h.set _ (hw p (by simp)))
/-- What Image leaves: the bytes of a crash image. -/
def ImgPost (w : World) (S : DevS) (e : Ending) (w' : World) : Prop :=
  ∃ g K, e = .returned (.slice (some ⟨g, 0, none⟩) (8 * S.pers.length) (8 * S.pers.length)) ∧ (∀ q l, S.lns[q]? = some l → K q ≤ l.hist.length) ∧ IB .u8 5 w' g (bytesL (S.upto K).pers) ∧ w.heap.size ≤ g ∧ Below w.heap.size w w'
theorem upto_none0 (S : DevS) : (S.upto (fun _ => 0)).pers = S.pers := by
  apply List.ext_getElem?
  intro j
  by_cases hj : j < S.pers.length
  · rw [upto_pers _ j hj]; simp [applyW]
  · rw [List.getElem?_eq_none (by rw [(length_upto _).1]; omega), List.getElem?_eq_none (by omega)]
set_option maxRecDepth 100000 in
set_option maxHeartbeats 2000000 in
/-- Image without a choice. -/
theorem devImage_nil (w : World) (d : Nat) (L : Lay) (S : DevS) (h : Dev w d L S) (hf : Fits S.pers) (A : Option Addr) :
    Calls Try.prog 53 #[.pointer (some ⟨d, 0, none⟩), .slice A 0 0] w (ImgPost w S) := by
  have d0 : w.cell? ⟨d, 0, none⟩ = some (.slice (some ⟨L.pb, 0, none⟩) S.pers.length L.pc) := h.dev.cell_some (i := 0) rfl
  have dl := h.lt
  have hn := h.nl
  have hp := h.np
  have HCL := Lib.hid (cloneU w L.pb 0 S.pers.length L.pc S.pers rfl (by omega) (by omega) h.pers.rdW)
  have HF := Lib.hid hf
  obtain ⟨n, hnn⟩ : ∃ n, S.pers.length = n := ⟨_, rfl⟩
  have HN := Lib.hid hnn
  have hn5 : n ≤ 32768 := by omega
  unfold ImgPost
  rw [hnn] at d0 HCL ⊢
  clear h hf hnn hp
  go_enter Try.func53, Try.ntmps53
  go_wp2_with (first
    | (go_at_call 87; refine HCL.out.mono ?_; rintro e w1 ⟨g, c, rfl, hS, hg, hb⟩; have HS := Lib.hid hS; have HB := Lib.hid hb; have HG := Lib.hid hg; clear hS hb hg)
    | (go_at_call 86; refine (bytesOfD w1 _ n c S.pers HN.out hn5 HF.out HS.out.rdW).mono ?_; rintro e w2 ⟨g2, rfl, hI2, hg2, hb2⟩; have HI2 := Lib.hid hI2; have HB2 := Lib.hid hb2; have HG2 := Lib.hid hg2; clear hI2 hb2 hg2))
  go_ret
  refine ⟨g2, fun _ => 0, rfl, fun _ _ _ => Nat.zero_le _, ?_, Nat.le_trans HB.out.size HG2.out, HB.out.trans (HB2.out.mono HB.out.size)⟩
  rw [upto_none0]; exact HI2.out
end Go.Proofs.Ytngkhligjkcbmaa

namespace Go.Proofs.Ytngkhligjkcbmaa
open Go.RowKit
set_option linter.unusedVariables false

set_option maxHeartbeats 1000000 in
theorem devArm (w : World) (d : Nat) (L : Lay) (S : DevS) (h : Dev w d L S) (n : Int) (hn : -9223372036854775808 ≤ n ∧ n < 9223372036854775808) :
    Calls Try.prog 49 #[.pointer (some ⟨d, 0, none⟩), .int .i64 n] w fun e w' => e = .returned (.tuple #[]) ∧ Dev w' d L (S.arm n) ∧ Ch (Fp L) w w' := by
  have ho := h.ocell
  have ha := h.acell
  have hl := h.fcell
  have hd := h.lt
  have f1 := h.dev.frozen 12
  have f2 := h.dev.frozen 13
  have H := Lib.hid h
  clear h
  cases hO : S.off
  · rw [hO] at ho
    have HE : Hid (S.arm n = { S with off := S.off, armed := decide (0 ≤ n), left := imax n 0, exec := S.exec }) := by show _ = _; simp [DevS.arm, hO]
    have hb : 0 ≤ imax n 0 ∧ imax n 0 < 9223372036854775808 := by unfold imax; split <;> omega
    clear hO
    go_enter Try.func49, Try.ntmps49
    go_wp2
    go_end0
    rw [HE.out]
    refine ⟨rfl, H.out.setDev (fun b _ hb => (Below.heap_setCell _ ⟨d, 13, none⟩ _ b hb).trans (Below.heap_setCell w ⟨d, 12, none⟩ _ b hb)) (by simp) S.off _ _ S.exec hb H.out.ex ?_, ((Ch.refl (Fp L) w).setCell (a := ⟨d, 12, none⟩) (.inl (by show Fp L d; unfold Fp; rw [H.out.rd]; omega)) _).setCell (a := ⟨d, 13, none⟩) (.inl (by show Fp L d; unfold Fp; rw [H.out.rd]; omega)) _⟩
    exact (H.out.dev.set 12 _).set 13 _
  · rw [hO] at ho
    have HE : Hid (S.arm n = S) := by show _ = _; simp [DevS.arm, hO]
    clear hO
    go_enter Try.func49, Try.ntmps49
    go_wp2
    exact bodyPost_ret (v := .tuple #[]) (by simp [results, Try.results49, go_sem]) rfl (by rw [HE.out]; exact ⟨rfl, H.out, Ch.refl _ _⟩)
end Go.Proofs.Ytngkhligjkcbmaa

namespace Go.Proofs.Ytngkhligjkcbmaa
open Go.RowKit
set_option linter.unusedVariables false

theorem cnt_pers (S : DevS) (i : Nat) (b : Bool) : (S.cnt i b).pers = S.pers := by
  unfold DevS.cnt DevS.on DevS.fail DevS.setErr
  repeat' split
  all_goals rfl
theorem fail_all (S : DevS) (i : Nat) (e : Int) : (S.fail i e).pers = S.pers ∧ (S.fail i e).lns = S.lns ∧ (S.fail i e).off = S.off := by
  unfold DevS.fail DevS.setErr
  split <;> exact ⟨rfl, rfl, rfl⟩
/-- All words fit. -/
structure FitS (S : DevS) : Prop where
  pers : Fits S.pers
  hist : ∀ (q : Nat) (l : Ln), S.lns[q]? = some l → ∀ p ∈ l.hist, 0 ≤ p.2 ∧ p.2 < 18446744073709551616
section
variable {S S' : DevS}
theorem FitS.same (h : FitS S) (h1 : S'.pers = S.pers) (h2 : S'.lns = S.lns) : FitS S' := ⟨by rw [h1]; exact h.pers, by rw [h2]; exact h.hist⟩
theorem FitS.write (h : FitS S) (k : Nat) (v : Int) (hv : 0 ≤ v ∧ v < 18446744073709551616) : FitS (S.write k v) := by
  refine ⟨h.pers, fun q l hl p hp => ?_⟩
  simp only [DevS.write, List.getElem?_modify] at hl
  obtain ⟨l0, h0, h1⟩ := Option.map_eq_some_iff.1 hl
  split at h1
  · subst h1
    rcases List.mem_append.1 hp with hp | hp
    · exact h.hist q l0 h0 p hp
    · have : p = (8 * (k : Int), v) := by simpa using hp
      subst this; exact hv
  · have : l0 = l := by simpa using h1
    subst this; exact h.hist q l0 h0 p hp
theorem FitS.upto (h : FitS S) (K : Nat → Nat) : FitS (S.upto K) := by
  refine ⟨fun x hx => ?_, fun q l hl p hp => ?_⟩
  · obtain ⟨j, hj, rfl⟩ := List.getElem_of_mem hx
    have hj' : j < S.pers.length := by rwa [(length_upto _).1] at hj
    have h1 := upto_pers K j hj'
    rw [List.getElem?_eq_getElem hj] at h1
    have hf : Fits (applyW S.pers (((S.lns[j / 8]?.map (·.hist)).getD []).take (K (j / 8)))) := by
      refine fits_applyW _ (fun p hp => ?_) _ h.pers
      have hp := List.mem_of_mem_take hp
      cases hl : S.lns[j / 8]? with
      | none => rw [hl] at hp; simp at hp
      | some l => rw [hl] at hp; exact h.hist _ l hl p (by simpa using hp)
    exact hf _ (List.mem_of_getElem? h1.symm)
  · rw [upto_ln] at hl
    obtain ⟨l0, h0, rfl⟩ := Option.map_eq_some_iff.1 hl
    exact h.hist q l0 h0 p (List.mem_of_mem_drop hp)
theorem FitS.exec1 (h : FitS S) (i : Nat) (p : Ins) (hp : 0 ≤ p.2.2 ∧ p.2.2 < 18446744073709551616) : FitS (S.exec1 i p) := by
  have hc : ∀ b, FitS (S.cnt i b) := fun b => h.same (cnt_pers S i b) (cnt_lns S i b).1
  unfold DevS.exec1
  split
  · unfold DevS.store
    split
    · exact (hc _).write _ _ hp
    · exact hc _
  · split
    · unfold DevS.flush
      split
      · exact (hc _).same rfl rfl
      · exact hc _
    · unfold DevS.fence
      split
      · exact ((hc _).upto _).same rfl rfl
      · exact hc _
theorem FitS.runP (i : Nat) : ∀ (ps : List Ins) {S : DevS}, FitS S → (∀ p ∈ ps, 0 ≤ p.2.2 ∧ p.2.2 < 18446744073709551616) → FitS (S.runP i ps) := by
  intro ps
  induction ps with
  | nil => intro S h _; exact h
  | cons p ps ih => intro S h hp; exact ih (h.exec1 i p (hp p List.mem_cons_self)) (fun q hq => hp q (List.mem_cons_of_mem _ hq))
theorem cnt_off (ho : S.off = true) (i : Nat) (b : Bool) : S.cntB b = false ∧ S.cnt i b = S.fail i 3 := by
  simp [DevS.cntB, DevS.cnt, DevS.onB, DevS.on, ho]
/-- Without power nothing is executed. -/
theorem off_exec1 (ho : S.off = true) (i : Nat) (p : Ins) : (S.exec1 i p).off = true ∧ (S.exec1 i p).pers = S.pers ∧ (S.exec1 i p).lns = S.lns := by
  have hf := fail_all S i 3
  have hx : ∀ b, (S.cnt i b).off = true ∧ (S.cnt i b).pers = S.pers ∧ (S.cnt i b).lns = S.lns := fun b => by
    rw [(cnt_off ho i b).2]; exact ⟨hf.2.2.trans ho, hf.1, hf.2.1⟩
  unfold DevS.exec1 DevS.store DevS.flush DevS.fence
  simp only [(cnt_off ho i _).1, Bool.false_eq_true, if_false]
  split
  · exact hx _
  · split
    · exact hx _
    · exact hx _
theorem cnt_cut (ho : S.off = false) (ha : S.armed = true) (hl : S.left = 0) (i : Nat) : S.cntB true = false ∧ (S.cnt i true).off = true ∧ (S.cnt i true).pers = S.pers ∧ (S.cnt i true).lns = S.lns := by
  refine ⟨by simp [DevS.cntB, DevS.onB, ho, ha, hl], ?_, cnt_pers S i true, (cnt_lns S i true).1⟩
  have : S.cnt i true = DevS.fail { S with off := true } i 3 := by simp [DevS.cnt, DevS.onB, ho, ha, hl]
  rw [this]
  exact (fail_all _ i 3).2.2
theorem cnt_go (ho : S.off = false) (ha : S.armed = true) (hl : S.left ≠ 0) (i : Nat) : S.cntB true = true ∧ S.cnt i true = { S with left := S.left - 1, exec := IntKind.u64.wrap (S.exec + 1) } := by
  simp [DevS.cntB, DevS.cnt, DevS.onB, ho, ha, hl]
/-- The power fails at an instruction. -/
theorem cut_exec1 (ho : S.off = false) (ha : S.armed = true) (hl : S.left = 0) (hn : S.lns.length = 12) (i : Nat) (p : Ins) (hp : p.2.1 = 64 ∨ p.1 = 3) : (S.exec1 i p).off = true ∧ (S.exec1 i p).pers = S.pers ∧ (S.exec1 i p).lns = S.lns := by
  have hx := cnt_cut ho ha hl i
  unfold DevS.exec1 DevS.store DevS.flush DevS.fence
  rcases hp with hp | hp
  · have hw : S.wordB p.2.1 = true := by rw [hp]; simp [DevS.wordB, hn]
    have hi : S.inB p.2.1 = true := by rw [hp]; simp [DevS.inB, hn]
    rw [hw, hi, hx.1]
    simp only [Bool.false_eq_true, if_false]
    split
    · exact hx.2
    · split <;> exact hx.2
  · rw [hp, hx.1]
    simp
    exact hx.2
/-- Line 1's word 8, and what of it is not persistent. -/
structure CS (S : DevS) (a : Int) (h : List (Int × Int)) : Prop where
  np : S.pers.length = 96
  p8 : S.pers[8]? = some a
  hist : (S.lns[1]?.map (·.hist)) = some h
theorem CS.same {a : Int} {l : List (Int × Int)} (h : CS S a l) (h1 : S'.pers = S.pers) (h2 : S'.lns = S.lns) : CS S' a l := ⟨by rw [h1]; exact h.np, by rw [h1]; exact h.p8, by rw [h2]; exact h.hist⟩
/-- The word in a crash image. -/
theorem CS.image {a : Int} {l : List (Int × Int)} (h : CS S a l) (K : Nat → Nat) : (S.upto K).pers[8]? = (applyW S.pers (l.take (K 1)))[8]? := by
  have h1 := upto_pers (S := S) K 8 (by rw [h.np]; omega)
  have h2 : (S.lns[1]?.map (·.hist)) = some l := h.hist
  have h3 : (S.upto K).pers[8]? = (applyW S.pers (((S.lns[1]?.map (·.hist)).getD []).take (K 1)))[8]? := h1
  rw [h3, h2]
  rfl
end
/-- What a cut program of one store leaves. -/
theorem cut_run (S : DevS) (N : Nat) (hG : Good S N) (hN : N < 1000000) (hl : S.lns.length = 12) (ho : S.off = false) (v want : Int) (hC : CS S v []) (hn : ∀ x, (S.thr 0).notes x = none) (k : Nat) :
    ∃ a h, CS ((S.arm k).runP 0 (storesP [(64, want)])) a h ∧ ((a = v ∧ h = []) ∨ (a = v ∧ h = [(64, want)]) ∨ (a = want ∧ h = [])) ∧ (((S.arm k).runP 0 (storesP [(64, want)])).off = false → a = want ∧ h = []) := by
  have hP : storesP [((64 : Int), want)] = [(1, 64, want), (2, 64, 0), (3, 0, 0)] := by
    have : startOf 64 = 64 := by decide
    simp [storesP, insSt, insFl, starts, cpt, this]
  have hA : S.arm k = { S with armed := true, left := (k : Int) } := by
    unfold DevS.arm
    rw [ho]
    have h1 : imax (k : Int) 0 = (k : Int) := by unfold imax; rw [if_neg (by omega)]
    simp [h1]
  rw [hP, hA]
  show ∃ a h, CS (((({ S with armed := true, left := (k : Int) } : DevS).exec1 0 (1, 64, want)).exec1 0 (2, 64, 0)).exec1 0 (3, 0, 0)) a h ∧ _ ∧ ((((({ S with armed := true, left := (k : Int) } : DevS).exec1 0 (1, 64, want)).exec1 0 (2, 64, 0)).exec1 0 (3, 0, 0)).off = false → _)
  obtain ⟨A, hAe⟩ : ∃ A : DevS, ({ S with armed := true, left := (k : Int) } : DevS) = A := ⟨_, rfl⟩
  have a1 : A.off = false := by rw [← hAe]; exact ho
  have a2 : A.armed = true := by rw [← hAe]
  have a3 : A.left = (k : Int) := by rw [← hAe]
  have a4 : A.lns.length = 12 := by rw [← hAe]; exact hl
  have a5 : CS A v [] := by rw [← hAe]; exact hC.same rfl rfl
  have a6 : ∀ x, (A.thr 0).notes x = none := by rw [← hAe]; exact hn
  have a7 : Good A N := by rw [← hAe]; exact hG.ctr _ _ _ _
  rw [hAe]
  clear hAe hA hP
  by_cases k0 : k = 0
  · obtain ⟨b1, b2, b3⟩ := cut_exec1 a1 a2 (by rw [a3, k0]; rfl) a4 0 (1, 64, want) (.inl rfl)
    obtain ⟨c1, c2, c3⟩ := off_exec1 b1 0 (2, 64, 0)
    obtain ⟨d1, d2, d3⟩ := off_exec1 c1 0 (3, 0, 0)
    exact ⟨v, [], a5.same (d2.trans (c2.trans b2)) (d3.trans (c3.trans b3)), .inl ⟨rfl, rfl⟩, fun h => by rw [d1] at h; cases h⟩
  · obtain ⟨e1, e2⟩ := cnt_go a1 a2 (by rw [a3]; omega) 0
    have hw : A.wordB 64 = true := by simp [DevS.wordB, a4]
    have hS1 : A.exec1 0 (1, 64, want) = ({ A with left := A.left - 1, exec := IntKind.u64.wrap (A.exec + 1) } : DevS).write 8 want := by
      simp only [DevS.exec1, DevS.store, if_true, hw, e1, e2]
      rfl
    have g1 : Good (A.exec1 0 (1, 64, want)) (N + 1) := a7.exec1 (by omega) _ (show (0 : Int) ≤ 64 by decide) (by omega)
    rw [hS1] at g1 ⊢
    obtain ⟨B, hB⟩ : ∃ B : DevS, ({ A with left := A.left - 1, exec := IntKind.u64.wrap (A.exec + 1) } : DevS).write 8 want = B := ⟨_, rfl⟩
    have b1 : B.off = false := by rw [← hB]; exact a1
    have b2 : B.armed = true := by rw [← hB]; exact a2
    have b3 : B.left = (k : Int) - 1 := by rw [← hB, ← a3]; rfl
    have b4 : B.lns.length = 12 := by rw [← hB]; simpa [DevS.write] using a4
    have b5 : CS B v [(64, want)] := by
      refine ⟨by rw [← hB]; exact a5.np, by rw [← hB]; exact a5.p8, ?_⟩
      have h1 := a5.hist
      rw [← hB]
      obtain ⟨l, hl1, hl2⟩ := Option.map_eq_some_iff.1 h1
      simp [DevS.write, hl1, hl2]
    have b6 : ∀ x, (B.thr 0).notes x = none := by rw [← hB]; exact a6
    rw [hB] at g1 ⊢
    clear hB hS1
    by_cases k1 : k = 1
    · obtain ⟨c1, c2, c3⟩ := cut_exec1 b1 b2 (by rw [b3, k1]; rfl) b4 0 (2, 64, 0) (.inl rfl)
      obtain ⟨d1, d2, d3⟩ := off_exec1 c1 0 (3, 0, 0)
      exact ⟨v, [(64, want)], b5.same (d2.trans c2) (d3.trans c3), .inr (.inl ⟨rfl, rfl⟩), fun h => by rw [d1] at h; cases h⟩
    · obtain ⟨e3, e4⟩ := cnt_go b1 b2 (by rw [b3]; omega) 0
      have hi : B.inB 64 = true := by simp [DevS.inB, b4]
      have hS2 : B.exec1 0 (2, 64, 0) = ({ B with left := B.left - 1, exec := IntKind.u64.wrap (B.exec + 1) } : DevS).note 0 1 := by
        simp only [DevS.exec1, DevS.flush, hi, e3, e4]
        rfl
      have g2 : Good (B.exec1 0 (2, 64, 0)) (N + 1 + 1) := g1.exec1 (by omega) _ (by decide) (by omega)
      rw [hS2] at g2 ⊢
      obtain ⟨C, hCe⟩ : ∃ C : DevS, ({ B with left := B.left - 1, exec := IntKind.u64.wrap (B.exec + 1) } : DevS).note 0 1 = C := ⟨_, rfl⟩
      have c1 : C.off = false := by rw [← hCe]; exact b1
      have c2 : C.armed = true := by rw [← hCe]; exact b2
      have c3 : C.left = (k : Int) - 1 - 1 := by rw [← hCe, ← b3]; rfl
      have c4 : C.lns.length = 12 := by rw [← hCe]; exact b4
      have c5 : CS C v [(64, want)] := by rw [← hCe]; exact b5.same rfl rfl
      obtain ⟨l, hl1, hl2⟩ := Option.map_eq_some_iff.1 b5.hist
      have c6 : (C.thr 0).notes 1 = some (l.done + 1) := by
        obtain ⟨r1, r2, _⟩ := g1.ln 1 l hl1
        have hw2 : IntKind.u64.wrap (l.done + (l.hist.length : Int)) = l.done + 1 := by
          rw [hl2]
          rw [hl2] at r2
          exact IntWalk.u64_in _ (by simp at r2 ⊢; omega)
        rw [← hCe]
        simp [DevS.note, hl1, hw2]
      have c7 : C.lns[1]? = some l := by rw [← hCe]; exact hl1
      rw [hCe] at g2 ⊢
      clear hCe hS2
      by_cases k2 : k = 2
      · obtain ⟨d1, d2, d3⟩ := cut_exec1 c1 c2 (by rw [c3, k2]; rfl) c4 0 (3, 0, 0) (.inr rfl)
        exact ⟨v, [(64, want)], c5.same d2 d3, .inr (.inl ⟨rfl, rfl⟩), fun h => by rw [d1] at h; cases h⟩
      · obtain ⟨e5, e6⟩ := cnt_go c1 c2 (by rw [c3]; omega) 0
        obtain ⟨Z, hZ⟩ : ∃ Z : DevS, ({ C with left := C.left - 1, exec := IntKind.u64.wrap (C.exec + 1) } : DevS) = Z := ⟨_, rfl⟩
        have hS3 : C.exec1 0 (3, 0, 0) = (Z.upto (Z.due 0)).clearN 0 := by
          simp only [DevS.exec1, DevS.fence, e5, e6, hZ]
          rfl
        have z5 : CS Z v [(64, want)] := by rw [← hZ]; exact c5.same rfl rfl
        have z7 : Z.lns[1]? = some l := by rw [← hZ]; exact c7
        have z6 : Z.due 0 1 = 1 := by
          have : (Z.thr 0).notes ((1 : Nat) : Int) = some (l.done + 1) := by rw [← hZ]; exact c6
          unfold DevS.due
          rw [this, z7]
          simp
          omega
        rw [hS3]
        refine ⟨want, [], ⟨?_, ?_, ?_⟩, .inr (.inr ⟨rfl, rfl⟩), fun _ => ⟨rfl, rfl⟩⟩
        · show (Z.upto (Z.due 0)).pers.length = 96
          rw [(length_upto _).1]; exact z5.np
        · show (Z.upto (Z.due 0)).pers[8]? = some want
          rw [z5.image, z6]
          simp only [List.take_succ_cons, List.take_zero, applyW, List.foldl_cons, List.foldl_nil]
          rw [List.getElem?_set, if_pos (by decide), if_pos (by rw [z5.np]; omega)]
        · show (Z.upto (Z.due 0)).lns[1]?.map (·.hist) = some []
          rw [upto_ln, z7]
          simp [z6, hl2]
/-- Line 1 is made persistent. -/
theorem persist_word {S : DevS} {N : Nat} {xs0 : List Int} {ws : List (Int × Int)} (h : Mid S 0 12 xs0 ws [] N) (hN : N + 2 < 1000000) (hw : ∀ p ∈ ws, 0 ≤ p.1) (hx : xs0.length = 96) :
    On (S.runP 0 [(2, 64, 0), (3, 0, 0)]) 12 (applyW xs0 ws) (N + 2) ∧ (∀ v, (applyW xs0 ws)[8]? = some v → CS (S.runP 0 [(2, 64, 0), (3, 0, 0)]) v []) ∧ ∀ x, ((S.runP 0 [(2, 64, 0), (3, 0, 0)]).thr 0).notes x = none := by
  have h1 := h.flush (q := 1) (by omega) (by omega)
  have hr : S.runP 0 [(2, 64, 0), (3, 0, 0)] = (S.flush 0 64).fence 0 := rfl
  have e64 : (64 : Int) * ((1 : Nat) : Int) = 64 := by decide
  rw [e64, List.nil_append] at h1
  rw [hr]
  obtain ⟨B, hB⟩ : ∃ B, S.flush 0 64 = B := ⟨_, rfl⟩
  rw [hB] at h1
  rw [hB]
  have hG := (h1.good.fence (i := 0) (by omega) (by omega)).mono (Nat.le_succ (N + 1))
  obtain ⟨c1, c2⟩ := cnt_ok (i := 0) h1.off h1.armed
  have hE : B.fence 0 = ((({ B with exec := IntKind.u64.wrap (B.exec + 1) } : DevS).upto (({ B with exec := IntKind.u64.wrap (B.exec + 1) } : DevS).due 0))).clearN 0 := by
    unfold DevS.fence; rw [c1, if_pos rfl, c2]
  rw [hE] at hG ⊢
  obtain ⟨T, hT⟩ : ∃ T : DevS, T = { B with exec := IntKind.u64.wrap (B.exec + 1) } := ⟨_, rfl⟩
  have hTl : T.lns = B.lns := by rw [hT]
  have hTt : T.thr = B.thr := by rw [hT]
  have hTp : T.pers = xs0 := by rw [hT]; exact h1.pers
  have hTc : T.cur = applyW xs0 ws := by rw [hT]; exact h1.cur
  rw [← hT] at hG ⊢
  have hlt : 1 < B.lns.length := by rw [h1.nl]; omega
  obtain ⟨l, hl⟩ : ∃ l, B.lns[1]? = some l := ⟨_, List.getElem?_eq_getElem hlt⟩
  have hdue : T.due 0 1 = l.hist.length := by
    obtain ⟨a1, a2, _⟩ := h1.good.ln 1 l hl
    unfold DevS.due
    rw [hTt, hTl, hl, h1.note 1 l hl (by simp)]
    simp
    omega
  refine ⟨⟨hG, ?_, hTc, by rw [hT]; exact h1.off, by rw [hT]; exact h1.armed, fun j => ?_⟩, fun v hv => ⟨?_, ?_, ?_⟩, fun x => ?_⟩
  · show (T.upto (T.due 0)).lns.length = 12
    rw [(length_upto _).2, hTl]; exact h1.nl
  · show (((T.upto (T.due 0)).clearN 0).thr j).err = 0
    have e1 : ((T.upto (T.due 0)).thr) = B.thr := hTt
    by_cases hj : j = 0
    · subst hj; simp [DevS.clearN, e1, h1.err]
    · simp [DevS.clearN, hj, e1, h1.err]
  · show (T.upto (T.due 0)).pers.length = 96
    rw [(length_upto _).1, hTp]; exact hx
  · show (T.upto (T.due 0)).pers[8]? = some v
    rw [upto_pers _ 8 (by rw [hTp, hx]; omega), hTp, hTl, show (8 / 8 : Nat) = 1 from rfl, hl, hdue]
    simp only [Option.map_some, Option.getD_some, List.take_length]
    rw [h1.hist 1 l hl]
    exact (applyW_filter 8 ws xs0 hw).trans hv
  · show (T.upto (T.due 0)).lns[1]?.map (·.hist) = some []
    rw [upto_ln, hTl, hl]
    simp [hdue]
  · simp [DevS.clearN]
end Go.Proofs.Ytngkhligjkcbmaa

namespace Go.Proofs.Ytngkhligjkcbmaa
open Go.RowKit
set_option linter.unusedVariables false

section
variable {d : Nat} {L : Lay} {S : DevS}
/-- The bytes of words, in a block of the call's own. -/
def BytesPost (w : World) (ws : List Int) (n : Nat) (e : Ending) (w' : World) : Prop := ∃ g, e = .returned (.slice (some ⟨g, 0, none⟩) n n) ∧ IB .u8 5 w' g (bytesL ws) ∧ w.heap.size ≤ g ∧ Below w.heap.size w w'
set_option maxHeartbeats 1000000 in
theorem devCurrent_ok (w : World) (h : Dev w d L S) (hf : Fits S.cur) (n m : Nat) (hn : S.cur.length = n) (hm : 8 * n = m) : Calls Try.prog 73 #[.pointer (some ⟨d, 0, none⟩)] w (BytesPost w S.cur m) := by
  have h0 := h.ccell
  have hl := h.lt
  have hnl : n ≤ 32768 := by have := h.np; have := h.nc; have := h.nl; omega
  have hB := fun c => bytesOfD w (some ⟨L.cb, 0, none⟩) n c S.cur hn hnl hf h.cur.rdW
  rw [hn] at h0
  rw [hm] at hB
  have HB := Lib.hid hB
  clear h hf hB
  go_enter Try.func73, Try.ntmps73
  go_wp2_with (go_at_call 86; refine (HB.out _).mono ?_; rintro e w' ⟨g, rfl, hI, hg, hb⟩; have HI := Lib.hid hI; have HG := Lib.hid hg; have HBB := Lib.hid hb; clear hI hg hb)
  go_ret
  exact ⟨g, rfl, HI.out, HG.out, HBB.out⟩
set_option maxHeartbeats 1000000 in
theorem devPersisted_ok (w : World) (h : Dev w d L S) (hf : Fits S.pers) (n m : Nat) (hn : S.pers.length = n) (hm : 8 * n = m) : Calls Try.prog 52 #[.pointer (some ⟨d, 0, none⟩)] w (BytesPost w S.pers m) := by
  have h0 := h.pcell
  have hl := h.lt
  have hnl : n ≤ 32768 := by have := h.np; have := h.nc; have := h.nl; omega
  have hB := fun c => bytesOfD w (some ⟨L.pb, 0, none⟩) n c S.pers hn hnl hf h.pers.rdW
  rw [hn] at h0
  rw [hm] at hB
  have HB := Lib.hid hB
  clear h hf hB
  go_enter Try.func52, Try.ntmps52
  go_wp2_with (go_at_call 86; refine (HB.out _).mono ?_; rintro e w' ⟨g, rfl, hI, hg, hb⟩; have HI := Lib.hid hI; have HG := Lib.hid hg; have HBB := Lib.hid hb; clear hI hg hb)
  go_ret
  exact ⟨g, rfl, HI.out, HG.out, HBB.out⟩
set_option maxHeartbeats 400000 in
theorem devExecuted_ok (w : World) (h : Dev w d L S) : Calls Try.prog 74 #[.pointer (some ⟨d, 0, none⟩)] w fun e w' => e = .returned (.int .u64 S.exec) ∧ w = w' := by
  have h0 := h.xcell
  have hl := h.lt
  clear h
  go_enter Try.func74, Try.ntmps74
  go_wp2
  go_ret
  exact ⟨rfl, rfl⟩
set_option maxHeartbeats 400000 in
theorem devOff_ok (w : World) (h : Dev w d L S) : Calls Try.prog 75 #[.pointer (some ⟨d, 0, none⟩)] w fun e w' => e = .returned (.bool S.off) ∧ w = w' := by
  have h0 := h.ocell
  have hl := h.lt
  clear h
  go_enter Try.func75, Try.ntmps75
  go_wp2
  go_ret
  exact ⟨rfl, rfl⟩
end
/-- A copy of writes. -/
def ClPost (w : World) (xs : List Value) (n : Nat) (e : Ending) (w' : World) : Prop := ∃ A c, e = .returned (.slice A n c) ∧ Sl 34 2 w' A n c xs ∧ Below w.heap.size w w' ∧ ∀ b, OwnB A b → w.heap.size ≤ b
theorem wcells_one (ws : List (Int × Int)) : ∀ u ∈ wcells ws, u.oneCell' = true := by
  intro u hu
  simp only [wcells, List.mem_flatMap] at hu
  obtain ⟨p, _, hu⟩ := hu
  simp at hu
  rcases hu with rfl | rfl <;> rfl
set_option maxHeartbeats 1000000 in
theorem cloneWr_ok (w : World) (A : Option Addr) (n c : Nat) (ws : List (Int × Int)) (hn : n ≤ 1000000) (hS : Sl 34 2 w A n c (wcells ws)) : Calls Try.prog 99 #[.slice A n c] w (ClPost w (wcells ws) n) := by
  cases A with
  | none =>
    obtain ⟨h1, h2⟩ := hS
    have hz : n = 0 ∧ c = 0 := by
      rcases h2 with ⟨_, h, h'⟩ | ⟨_, _, _, h, _⟩
      · exact ⟨h, h'⟩
      · cases h
    obtain ⟨rfl, rfl⟩ := hz
    have hw : wcells ws = [] := List.eq_nil_of_length_eq_zero (by simpa using h1)
    rw [hw]
    have hsn := fun (W : World) => Lib.run_eql_slice_nil (P := Try.prog) W 28 34 none 0 0 0 0 Try.underlying28
    clear h1 h2 hw
    go_enter Try.func99, Try.ntmps99
    go_wp2
    go_ret
    exact ⟨none, 0, rfl, Sl.nil, Below.refl _ _, by simp [OwnB]⟩
  | some a =>
    have hsn := fun (W : World) => Lib.run_eql_slice_nil (P := Try.prog) W 28 34 (some a) n c 0 0 Try.underlying28
    have HS := Lib.hid hS
    have HE0 : Hid (Sl 34 2 (w.alloc (.cells #[] 34)) (some ⟨w.heap.size, 0, none⟩) 0 0 []) := ⟨by simp, .inr ⟨w.heap.size, 0, #[], rfl, CB.new _ _ _, Nat.le_refl _, by omega, by simp, by simp⟩⟩
    clear hS
    go_enter Try.func99, Try.ntmps99
    go_wp2_with (at_builtin; refine wpList_append_sl2 rfl (.tmp 5) (.tmp 6) 28 rfl 34 (.agg #[.int .u64 0, .int .u64 0]) 2 16 rfl (by omega) Try.underlying28 info_write (by omega) (some ⟨w.heap.size, 0, none⟩) 0 0 [] (some a) n c (wcells ws) rfl rfl HE0.out (HS.out.keep (fun b hb => Below.heap_alloc _ _ b (HS.out.lt hb))) (wcells_one _) (by omega) ?_; intro A2 c2 w2 HO HC HW)
    go_ret
    have hO := HO.out
    rw [List.nil_append, Nat.zero_add] at hO
    refine ⟨A2, c2, rfl, hO, bl_ch (bl_alloc (Below.refl _ _) _) HC.out (fun b hb => ?_), fun b hb => ?_⟩
    · have : w.heap.size = b := by simpa [OwnB] using hb
      omega
    · rcases HW.out b hb with h | h
      · have : w.heap.size = b := by simpa [OwnB] using h
        omega
      · rw [h]; simp
set_option maxRecDepth 100000 in
set_option maxHeartbeats 1000000 in
theorem devHistory_ok {d : Nat} {L : Lay} {S : DevS} (w : World) (h : Dev w d L S) (q : Nat) (hq : q < S.lns.length) (n : Nat) (hn : S.lns[q].hist.length = n) (hb : n ≤ 1000000) :
    Calls Try.prog 76 #[.pointer (some ⟨d, 0, none⟩), .int .i64 (q : Int)] w (ClPost w (wcells S.lns[q].hist) n) := by
  obtain ⟨cs, hcs, hsz, hcell⟩ := h.lin
  have hlb := hcs.lt
  have hc1 := hcs.cell_some (hcell q hq).2
  rw [Nat.mul_comm 2 q, hn] at hc1
  have h2 := h.lcell
  have hl := h.lt
  have hnl := h.nl
  have hS := h.his q hq
  rw [hn] at hS
  have HC := Lib.hid (cloneWr_ok w (L.ha q) n (L.hc q) S.lns[q].hist hb hS)
  have hq' : (q : Int) < (S.lns.length : Int) := by omega
  have hq2 : ¬ (S.lns.length : Int) ≤ (q : Int) := by omega
  clear h hcs hcell hsz hS hn
  go_enter Try.func76, Try.ntmps76
  go_wp2_with (go_at_call 99; refine HC.out.mono ?_; rintro e w' ⟨A, c, rfl, hS, hb, hO⟩; have HS := Lib.hid hS; have HB := Lib.hid hb; have HO := Lib.hid hO; clear hS hb hO)
  go_ret
  exact ⟨A, c, rfl, HS.out, HB.out, HO.out⟩
end Go.Proofs.Ytngkhligjkcbmaa

namespace Go.Proofs.Ytngkhligjkcbmaa
open Go.RowKit
set_option linter.unusedVariables false

/-- Two devices that look the same. -/
structure Same (S T : DevS) : Prop where
  pers : T.pers = S.pers
  cur : T.cur = S.cur
  exec : T.exec = S.exec
  off : T.off = S.off
  len : T.lns.length = S.lns.length
  hist : ∀ q (h : q < S.lns.length) (h' : q < T.lns.length), T.lns[q].hist = S.lns[q].hist
theorem Same.refl (S : DevS) : Same S S := ⟨rfl, rfl, rfl, rfl, rfl, fun _ _ _ => rfl⟩

set_option maxRecDepth 100000 in
set_option maxHeartbeats 8000000 in
theorem alike_ok (w : World) (d1 d2 : Nat) (L1 L2 : Lay) (S T : DevS) (h1 : Dev w d1 L1 S) (h2 : Dev w d2 L2 T) (hs : Same S T) (hfp : Fits S.pers) (hfc : Fits S.cur) (hh : ∀ l ∈ S.lns, l.hist.length ≤ 1000000) :
    Calls Try.prog 32 #[.pointer (some ⟨d1, 0, none⟩), .pointer (some ⟨d2, 0, none⟩)] w fun e w' => e = .returned (.bool true) ∧ Below w.heap.size w w' := by
  obtain ⟨n, hn⟩ : ∃ n, S.lns.length = n := ⟨_, rfl⟩
  have hn2 : T.lns.length = n := hs.len.trans hn
  obtain ⟨m, hm⟩ : ∃ m, 8 * (8 * n) = m := ⟨_, rfl⟩
  have HH1 := Lib.hid h1
  have HH2 := Lib.hid h2
  have HC1 := Lib.hid (fun W (hW : Below w.heap.size w W) => devCurrent_ok W (h1.below hW) hfc (8 * n) m (by rw [h1.nc, hn]) hm)
  have HC2 := Lib.hid (fun W (hW : Below w.heap.size w W) => by
    have := devCurrent_ok W (h2.below hW) (by rw [hs.cur]; exact hfc) (8 * n) m (by rw [h2.nc, hn2]) hm
    rwa [hs.cur] at this)
  have HP1 := Lib.hid (fun W (hW : Below w.heap.size w W) => devPersisted_ok W (h1.below hW) hfp (8 * n) m (by rw [h1.np, hn]) hm)
  have HP2 := Lib.hid (fun W (hW : Below w.heap.size w W) => by
    have := devPersisted_ok W (h2.below hW) (by rw [hs.pers]; exact hfp) (8 * n) m (by rw [h2.np, hn2]) hm
    rwa [hs.pers] at this)
  have HX1 := Lib.hid (fun W (hW : Below w.heap.size w W) => devExecuted_ok W (h1.below hW))
  have HX2 := Lib.hid (fun W (hW : Below w.heap.size w W) => by
    have := devExecuted_ok W (h2.below hW)
    rwa [hs.exec] at this)
  have HF1 := Lib.hid (fun W (hW : Below w.heap.size w W) => devOff_ok W (h1.below hW))
  have HF2 := Lib.hid (fun W (hW : Below w.heap.size w W) => by
    have := devOff_ok W (h2.below hW)
    rwa [hs.off] at this)
  have hlc : (bytesL S.cur).length = m := by rw [length_bytesL, h1.nc, hn, hm]
  have hlp : (bytesL S.pers).length = m := by rw [length_bytesL, h1.np, hn, hm]
  obtain ⟨bc, hbc⟩ : ∃ bc, bytesL S.cur = bc := ⟨_, rfl⟩
  obtain ⟨bp, hbp⟩ : ∃ bp, bytesL S.pers = bp := ⟨_, rfl⟩
  obtain ⟨ex, hex⟩ : ∃ ex, S.exec = ex := ⟨_, rfl⟩
  obtain ⟨of, hof⟩ : ∃ of, S.off = of := ⟨_, rfl⟩
  unfold BytesPost at HC1 HC2 HP1 HP2
  rw [hbc] at HC1 HC2 hlc
  rw [hbp] at HP1 HP2 hlp
  rw [hex] at HX1 HX2
  rw [hof] at HF1 HF2
  have HCV := Lib.hid (fun (W : World) (g : Nat) (hI : IB .u8 5 W g bc) => run_bytes_str W 84 9 5 Try.underlying84 Try.underlying5 Try.underlying9 g 0 m m bc hlc (by have := hI.rd 0 m; rwa [List.drop_zero, List.take_of_length_le (by omega)] at this))
  have HPV := Lib.hid (fun (W : World) (g : Nat) (hI : IB .u8 5 W g bp) => run_bytes_str W 84 9 5 Try.underlying84 Try.underlying5 Try.underlying9 g 0 m m bp hlp (by have := hI.rd 0 m; rwa [List.drop_zero, List.take_of_length_le (by omega)] at this))
  have HSS := Lib.hid hs
  have HHH := Lib.hid hh
  have HN := Lib.hid (And.intro hn hn2)
  clear h1 h2 hfp hfc hh hlc hlp hbc hbp hex hof hs hm hn hn2
  go_enter Try.func32, Try.ntmps32
  go_upto_region 1 with (fail)
  go_cut [38] from 39 (fun s wx => s = .bool false ∧ Below w.heap.size w wx)
  case first =>
    go_region_with (first
      | (go_at_call 73; first
        | ((with_reducible refine (HC1.out _ ?_).mono ?_); (exact bl_drew (Below.refl _ _)); rintro e w1 ⟨g1, rfl, hI, hg, hb⟩; have hv1 := HCV.out w1 g1 hI; have hv1' := (fun x : BX w1 => HCV.out x.w g1 (hI.below x.below hI.lt)); have HI1 := Lib.hid hI; have HB1 : Hid (Below w.heap.size w w1) := (bl_drew (Below.refl _ _)).trans hb; clear hI hg hb)
        | ((with_reducible refine (HC2.out _ HB1.out).mono ?_); rintro e w2 ⟨g2, rfl, hI, hg, hb⟩; obtain ⟨x2, rfl⟩ := bx_of hb; have hv2 := HCV.out x2.w g2 hI; have HB2 : Hid (Below w.heap.size w x2.w) := HB1.out.trans (hb.mono HB1.out.size); clear hI hg hb))
      | (go_at_call 52; first
        | ((with_reducible refine (HP1.out _ HB2.out).mono ?_); rintro e w3 ⟨g3, rfl, hI, hg, hb⟩; have hv3 := HPV.out w3 g3 hI; have hv3' := (fun x : BX w3 => HPV.out x.w g3 (hI.below x.below hI.lt)); have HB3 : Hid (Below w.heap.size w w3) := HB2.out.trans (hb.mono HB2.out.size); clear hI hg hb)
        | ((with_reducible refine (HP2.out _ HB3.out).mono ?_); rintro e w4 ⟨g4, rfl, hI, hg, hb⟩; obtain ⟨x4, rfl⟩ := bx_of hb; have hv4 := HPV.out x4.w g4 hI; have HB4 : Hid (Below w.heap.size w x4.w) := HB3.out.trans (hb.mono HB3.out.size); clear hI hg hb))
      | (go_at_call 74; first
        | ((with_reducible refine (HX1.out _ HB4.out).mono ?_); rintro e w' ⟨rfl, rfl⟩)
        | ((with_reducible refine (HX2.out _ HB4.out).mono ?_); rintro e w' ⟨rfl, rfl⟩))
      | (go_at_call 75; first
        | ((with_reducible refine (HF1.out _ HB4.out).mono ?_); rintro e w' ⟨rfl, rfl⟩)
        | ((with_reducible refine (HF2.out _ HB4.out).mono ?_); rintro e w' ⟨rfl, rfl⟩)))
    all_goals go_wp2
    all_goals go_meet
    all_goals exact ⟨rfl, HB4.out⟩
  case rest =>
    obtain ⟨rfl, hb⟩ := hcut
    have HBC := Lib.hid hb
    clear hb HC1 HC2 HP1 HP2 HX1 HX2 HF1 HF2 HCV HPV
    have HLN : Hid (Calls Try.prog 65 #[.pointer (some ⟨d1, 0, none⟩)] wc fun e w' => e = .returned (.int .i64 (n : Int)) ∧ wc = w') := by
      have := devLines wc d1 L1 S (HH1.out.below HBC.out)
      rwa [HN.out.1] at this
    have hnW := neqW
    have hgW := gW
    have hnb := HH1.out.nl
    rw [HN.out.1] at hnb
    go_wp2_with (go_at_call 65; refine HLN.out.mono ?_; rintro e w' ⟨rfl, rfl⟩)
    go_loopw [41, 4, 5, 6, 7, 8, 42, 43, 44, 45, 46, 47, 48, 49, 50, 51, 52, 53, 54, 55, 56, 57, 58, 59, 60, 61, 62, 63, 64, 65, 66, 67, 68, 69, 70] (fun i _ _ _ _ _ _ _ _ _ _ _ _ _ _ _ _ _ _ _ _ _ _ _ _ _ _ _ _ _ _ _ _ _ _ wr => ∃ q : Nat, q ≤ n ∧ i = .int .i64 q ∧ Below w.heap.size w wr) (fun i _ _ _ _ _ _ _ _ _ _ _ _ _ _ _ _ _ _ _ _ _ _ _ _ _ _ _ _ _ _ _ _ _ _ _ => n - (intOf i).toNat)
    case atStart => exact ⟨0, by omega, rfl, HBC.out⟩
    case round =>
      obtain ⟨q, hq, rfl, hb⟩ := hrel
      have HB := Lib.hid hb
      clear hb
      by_cases hlt : q < n
      · have hq1 : q < S.lns.length := by rw [HN.out.1]; exact hlt
        have hq2 : q < T.lns.length := by rw [HN.out.2]; exact hlt
        obtain ⟨hs, hhs⟩ : ∃ hs, S.lns[q].hist = hs := ⟨_, rfl⟩
        obtain ⟨j, hj⟩ : ∃ j, hs.length = j := ⟨_, rfl⟩
        have hjb : j ≤ 1000000 := by rw [← hj, ← hhs]; exact HHH.out _ (List.getElem_mem hq1)
        have HY1 := Lib.hid (fun W (hW : Below w.heap.size w W) => by
          have := devHistory_ok W (HH1.out.below hW) q hq1 j (by rw [hhs, hj]) hjb
          unfold ClPost at this
          rwa [hhs] at this)
        have HY2 := Lib.hid (fun W (hW : Below w.heap.size w W) => by
          have := devHistory_ok W (HH2.out.below hW) q hq2 j (by rw [HSS.out.hist q hq1 hq2, hhs, hj]) hjb
          unfold ClPost at this
          rwa [HSS.out.hist q hq1 hq2, hhs] at this)
        have HJ := Lib.hid hj
        clear hj hhs hq1 hq2
        go_wp2_with (go_at_call 76; first
          | ((with_reducible refine (HY1.out _ HB.out).mono ?_); rintro e w1 ⟨A1, c1, rfl, hS, hb, hO⟩; have HS1 := Lib.hid hS; have HB1 : Hid (Below w.heap.size w w1) := HB.out.trans (hb.mono HB.out.size); clear hS hb hO)
          | ((with_reducible refine (HY2.out _ HB1.out).mono ?_); rintro e w2 ⟨A2, c2, rfl, hS, hb, hO⟩; have HS1b := Lib.hid (HS1.out.keep (fun b hb' => hb.block b (HS1.out.lt hb'))); have HS2 := Lib.hid hS; have HB2 : Hid (Below w.heap.size w w2) := HB1.out.trans (hb.mono HB1.out.size); clear hS hb hO))
        clear HY1 HY2 HS1 HB1
        go_loopw [57, 4, 8, 58, 59, 60, 61, 62, 63, 64, 65, 66, 67, 68, 69] (fun i _ _ _ _ _ _ _ _ _ _ _ _ _ _ wr' => ∃ (x y : Nat), x ≤ j ∧ i = .int .i64 x ∧ w2.drewN y = wr') (fun i _ _ _ _ _ _ _ _ _ _ _ _ _ _ _ => j - (intOf i).toNat)
        case atStart => exact ⟨0, 0, by omega, rfl, rfl⟩
        case round =>
          obtain ⟨x, y', hx, rfl, hwr⟩ := hrel
          have HWR := Lib.hid hwr
          by_cases hxj : x < j
          · have hxl : x < hs.length := by rw [HJ.out]; exact hxj
            obtain ⟨b1, o1, hA1, hb1, e1, e2⟩ := (HS1b.out.keep (w' := wr) (fun b hb => by rw [← hwr]; rfl)).wr hxl
            obtain ⟨b2, o2, hA2, hb2, e3, e4⟩ := (HS2.out.keep (w' := wr) (fun b hb => by rw [← hwr]; rfl)).wr hxl
            obtain ⟨⟨of, v⟩, hp⟩ : ∃ p, hs[x] = p := ⟨_, rfl⟩
            rw [hp] at e1 e2 e3 e4
            rw [show 2 * x = x * 2 by omega] at e1 e2 e3 e4
            subst hA1 hA2
            clear hp hwr
            go_wp2
            go_quiet (fail)
            go_wp2
            go_roundw
            case rel => exact ⟨x + 1, y' + nq, by omega, by go_num, by rw [← HWR.out, World.drewN_drewN]⟩
            case measure => simp [intOf]; omega
          · clear hwr
            go_wp2
            go_roundw
            case rel => exact ⟨q + 1, by omega, by go_num, by rw [← HWR.out]; exact below_drewN HB2.out y'⟩
            case measure => simp [intOf]; omega
      · go_wp2
        go_ret
        exact ⟨rfl, HB.out⟩
end Go.Proofs.Ytngkhligjkcbmaa

namespace Go.Proofs.Ytngkhligjkcbmaa
open Go.RowKit
set_option linter.unusedVariables false

theorem length_progOf (z : List (Int × Int × Int)) : (progOf z).length ≤ 40 := by unfold progOf; rw [List.length_map, List.length_take]; omega
/-- Two devices whose blocks are apart. -/
def Two (F G : Nat → Prop) (d : Nat) (t : Nat → Nat) (e : Nat) (u : Nat → Nat) (w : World) (S T : DevS) : Prop :=
  DV F d t w S ∧ DV G e u w T ∧ ∀ b, b < w.heap.size → F b → ¬ G b
section
variable {F G : Nat → Prop} {d e : Nat} {t u : Nat → Nat} {w w' : World} {S S' T T' : DevS}
theorem Two.swap (h : Two F G d t e u w S T) : Two G F e u d t w T S := ⟨h.2.1, h.1, fun b hb hg hf => h.2.2 b hb hf hg⟩
/-- A call of the first device. -/
theorem Two.left (h : Two F G d t e u w S T) (hD : DV F d t w' S') (hC : Ch F w w') : ∃ G', Two F G' d t e u w' S' T ∧ ∀ b, G' b → G b := by
  obtain ⟨h1, ⟨g1, L, hL, hDev, hFp⟩, h3⟩ := h
  have hlt : ∀ b, Fp L b → b < w.heap.size := fun b hb => hDev.fr b hb
  refine ⟨fun b => G b ∧ ¬ (w.heap.size ≤ b ∧ b < w'.heap.size), ⟨hD, ⟨fun b hb => ⟨g1 b (by have := hC.size; omega), by omega⟩, L, hL, hDev.keep (fun b hb => hC.block b (hlt b hb) (fun hf => h3 b (hlt b hb) hf (hFp b hb))) hC.size, fun b hb => ⟨hFp b hb, by have := hlt b hb; omega⟩⟩, fun b hb hf hg => ?_⟩, fun b hb => hb.1⟩
  by_cases hbw : b < w.heap.size
  · exact h3 b hbw hf hg.1
  · exact hg.2 ⟨by omega, hb⟩
theorem Two.right (h : Two F G d t e u w S T) (hD : DV G e u w' T') (hC : Ch G w w') : ∃ F', Two F' G d t e u w' S T' ∧ ∀ b, F' b → F b := by
  obtain ⟨F', h1, h2⟩ := h.swap.left hD hC
  exact ⟨F', h1.swap, h2⟩
theorem Two.drewN (h : Two F G d t e u w S T) (n : Nat) : Two F G d t e u (w.drewN n) S T := ⟨h.1.drewN n, h.2.1.drewN n, h.2.2⟩
/-- A call that only makes memory. -/
theorem Two.below (h : Two F G d t e u w S T) (hb : Below w.heap.size w w') : ∃ G', Two F G' d t e u w' S T ∧ ∀ b, G' b → G b := h.left (h.1.below hb) (Ch.of_below hb)
theorem armV (h : DV F d t w S) (z : Int) (hz : -9223372036854775808 ≤ z ∧ z < 9223372036854775808) :
    Calls Try.prog 49 #[.pointer (some ⟨d, 0, none⟩), .int .i64 z] w fun e w' => e = .returned (.tuple #[]) ∧ DV F d t w' (S.arm z) ∧ Ch F w w' := by
  obtain ⟨h1, L, rfl, h3, h4⟩ := h
  refine (devArm w d L S h3 z hz).mono ?_
  rintro e w' ⟨rfl, hD, hC⟩
  exact ⟨rfl, ⟨fun b hb => h1 b (Nat.le_trans hC.size hb), L, rfl, hD, h4⟩, hC.mono (fun b hb _ => h4 b hb)⟩
end
theorem Good.arm {S : DevS} {N : Nat} (h : Good S N) (z : Int) : Good (S.arm z) N := by
  unfold DevS.arm
  split
  · exact h
  · exact h.same rfl rfl rfl (fun _ => ⟨rfl, rfl⟩)
theorem FitS.arm {S : DevS} (h : FitS S) (z : Int) : FitS (S.arm z) := by
  unfold DevS.arm
  split
  · exact h
  · exact h.same rfl rfl
/-- The current words fit. -/
def FitC (S : DevS) : Prop := Fits S.cur
theorem cnt_cur (S : DevS) (i : Nat) (b : Bool) : (S.cnt i b).cur = S.cur := by
  unfold DevS.cnt DevS.on DevS.fail DevS.setErr
  repeat' split
  all_goals rfl
theorem FitC.exec1 {S : DevS} (h : FitC S) (i : Nat) (p : Ins) (hp : 0 ≤ p.2.2 ∧ p.2.2 < 18446744073709551616) : FitC (S.exec1 i p) := by
  have hc : ∀ b, FitC (S.cnt i b) := fun b => by unfold FitC; rw [cnt_cur]; exact h
  unfold DevS.exec1
  split
  · unfold DevS.store
    split
    · exact Fits.set (hc _) _ hp
    · exact hc _
  · split
    · unfold DevS.flush
      split
      · exact hc _
      · exact hc _
    · unfold DevS.fence
      split
      · exact hc _
      · exact hc _
theorem FitC.runP (i : Nat) : ∀ (ps : List Ins) {S : DevS}, FitC S → (∀ p ∈ ps, 0 ≤ p.2.2 ∧ p.2.2 < 18446744073709551616) → FitC (S.runP i ps) := by
  intro ps
  induction ps with
  | nil => intro S h _; exact h
  | cons p ps ih => intro S h hp; exact ih (h.exec1 i p (hp p (by simp))) (fun q hq => hp q (by simp [hq]))
theorem FitC.arm {S : DevS} (h : FitC S) (z : Int) : FitC (S.arm z) := by
  unfold DevS.arm
  split
  · exact h
  · exact h

set_option maxRecDepth 100000 in
set_option maxHeartbeats 1000000 in
theorem exec10 {F : Nat → Prop} {d : Nat} {t : Nat → Nat} (w : World) {S : DevS} {N : Nat} (h : DV F d t w S) (i : Nat) (hi : i < 8) (hG : Good S N) (hN : N < 1000000) (op off v : Int) (ho : 0 ≤ off ∧ off < 18446744073709551616) (hop : 1 ≤ op ∧ op ≤ 3) :
    Calls Try.prog 50 #[.pointer (some ⟨t i, 0, none⟩), .agg #[.int .u8 op, .int .u64 off, .int .u64 v]] w fun e w' => e = .returned (.tuple #[]) ∧ DV F d t w' (S.exec1 i (op, off, v)) ∧ Ch F w w' := by
  have H := Lib.hid h
  have HG := Lib.hid hG
  have HO := Lib.hid ho
  clear h hG ho
  rcases (by omega : op = 1 ∨ op = 2 ∨ op = 3) with rfl | rfl | rfl
  · have HE : Hid (S.exec1 i (1, off, v) = S.store i off v) := by show _ = _; simp [DevS.exec1]
    go_enter Try.func50, Try.ntmps50
    go_wp2_with (first | (go_at_call 83; refine (storeV (H.out.alloc _) i hi HG.out hN off v HO.out).mono ?_; rintro e w1 ⟨rfl, hD, hC⟩; have HD := Lib.hid hD; have HC := Lib.hid hC; clear hD hC))
    go_end0
    rw [HE.out]
    exact ⟨rfl, HD.out, (Ch.of_below (bl_alloc (Below.refl _ _) _)).trans HC.out (fun _ h _ => h)⟩
  · have HE : Hid (S.exec1 i (2, off, v) = S.flush i off) := by show _ = _; simp [DevS.exec1]
    go_enter Try.func50, Try.ntmps50
    go_wp2_with (first | (go_at_call 84; refine (flushV (H.out.alloc _) i hi HG.out hN off HO.out).mono ?_; rintro e w1 ⟨rfl, hD, hC⟩; have HD := Lib.hid hD; have HC := Lib.hid hC; clear hD hC))
    go_end0
    rw [HE.out]
    exact ⟨rfl, HD.out, (Ch.of_below (bl_alloc (Below.refl _ _) _)).trans HC.out (fun _ h _ => h)⟩
  · have HE : Hid (S.exec1 i (3, off, v) = S.fence i) := by show _ = _; simp [DevS.exec1]
    go_enter Try.func50, Try.ntmps50
    go_wp2_with (first | (go_at_call 85; refine (fenceV (H.out.alloc _) i hi HG.out hN).mono ?_; rintro e w1 ⟨rfl, hD, hC⟩; have HD := Lib.hid hD; have HC := Lib.hid hC; clear hD hC))
    go_end0
    rw [HE.out]
    exact ⟨rfl, HD.out, (Ch.of_below (bl_alloc (Below.refl _ _) _)).trans HC.out (fun _ h _ => h)⟩

set_option maxRecDepth 100000 in
set_option maxHeartbeats 1000000 in
theorem memRun_bad (w : World) (v : Value) (A : Option Addr) (n c : Nat) (ps : List Ins) (hn : ps.length = n) (hb : n ≤ 100000) (hS : Sl 32 3 w A n c (pcells ps)) (hbad : ps.all insB = false) (u : TypeId) :
    Calls Try.prog 37 #[.slice A n c, .iface u v] w fun e w' => e = .returned (.int .i64 1) ∧ Below w.heap.size w w' := by
  have HV := memValid w A n c ps hn (by omega) hS
  rw [hbad] at HV
  have HVV := Lib.hid HV
  clear HV hS hbad hn
  go_enter Try.func37, Try.ntmps37
  go_wp2_with (go_at_call 77; refine HVV.out.mono ?_; rintro e w1 ⟨rfl, hb⟩)
  go_ret
  exact ⟨rfl, hb⟩
end Go.Proofs.Ytngkhligjkcbmaa
