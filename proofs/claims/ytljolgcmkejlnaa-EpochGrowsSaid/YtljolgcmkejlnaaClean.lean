/- Plain law: what the program of Stores does on a device whose stores are all persistent. -/
import Derived.Test.YtljolgcmkejlnaaStores
namespace Go.Proofs.Ytljolgcmkejlnaa
open Go.RowKit
set_option linter.unusedVariables false

/-- A device of n lines that is on, with those words, all persistent. -/
structure Clean (S : DevS) (n : Nat) (xs : List Int) (N : Nat) : Prop where
  good : Good S N
  nl : S.lns.length = n
  cur : S.cur = xs
  pers : S.pers = xs
  off : S.off = false
  armed : S.armed = false
  hist : ∀ (q : Nat) (l : Ln), S.lns[q]? = some l → l.hist = []
  err : ∀ j, (S.thr j).err = 0
  notes : ∀ j x, (S.thr j).notes x = none
/-- In the middle of a program of stores: those writes are stored, those lines are flushed. -/
structure Mid (S : DevS) (i n : Nat) (xs : List Int) (ws : List (Int × Int)) (ls : List Int) (N : Nat) : Prop where
  good : Good S N
  nl : S.lns.length = n
  cur : S.cur = applyW xs ws
  pers : S.pers = xs
  off : S.off = false
  armed : S.armed = false
  hist : ∀ (q : Nat) (l : Ln), S.lns[q]? = some l → l.hist = ws.filter fun p => decide (p.1 / 64 = (q : Int))
  err : ∀ j, (S.thr j).err = 0
  other : ∀ j, j ≠ i → ∀ x, (S.thr j).notes x = none
  notes : ∀ (q : Nat), (64 * (q : Int) ∈ ls ∧ q < n) ∨ (S.thr i).notes (q : Int) = none
  note : ∀ (q : Nat) (l : Ln), S.lns[q]? = some l → 64 * (q : Int) ∈ ls → (S.thr i).notes (q : Int) = some (l.done + (l.hist.length : Int))

section
variable {S : DevS} {i n N : Nat} {xs : List Int} {ws : List (Int × Int)} {ls : List Int}
theorem Clean.mid (h : Clean S n xs N) (i : Nat) : Mid S i n xs [] [] N :=
  ⟨h.good, h.nl, h.cur, h.pers, h.off, h.armed, fun q l hl => by rw [h.hist q l hl]; rfl, h.err, fun j _ x => h.notes j x, fun q => .inr (h.notes i q), fun q l _ hm => by cases hm⟩
theorem cnt_ok (ho : S.off = false) (ha : S.armed = false) : S.cntB true = true ∧ S.cnt i true = { S with exec := IntKind.u64.wrap (S.exec + 1) } := by
  simp [DevS.cntB, DevS.cnt, DevS.onB, ho, ha]
theorem store_ok (ho : S.off = false) (ha : S.armed = false) {k : Nat} (hk : k < 8 * S.lns.length) (v : Int) : S.store i (8 * (k : Int)) v = ({ S with exec := IntKind.u64.wrap (S.exec + 1) } : DevS).write k v := by
  have hw : S.wordB (8 * (k : Int)) = true := by unfold DevS.wordB; simp; omega
  have hq : ((8 * (k : Int)) / 8).toNat = k := by omega
  unfold DevS.store
  rw [hw, (cnt_ok (i := i) ho ha).1, if_pos rfl, hq, (cnt_ok ho ha).2]
theorem Mid.store (h : Mid S i n xs ws [] N) {k : Nat} (hk : k < 8 * n) (v : Int) : Mid (S.store i (8 * (k : Int)) v) i n xs (ws ++ [(8 * (k : Int), v)]) [] (N + 1) := by
  have hG := h.good.store i (8 * (k : Int)) v (by omega)
  have hE := store_ok (i := i) h.off h.armed (k := k) (by rw [h.nl]; exact hk) v
  rw [hE] at hG ⊢
  refine ⟨hG, by simp [DevS.write, h.nl], ?_, h.pers, h.off, h.armed, ?_, h.err, h.other, fun q => .inr (by have := h.notes q; simp only [List.not_mem_nil, false_and, false_or] at this; exact this), fun q l _ hm => by cases hm⟩
  · rw [applyW_snoc, show ((8 * (k : Int)) / 8).toNat = k by omega]
    show S.cur.set k v = _
    rw [h.cur]
  · intro q l hl
    have hlt : q < S.lns.length := by
      have := (List.getElem?_eq_some_iff.1 hl).1
      simpa [DevS.write] using this
    have h0 := h.hist q S.lns[q] (by simp [hlt])
    simp only [DevS.write, List.getElem?_modify, List.getElem?_eq_getElem hlt] at hl
    rw [List.filter_append]
    by_cases hq : k / 8 = q
    · simp [hq] at hl
      subst hl
      have : (8 * (k : Int)) / 64 = (q : Int) := by omega
      simp [h0, this]
    · simp [hq] at hl
      subst hl
      have : ¬ (8 * (k : Int)) / 64 = (q : Int) := by omega
      simp [h0, this]
theorem Mid.flush (h : Mid S i n xs ws ls N) {q : Nat} (hq : q < n) (hN : N < 1000000) : Mid (S.flush i (64 * (q : Int))) i n xs ws (ls ++ [64 * (q : Int)]) (N + 1) := by
  have hG := h.good.flush i (64 * (q : Int)) (by omega) (by omega)
  have hin : S.inB (64 * (q : Int)) = true := by unfold DevS.inB; simp [h.nl]; omega
  have hE : S.flush i (64 * (q : Int)) = ({ S with exec := IntKind.u64.wrap (S.exec + 1) } : DevS).note i q := by
    unfold DevS.flush
    rw [hin, (cnt_ok (i := i) h.off h.armed).1, if_pos rfl, (cnt_ok h.off h.armed).2, show ((64 * (q : Int)) / 64).toNat = q by omega]
  rw [hE] at hG ⊢
  have hql : q < S.lns.length := by rw [h.nl]; exact hq
  obtain ⟨a1, a2, _⟩ := h.good.ln q S.lns[q] (by simp [hql])
  have hw : IntKind.u64.wrap (S.lns[q].done + (S.lns[q].hist.length : Int)) = S.lns[q].done + (S.lns[q].hist.length : Int) := IntWalk.u64_in _ (by omega)
  refine ⟨hG, h.nl, h.cur, h.pers, h.off, h.armed, h.hist, fun j => ?_, fun j hj x => ?_, fun r => ?_, fun r l hl hm => ?_⟩
  · by_cases hj : j = i
    · subst hj; simp [DevS.note, h.err]
    · simp [DevS.note, hj, h.err]
  · simp [DevS.note, hj, h.other j hj x]
  · by_cases hr : r = q
    · subst hr; left; exact ⟨by simp, hq⟩
    · have hr' : ¬ (r : Int) = (q : Int) := by omega
      rcases h.notes r with h1 | h1
      · left; exact ⟨by simp [h1.1], h1.2⟩
      · right; simp [DevS.note, hr', h1]
  · have hl1 : S.lns[r]? = some l := hl
    by_cases hr : r = q
    · subst hr
      have : S.lns[r] = l := by rw [List.getElem?_eq_getElem hql] at hl1; injection hl1
      subst this
      simp [DevS.note, hql, hw]
    · have hr' : ¬ (r : Int) = (q : Int) := by omega
      simp only [List.mem_append, List.mem_singleton] at hm
      rcases hm with hm | hm
      · simp [DevS.note, hr', h.note r l hl1 hm]
      · exfalso; omega
theorem applyW_filter (j : Nat) : ∀ (ws : List (Int × Int)) (xs : List Int), (∀ p ∈ ws, 0 ≤ p.1) → (applyW xs (ws.filter fun p => decide (p.1 / 64 = ((j / 8 : Nat) : Int))))[j]? = (applyW xs ws)[j]? := by
  intro ws
  induction ws with
  | nil => intro xs _; rfl
  | cons p ws ih =>
    intro xs hp
    have hp0 := hp p (by simp)
    have ih' := fun xs => ih xs (fun q hq => hp q (by simp [hq]))
    by_cases hd : p.1 / 64 = ((j / 8 : Nat) : Int)
    · rw [List.filter_cons_of_pos (by simpa using hd)]
      exact ih' _
    · rw [List.filter_cons_of_neg (by simpa using hd), ih' xs]
      show _ = (applyW (xs.set (p.1 / 8).toNat p.2) ws)[j]?
      refine applyW_congr _ j _ _ (by simp) ?_
      rw [List.getElem?_set, if_neg (by omega)]
theorem Mid.fence (h : Mid S i n xs ws ls N) (hi : i < 8) (hN : N < 1000000) (hw : ∀ p ∈ ws, 0 ≤ p.1 ∧ startOf p.1 ∈ ls) : Clean (S.fence i) n (applyW xs ws) (N + 1) := by
  have hG := (h.good.fence hi (by omega)).mono (Nat.le_succ N)
  obtain ⟨c1, c2⟩ := cnt_ok (i := i) h.off h.armed
  have hE : S.fence i = ((({ S with exec := IntKind.u64.wrap (S.exec + 1) } : DevS).upto (({ S with exec := IntKind.u64.wrap (S.exec + 1) } : DevS).due i))).clearN i := by
    unfold DevS.fence; rw [c1, if_pos rfl, c2]
  rw [hE] at hG ⊢
  obtain ⟨T, hT⟩ : ∃ T : DevS, T = { S with exec := IntKind.u64.wrap (S.exec + 1) } := ⟨_, rfl⟩
  have hTl : T.lns = S.lns := by rw [hT]
  have hTt : T.thr = S.thr := by rw [hT]
  have hTp : T.pers = xs := by rw [hT]; exact h.pers
  have hTc : T.cur = applyW xs ws := by rw [hT]; exact h.cur
  rw [← hT] at hG ⊢
  have hdue : ∀ (q : Nat) (l : Ln), S.lns[q]? = some l → T.due i q = l.hist.length := by
    intro q l hl
    obtain ⟨a1, a2, _⟩ := h.good.ln q l hl
    unfold DevS.due
    rw [hTt, hTl, hl]
    rcases h.notes q with hm | hm
    · rw [h.note q l hl hm.1]; simp; omega
    · rw [hm]
      have : l.hist = [] := by
        rw [h.hist q l hl, List.filter_eq_nil_iff]
        intro p hp hd
        have hd' : p.1 / 64 = (q : Int) := by simpa using hd
        have hs := (hw p hp).2
        unfold startOf at hs
        have : p.1 - p.1 % 64 = 64 * (q : Int) := by omega
        rw [this] at hs
        rw [h.note q l hl hs] at hm
        cases hm
      rw [this]; rfl
  have hlen : (T.upto (T.due i)).pers.length = xs.length := by rw [(length_upto _).1, hTp]
  refine ⟨hG, ?_, hTc, ?_, by rw [hT]; exact h.off, by rw [hT]; exact h.armed, ?_, fun j => ?_, fun j x => ?_⟩
  · show (T.upto (T.due i)).lns.length = n
    rw [(length_upto _).2, hTl]; exact h.nl
  · show (T.upto (T.due i)).pers = _
    apply List.ext_getElem?
    intro j
    by_cases hj : j < xs.length
    · rw [upto_pers _ j (by rw [hTp]; exact hj), hTp, hTl]
      have hjl : j / 8 < S.lns.length := by
        have := h.good.np
        rw [h.pers] at this
        omega
      obtain ⟨l, hl⟩ : ∃ l, S.lns[j / 8]? = some l := ⟨_, List.getElem?_eq_getElem hjl⟩
      rw [hl, hdue _ l hl]
      simp only [Option.map_some, Option.getD_some, List.take_length]
      rw [h.hist _ l hl]
      exact applyW_filter j ws xs (fun p hp => (hw p hp).1)
    · rw [List.getElem?_eq_none (by rw [hlen]; omega), List.getElem?_eq_none (by rw [length_applyW]; omega)]
  · intro q l hl
    have hl : (T.upto (T.due i)).lns[q]? = some l := hl
    rw [upto_ln, hTl] at hl
    obtain ⟨l0, h0, rfl⟩ := Option.map_eq_some_iff.1 hl
    simp [hdue q l0 h0]
  · show (((T.upto (T.due i)).clearN i).thr j).err = 0
    have e1 : ((T.upto (T.due i)).thr) = S.thr := hTt
    by_cases hj : j = i
    · subst hj; simp [DevS.clearN, e1, h.err]
    · simp [DevS.clearN, hj, e1, h.err]
  · show (((T.upto (T.due i)).clearN i).thr j).notes x = none
    have e1 : ((T.upto (T.due i)).thr) = S.thr := hTt
    by_cases hj : j = i
    · subst hj; simp [DevS.clearN]
    · simp [DevS.clearN, hj, e1, h.other j hj x]

theorem Mid.stores (hi : i < 8) : ∀ (vs : List (Int × Int)) {S : DevS} {ws : List (Int × Int)} {N : Nat}, Mid S i n xs ws [] N → (∀ p ∈ vs, ∃ k : Nat, p.1 = 8 * (k : Int) ∧ k < 8 * n) → Mid (S.runP i (insSt vs)) i n xs (ws ++ vs) [] (N + vs.length) := by
  intro vs
  induction vs with
  | nil => intro S ws N h _; simpa [insSt, DevS.runP] using h
  | cons p vs ih =>
    intro S ws N h hp
    obtain ⟨k, hk1, hk2⟩ := hp p (by simp)
    have h1 := h.store hk2 p.2
    have h2 := ih h1 (fun q hq => hp q (by simp [hq]))
    have e : (8 * (k : Int), p.2) = p := by rw [← hk1]
    rw [e, ← hk1] at h2
    simp only [List.append_assoc, List.singleton_append] at h2
    simp only [List.length_cons]
    rw [show N + (vs.length + 1) = N + 1 + vs.length by omega]
    exact h2
theorem Mid.flushes (hi : i < 8) : ∀ (ks : List Int) {S : DevS} {ls : List Int} {N : Nat}, Mid S i n xs ws ls N → N + ks.length < 1000000 → (∀ l ∈ ks, ∃ q : Nat, l = 64 * (q : Int) ∧ q < n) → Mid (S.runP i (insFl ks)) i n xs ws (ls ++ ks) (N + ks.length) := by
  intro ks
  induction ks with
  | nil => intro S ls N h _ _; simpa [insFl, DevS.runP] using h
  | cons l ks ih =>
    intro S ls N h hN hp
    simp only [List.length_cons] at hN ⊢
    obtain ⟨q, rfl, hq⟩ := hp l (by simp)
    have h1 := h.flush hq (by omega)
    have h2 := ih h1 (by omega) (fun q hq => hp q (by simp [hq]))
    simp only [List.append_assoc, List.singleton_append] at h2
    rw [show N + (ks.length + 1) = N + 1 + ks.length by omega]
    exact h2
theorem mem_cpt (ys : List Int) : ∀ k, ∀ x, x ∈ cpt (ys.take k) ↔ x ∈ ys.take k := by
  intro k
  induction k with
  | zero => intro x; simp [cpt]
  | succ k ih =>
    intro x
    by_cases hk : k < ys.length
    · rw [List.take_succ_eq_append_getElem hk, cpt_snoc]
      split
      · rename_i hl
        rw [List.mem_append, ih x]
        constructor
        · exact fun h => .inl h
        · rintro (h | h)
          · exact h
          · simp at h
            subst h
            exact (ih _).1 (List.mem_of_getLast? hl)
      · rw [List.mem_append, List.mem_append, ih x]
    · rw [List.take_of_length_le (by omega)]
      have := ih x
      rwa [List.take_of_length_le (by omega)] at this
theorem mem_cpt' (ys : List Int) (x : Int) : x ∈ cpt ys ↔ x ∈ ys := by have := mem_cpt ys ys.length x; rwa [List.take_length] at this
theorem runP_append (S : DevS) (i : Nat) (ps qs : List Ins) : S.runP i (ps ++ qs) = (S.runP i ps).runP i qs := by simp [DevS.runP]
/-- The program of Stores makes the writes persistent. -/
theorem Clean.stores (h : Clean S n xs N) (hi : i < 8) (vs : List (Int × Int)) (hv : ∀ p ∈ vs, ∃ k : Nat, p.1 = 8 * (k : Int) ∧ k < 8 * n) (hN : N + (storesP vs).length < 1000000) : Clean (S.runP i (storesP vs)) n (applyW xs vs) (N + (storesP vs).length) := by
  have hl : (storesP vs).length = vs.length + (cpt (starts vs)).length + 1 := by simp [storesP, insSt, insFl]; omega
  rw [hl] at hN ⊢
  have h1 := Mid.stores hi vs (h.mid i) hv
  rw [List.nil_append] at h1
  have h2 := Mid.flushes hi (cpt (starts vs)) h1 (by omega) (fun l hl => by
    rw [mem_cpt'] at hl
    obtain ⟨p, hp, rfl⟩ := List.mem_map.1 hl
    obtain ⟨k, hk1, hk2⟩ := hv p hp
    refine ⟨k / 8, ?_, by omega⟩
    unfold startOf; omega)
  rw [List.nil_append] at h2
  have h3 := h2.fence hi (by omega) (fun p hp => by
    obtain ⟨k, hk1, hk2⟩ := hv p hp
    exact ⟨by omega, by rw [mem_cpt']; exact List.mem_map.2 ⟨p, hp, rfl⟩⟩)
  unfold storesP
  rw [runP_append, runP_append]
  rw [show N + (vs.length + (cpt (starts vs)).length + 1) = N + vs.length + (cpt (starts vs)).length + 1 by omega]
  exact h3
end
end Go.Proofs.Ytljolgcmkejlnaa
