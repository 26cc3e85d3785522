/- Plain law: the words after the writes of a change, and the opposite change. -/
import Derived.Test.YtbhkdngbgokilaaDoorBmR
import Derived.Test.YtbhkdngbgokilaaDoorBmTk
namespace Go.Proofs.YtbhkdngbgokilaaDoor
open Go.RowKit
set_option linter.unusedVariables false

theorem difL_words (xs V out : List Int) (a m : Nat) (hV : (xs.drop a).take m = V) (ho : out.length = m) (ha : a + m ≤ xs.length) : ∀ k, k ≤ m → ∀ i, (applyW xs (difL V out a k))[i]? = if a ≤ i ∧ i < a + k then out[i - a]? else xs[i]? := by
  intro k
  induction k with
  | zero => intro _ i; rw [if_neg (by omega)]; rfl
  | succ k ih =>
    intro hk i
    have ih := ih (by omega)
    have hxk : V[k]?.getD 0 = xs[a + k]?.getD 0 := by rw [← hV, List.getElem?_take, if_pos (by omega), List.getElem?_drop]
    have hok : out[k]? = some (out[k]?.getD 0) := by rw [List.getElem?_eq_getElem (by omega)]; rfl
    have hxa : xs[a + k]? = some (xs[a + k]?.getD 0) := by rw [List.getElem?_eq_getElem (by omega)]; rfl
    rw [difL_step]
    unfold difOne
    by_cases he : out[k]?.getD 0 = V[k]?.getD 0
    · rw [if_pos he, List.append_nil, ih i]
      by_cases h1 : a ≤ i ∧ i < a + k
      · rw [if_pos h1, if_pos (by omega)]
      · rw [if_neg h1]
        by_cases h2 : i = a + k
        · subst h2
          rw [if_pos (by omega), show a + k - a = k by omega, hok, he, hxk]
          exact hxa
        · rw [if_neg (by omega)]
    · rw [if_neg he, applyW_snoc, List.getElem?_set]
      have hq : ((8 * ((a + k : Nat) : Int)) / 8).toNat = a + k := by omega
      simp only [hq]
      by_cases h2 : a + k = i
      · subst h2
        rw [if_pos rfl, if_pos (by rw [length_applyW]; omega), if_pos (by omega), show a + k - a = k by omega, hok]
        rfl
      · rw [if_neg h2, ih i]
        by_cases h1 : a ≤ i ∧ i < a + k
        · rw [if_pos h1, if_pos (by omega)]
        · rw [if_neg h1, if_neg (by omega)]
theorem difL_out (xs V out : List Int) (a m : Nat) (hV : (xs.drop a).take m = V) (ho : out.length = m) (ha : a + m ≤ xs.length) : ((applyW xs (difL V out a m)).drop a).take m = out := by
  apply List.ext_getElem?
  intro i
  rw [List.getElem?_take]
  by_cases hi : i < m
  · rw [if_pos hi, List.getElem?_drop, difL_words xs V out a m hV ho ha m (Nat.le_refl _), if_pos (by omega), show a + i - a = i by omega]
  · rw [if_neg hi, List.getElem?_eq_none (by omega)]
theorem applyW_fitsB (ws : List (Int × Int)) (hw : ∀ p ∈ ws, 0 ≤ p.2 ∧ p.2 < 18446744073709551616) : ∀ xs, FitsB xs → FitsB (applyW xs ws) := by
  induction ws with
  | nil => intro xs h; exact h
  | cons p ws ih =>
    intro xs h
    refine ih (fun q hq => hw q (List.mem_cons_of_mem _ hq)) _ fun x hx => ?_
    rcases List.mem_or_eq_of_mem_set hx with h1 | h1
    · exact h x h1
    · rw [h1]; exact hw p List.mem_cons_self
/-- What the writes of a change are. -/
theorem difL_mem {V out : List Int} {a m : Nat} (ho : FitsB out) : ∀ p ∈ difL V out a m, (∃ j, j < m ∧ p.1 = 8 * ((a + j : Nat) : Int)) ∧ 0 ≤ p.2 ∧ p.2 < 18446744073709551616 := by
  intro p hp
  unfold difL at hp
  rw [List.mem_flatMap] at hp
  obtain ⟨j, hj, hp⟩ := hp
  have hj : j < m := by simpa using hj
  unfold difOne at hp
  split at hp
  · cases hp
  · have : p = (8 * ((a + j : Nat) : Int), out[j]?.getD 0) := by simpa using hp
    subst this
    exact ⟨⟨j, hj, rfl⟩, ho.getD j⟩
theorem words_ext {ws vs : List Int} (hl : ws.length = vs.length) (hw : FitsB ws) (hv : FitsB vs) (h : ∀ i, bitW ws i = bitW vs i) : ws = vs := by
  apply List.ext_getElem hl
  intro k h1 h2
  have e1 : ws[k]?.getD 0 = ws[k] := by rw [List.getElem?_eq_getElem h1]; rfl
  have e2 : vs[k]?.getD 0 = vs[k] := by rw [List.getElem?_eq_getElem h2]; rfl
  rw [← e1, ← e2]
  refine word_ext (hw.getD k) (hv.getD k) fun m hm => ?_
  rw [word_bit _ _ _ hm, word_bit _ _ _ hm, h]
theorem okL_of {n : Nat} {l : List Int} (h : ∀ x ∈ l, 0 ≤ x ∧ x < (n : Int)) (hN : (l.map Int.toNat).Nodup) : okL n [] l = true := by
  unfold okL
  rw [List.all_eq_true]
  intro k hk
  have hk : k < l.length := by simpa using hk
  refine okP_nil n l k hk (h _ (List.getElem_mem hk)).1 (h _ (List.getElem_mem hk)).2 fun j hj => ⟨(h _ (List.getElem_mem _)).1, fun he => ?_⟩
  rw [List.nodup_iff_pairwise_ne, List.pairwise_iff_getElem] at hN
  have := hN j k (by rw [List.length_map]; omega) (by rw [List.length_map]; exact hk) hj
  rw [List.getElem_map, List.getElem_map] at this
  exact this (by rw [he])
theorem okL_swap {n : Nat} {l1 l2 : List Int} (h : okL n [] (l1 ++ l2) = true) : okL n [] (l2 ++ l1) = true := by
  obtain ⟨h1, h2⟩ := okL_spec h
  refine okL_of (fun x hx => h1 x ?_) ?_
  · rw [List.mem_append] at hx ⊢; exact hx.symm
  · rw [List.map_append] at h2 ⊢
    exact (List.perm_append_comm.nodup_iff).1 h2
section
variable {V : List Int} {n m : Nat} {l1 l2 : List Int}
theorem back_fit (hlw : V.length = m) (hn : n ≤ 64 * m) (hok : okL n [] (l1 ++ l2) = true) (hfit : fitAll V (l1 ++ l2) l1.length = true) : fitAll (flips V ((l1 ++ l2).map Int.toNat)) (l2 ++ l1) l2.length = true := by
  obtain ⟨h1, h2⟩ := okL_spec hok
  have hb : ∀ j ∈ (l1 ++ l2).map Int.toNat, j / 64 < V.length := by
    intro j hj
    obtain ⟨x, hx, rfl⟩ := List.mem_map.1 hj
    have := h1 x hx
    rw [hlw]; omega
  obtain ⟨f1, f2⟩ := (fitAll_iff V l1 l2).1 hfit
  refine (fitAll_iff _ _ _).2 ⟨fun j hj => ?_, fun j hj => ?_⟩
  · rw [flips_bit _ _ hb h2, f2 j hj, decide_eq_true (by rw [List.map_append]; exact List.mem_append_right _ hj)]; rfl
  · rw [flips_bit _ _ hb h2, f1 j hj, decide_eq_true (by rw [List.map_append]; exact List.mem_append_left _ hj)]; rfl
theorem back_flips (hw : FitsB V) (hlw : V.length = m) (hn : n ≤ 64 * m) (hok : okL n [] (l1 ++ l2) = true) : flips (flips V ((l1 ++ l2).map Int.toNat)) ((l2 ++ l1).map Int.toNat) = V := by
  obtain ⟨h1, h2⟩ := okL_spec hok
  obtain ⟨h3, h4⟩ := okL_spec (okL_swap hok)
  have hb : ∀ j ∈ (l1 ++ l2).map Int.toNat, j / 64 < V.length := by
    intro j hj
    obtain ⟨x, hx, rfl⟩ := List.mem_map.1 hj
    have := h1 x hx
    rw [hlw]; omega
  have hb2 : ∀ j ∈ (l2 ++ l1).map Int.toNat, j / 64 < (flips V ((l1 ++ l2).map Int.toNat)).length := by
    intro j hj
    obtain ⟨x, hx, rfl⟩ := List.mem_map.1 hj
    have := h3 x hx
    rw [flips_length, hlw]; omega
  refine words_ext (by rw [flips_length, flips_length]) (flips_fits _ _ (flips_fits _ _ hw)) hw fun i => ?_
  rw [flips_bit _ _ hb2 h4, flips_bit _ _ hb h2]
  have : (i ∈ (l2 ++ l1).map Int.toNat) = (i ∈ (l1 ++ l2).map Int.toNat) := by
    rw [List.map_append, List.map_append, List.mem_append, List.mem_append, or_comm]
  rw [decide_eq_decide.2 (iff_of_eq this)]
  cases bitW V i <;> cases decide (i ∈ (l1 ++ l2).map Int.toNat) <;> rfl
theorem back_get (hlw : V.length = m) (hn : n ≤ 64 * m) (hok : okL n [] (l1 ++ l2) = true) (hfit : fitAll V (l1 ++ l2) l1.length = true) :
    (∀ x ∈ l1, getB (flips V ((l1 ++ l2).map Int.toNat)) n x = true) ∧ (∀ x ∈ l2, getB (flips V ((l1 ++ l2).map Int.toNat)) n x = false) := by
  obtain ⟨h1, h2⟩ := okL_spec hok
  obtain ⟨f1, f2⟩ := (fitAll_iff _ _ _).1 (back_fit hlw hn hok hfit)
  refine ⟨fun x hx => ?_, fun x hx => ?_⟩
  · have h := h1 x (List.mem_append_left _ hx)
    unfold getB
    rw [decide_eq_true h.1, decide_eq_true h.2, f2 _ (List.mem_map.2 ⟨x, hx, rfl⟩)]; rfl
  · have h := h1 x (List.mem_append_right _ hx)
    unfold getB
    rw [f1 _ (List.mem_map.2 ⟨x, hx, rfl⟩)]; simp
theorem onesTo_flip (ws : List Int) (j : Nat) (hj : j / 64 < ws.length) : ∀ n, onesTo (flipW ws j) n + (if j < n then (if bitW ws j then 1 else 0) else 0) = onesTo ws n + (if j < n then (if bitW ws j then 0 else 1) else 0) := by
  intro n
  induction n with
  | zero => simp [onesTo]
  | succ n ih =>
    have e1 : onesTo (flipW ws j) (n + 1) = onesTo (flipW ws j) n + (if bitW (flipW ws j) n then 1 else 0) := rfl
    have e2 : onesTo ws (n + 1) = onesTo ws n + (if bitW ws n then 1 else 0) := rfl
    rw [e1, e2, flipW_bit ws j n hj]
    by_cases h : j = n
    · subst h
      simp only [Nat.lt_irrefl, if_false] at ih
      cases bitW ws j <;> simp <;> omega
    · by_cases h1 : j < n
      · rw [if_pos h1] at ih
        rw [if_pos h1] at ih
        rw [if_pos (show j < n + 1 by omega), if_pos (show j < n + 1 by omega), decide_eq_false h]
        simp only [Bool.bne_false]
        omega
      · rw [if_neg h1, if_neg h1] at ih
        rw [if_neg (show ¬ j < n + 1 by omega), if_neg (show ¬ j < n + 1 by omega), decide_eq_false h]
        simp only [Bool.bne_false]
        omega
theorem onesTo_set (n : Nat) : ∀ (L : List Nat) (ws : List Int), (∀ j ∈ L, j / 64 < ws.length ∧ j < n ∧ bitW ws j = false) → L.Nodup → onesTo (flips ws L) n = onesTo ws n + L.length := by
  intro L
  induction L with
  | nil => intro ws _ _; rfl
  | cons j L ih =>
    intro ws h hn
    rw [List.nodup_cons] at hn
    obtain ⟨a, b, c⟩ := h j List.mem_cons_self
    have := ih (flipW ws j) (fun q hq => by
      obtain ⟨a', b', c'⟩ := h q (List.mem_cons_of_mem _ hq)
      refine ⟨by rw [flipW_length]; exact a', b', ?_⟩
      rw [flipW_bit ws j q a, c', decide_eq_false (fun e => hn.1 (by rw [e]; exact hq))]; rfl) hn.2
    show onesTo (flips (flipW ws j) L) n = _
    have h2 := onesTo_flip ws j a n
    rw [if_pos b, if_pos b, c] at h2
    simp only [Bool.false_eq_true, if_false] at h2
    rw [List.length_cons]
    omega
theorem onesTo_clear (n : Nat) : ∀ (L : List Nat) (ws : List Int), (∀ j ∈ L, j / 64 < ws.length ∧ j < n ∧ bitW ws j = true) → L.Nodup → onesTo (flips ws L) n + L.length = onesTo ws n := by
  intro L
  induction L with
  | nil => intro ws _ _; rfl
  | cons j L ih =>
    intro ws h hn
    rw [List.nodup_cons] at hn
    obtain ⟨a, b, c⟩ := h j List.mem_cons_self
    have := ih (flipW ws j) (fun q hq => by
      obtain ⟨a', b', c'⟩ := h q (List.mem_cons_of_mem _ hq)
      refine ⟨by rw [flipW_length]; exact a', b', ?_⟩
      rw [flipW_bit ws j q a, c', decide_eq_false (fun e => hn.1 (by rw [e]; exact hq))]; rfl) hn.2
    show onesTo (flips (flipW ws j) L) n + _ = _
    have h2 := onesTo_flip ws j a n
    rw [if_pos b, if_pos b, c] at h2
    simp only [if_true] at h2
    rw [List.length_cons]
    omega
theorem back_ones (hlw : V.length = m) (hn : n ≤ 64 * m) (hok : okL n [] (l1 ++ l2) = true) (hfit : fitAll V (l1 ++ l2) l1.length = true) : onesTo (flips V ((l1 ++ l2).map Int.toNat)) n + l2.length = onesTo V n + l1.length := by
  obtain ⟨h1, h2⟩ := okL_spec hok
  obtain ⟨f1, f2⟩ := (fitAll_iff V l1 l2).1 hfit
  have hr : ∀ j ∈ (l1 ++ l2).map Int.toNat, j / 64 < V.length ∧ j < n := by
    intro j hj
    obtain ⟨x, hx, rfl⟩ := List.mem_map.1 hj
    have := h1 x hx
    rw [hlw]; omega
  rw [List.map_append] at h2 hr ⊢
  rw [flips_append]
  obtain ⟨n1, n2, n3⟩ := List.nodup_append.1 h2
  have e1 := onesTo_set n (l1.map Int.toNat) V (fun j hj => ⟨(hr j (List.mem_append_left _ hj)).1, (hr j (List.mem_append_left _ hj)).2, f1 j hj⟩) n1
  have e2 := onesTo_clear n (l2.map Int.toNat) (flips V (l1.map Int.toNat)) (fun j hj => by
    refine ⟨by rw [flips_length]; exact (hr j (List.mem_append_right _ hj)).1, (hr j (List.mem_append_right _ hj)).2, ?_⟩
    rw [flips_bit _ _ (fun q hq => (hr q (List.mem_append_left _ hq)).1) n1, f2 j hj, decide_eq_false (fun hm => n3 j hm j hj rfl)]; rfl) n2
  rw [List.length_map] at e1 e2
  omega
end
end Go.Proofs.YtbhkdngbgokilaaDoor
