/- Slices of the call's own that may begin inside of their block. -/
import Derived.Test.YtngkhligjkcbmaaBlk
import Derived.ArgAppend
namespace Go.Proofs.Ytngkhligjkcbmaa
open Go.RowKit
set_option linter.unusedVariables false

/-- A slice of n elements of size cells each (or nil), in a block of its own, from some cell on. -/
def Sl (e : TypeId) (size : Nat) (w : World) (A : Option Addr) (n c : Nat) (xs : List Value) : Prop :=
  xs.length = n * size ∧ ((A = none ∧ n = 0 ∧ c = 0) ∨
    ∃ g off cur, A = some ⟨g, off, none⟩ ∧ CB w g e cur ∧ n ≤ c ∧ c ≤ maxLen ∧ off + c * size ≤ cur.size ∧ (cur.toList.drop off).take (n * size) = xs)

section
variable {e : TypeId} {size : Nat} {w w' : World} {A : Option Addr} {n c : Nat} {xs : List Value}
theorem Sl.nil : Sl e size w none 0 0 [] := ⟨by simp, .inl ⟨rfl, rfl, rfl⟩⟩
theorem Sl.lt (h : Sl e size w A n c xs) {b : Nat} (hb : OwnB A b) : b < w.heap.size := by
  rcases h.2 with ⟨rfl, _⟩ | ⟨g, off, cur, rfl, hC, _⟩
  · simp [OwnB] at hb
  · have : g = b := by simpa [OwnB] using hb
    subst this
    exact hC.lt
theorem Sl.keep (h : Sl e size w A n c xs) (hb : ∀ b, OwnB A b → w'.heap[b]? = w.heap[b]?) : Sl e size w' A n c xs := by
  refine ⟨h.1, ?_⟩
  rcases h.2 with h2 | ⟨g, off, cur, hA, hC, r⟩
  · exact .inl h2
  · exact .inr ⟨g, off, cur, hA, hC.keep (hb g (by rw [hA]; simp [OwnB])), r⟩
theorem Sl.ch {S : Nat → Prop} (h : Sl e size w A n c xs) (hc : Ch S w w') (hS : ∀ b, OwnB A b → ¬ S b) : Sl e size w' A n c xs := h.keep fun b hb => hc.block b (h.lt hb) (hS b hb)
theorem Sl.cells (h : Sl e size w A n c xs) : ∀ b, A = some b → ∀ (j : Nat) (u : Value), xs[j]? = some u → w.cell? (b.add j) = some u := by
  intro b hb j u hu
  rcases h.2 with ⟨rfl, _⟩ | ⟨g, off, cur, hA, hC, hn, hm, hfit, ht⟩
  · cases hb
  · rw [hA] at hb
    injection hb with hb
    subst hb
    have h1 : (⟨g, off, none⟩ : Addr).add j = ⟨g, off + j, none⟩ := by unfold Addr.add; split <;> simp_all
    rw [h1, hC.cell]
    rw [← ht] at hu
    have hj : j < n * size := by
      have := (List.getElem?_eq_some_iff.1 hu).1
      simp at this; omega
    rw [List.getElem?_take, if_pos hj, List.getElem?_drop] at hu
    simpa using hu
theorem Sl.at_ (h : Sl e size w A n c xs) {j : Nat} (hj : j < xs.length) : ∃ g off, A = some ⟨g, off, none⟩ ∧ g < w.heap.size ∧ w.cell? ⟨g, off + j, none⟩ = some xs[j] := by
  have hc := h.cells
  rcases h.2 with ⟨_, hn, _⟩ | ⟨g, off, cur, hA, hC, _⟩
  · have := h.1; rw [hn] at this; simp at this; rw [this] at hj; simp at hj
  · have h1 : (⟨g, off, none⟩ : Addr).add j = ⟨g, off + j, none⟩ := by unfold Addr.add; split <;> simp_all
    have := hc _ hA j xs[j] (by simp [hj])
    rw [h1] at this
    exact ⟨g, off, hA, hC.lt, this⟩
/-- The slice from element k on. -/
theorem Sl.drop (h : Sl e size w A n c xs) (k : Nat) (hk : k ≤ n) : ∀ g off, A = some ⟨g, off, none⟩ → Sl e size w (some ⟨g, off + k * size, none⟩) (n - k) (c - k) (xs.drop (k * size)) := by
  intro g0 off0 hA0
  have e1 : (n - k) * size + k * size = n * size := by rw [← Nat.add_mul]; congr 1; omega
  refine ⟨by rw [List.length_drop, h.1]; omega, ?_⟩
  rcases h.2 with ⟨rfl, _⟩ | ⟨g, off, cur, hA, hC, hn, hm, hfit, ht⟩
  · cases hA0
  · rw [hA] at hA0
    injection hA0 with hA0
    injection hA0 with hA0 hA0'
    subst hA0 hA0'
    have e2 : (c - k) * size + k * size = c * size := by rw [← Nat.add_mul]; congr 1; omega
    refine .inr ⟨g, off + k * size, cur, rfl, hC, by omega, by omega, by omega, ?_⟩
    rw [← ht, List.drop_take, List.drop_drop]
    congr 1
    omega
theorem Sl.take (h : Sl e size w A n c xs) (k : Nat) (hk : k ≤ n) : Sl e size w A k c (xs.take (k * size)) := by
  have e1 : (n - k) * size + k * size = n * size := by rw [← Nat.add_mul]; congr 1; omega
  refine ⟨by rw [List.length_take, h.1]; omega, ?_⟩
  rcases h.2 with ⟨rfl, h1, h2⟩ | ⟨g, off, cur, hA, hC, hn, hm, hfit, ht⟩
  · exact .inl ⟨rfl, by omega, h2⟩
  · refine .inr ⟨g, off, cur, hA, hC, by omega, hm, hfit, ?_⟩
    rw [← ht, List.take_take, Nat.min_eq_left (by omega)]
end

theorem ch_setCells (g : Nat) : ∀ (vs : List Value) (o : Nat) (w : World), Ch (At g) w (w.setCells g o vs)
  | [], _, w => Ch.refl _ _
  | v :: r, o, w => ((Ch.refl (At g) w).set1 o v).trans (ch_setCells g r (o + 1) _) (fun _ h _ => h)
theorem cb_setCells {g : Nat} {e : TypeId} : ∀ (vs : List Value) (o : Nat) (w : World) (cur : Array Value), CB w g e cur → o + vs.length ≤ cur.size →
    CB (w.setCells g o vs) g e (cur.toList.take o ++ vs ++ cur.toList.drop (o + vs.length)).toArray
  | [], o, w, cur, h, hl => by
    have : (cur.toList.take o ++ [] ++ cur.toList.drop (o + 0)).toArray = cur := by simp
    simp only [List.length_nil]
    rw [this]; exact h
  | v :: r, o, w, cur, h, hl => by
    simp only [List.length_cons] at hl
    have h1 := cb_setCells r (o + 1) _ _ (h.set o v) (by simp; omega)
    have e1 : ((cur.setIfInBounds o v).toList.take (o + 1) ++ r ++ (cur.setIfInBounds o v).toList.drop (o + 1 + r.length)) = (cur.toList.take o ++ (v :: r) ++ cur.toList.drop (o + (v :: r).length)) := by
      rw [Array.toList_setIfInBounds]
      have ho : o < cur.toList.length := by simp; omega
      rw [List.take_succ_eq_append_getElem (by simpa using ho), List.take_set_of_le (Nat.le_refl o), List.drop_set_of_lt (by omega)]
      simp [Nat.add_assoc, Nat.add_comm 1]
    rw [← e1]
    exact h1

/-- append onto such a slice. -/
theorem run_append_sl {P : Program} (w : World) (t ty e : TypeId) (zv : Value) (size by_ : Nat) (hzs : zv.cells.size = size) (hsz : 0 < size) (ht : P.underlying t = some (.slice e)) (hinfo : (P.info? e).map (fun i => (i.zero, i.size, i.bytes)) = some (some zv, size, by_)) (hby : by_ ≤ 64)
    (A : Option Addr) (n c : Nat) (xs : List Value) (hown : Sl e size w A n c xs) (ad : Addr) (m d : Nat) (ys : List Value) (hm : ys.length = m * size) (hm0 : 0 < m) (hr : ∀ j u, ys[j]? = some u → w.cell? (ad.add j) = some u) (hf : ∀ u ∈ ys, u.oneCell' = true)
    (hbound : n + m ≤ 1000000000) :
    ∃ A' c' w', (Builtin.append_ #[t, t] ty #[.slice A n c, .slice (some ad) m d]).run P w = .ok (.slice A' (n + m) c') w' ∧ Sl e size w' A' (n + m) c' (xs ++ ys) ∧ Ch (OwnB A) w w' ∧ (∀ b, OwnB A' b → OwnB A b ∨ b = w.heap.size) ∧ (c < n + m → A' = some ⟨w.heap.size, 0, none⟩) := by
  cases hi : P.info? e with
  | none => rw [hi] at hinfo; cases hinfo
  | some i =>
    rw [hi] at hinfo
    simp only [Option.map_some, Option.some.injEq, Prod.mk.injEq] at hinfo
    obtain ⟨hz, hs, hb⟩ := hinfo
    subst hs hb
    have hbb : (n + m) * i.bytes ≤ (n + m) * 64 := Nat.mul_le_mul_left _ hby
    have hmx : n + m ≤ maxLen := by unfold maxLen; omega
    have hlen : (xs ++ ys).length = (n + m) * i.size := by rw [List.length_append, hown.1, hm, Nat.add_mul]
    have grown : ∀ (old : Nat), old < n + m → Sl e i.size (w.drew.alloc (.cells (xs.toArray ++ ys.toArray ++ Builtin.zeroCells zv.cells (grownCap w (n + m) old e - (n + m))) e)) (some ⟨w.heap.size, 0, none⟩) (n + m) (grownCap w (n + m) old e) (xs ++ ys) := by
      intro old ho
      have hge := grownCap_ge w (n + m) old e
      have hcm : grownCap w (n + m) old e ≤ maxLen := grownCap_le_maxLen w (n + m) old e hmx
      refine ⟨hlen, .inr ⟨w.heap.size, 0, _, rfl, heap_alloc_new w.drew _, hge, hcm, ?_, ?_⟩⟩
      · simp only [Array.size_append, List.size_toArray, size_zeroCells, hzs, hown.1, hm, ← Nat.add_mul, Nat.zero_add]
        apply Nat.mul_le_mul_right
        omega
      · simp only [Array.toList_append, List.append_assoc, List.drop_zero]
        rw [← List.append_assoc, ← hlen]
        exact List.take_left
    have hCh : ∀ o : Obj, Ch (OwnB A) w (w.drew.alloc o) := fun o => (Ch.drew (Ch.refl _ _)).alloc o
    rcases hown.2 with ⟨rfl, rfl, rfl⟩ | ⟨g, off, cur, rfl, hC, hnc, hcm, hfit, htk⟩
    · have hx : xs = [] := List.eq_nil_of_length_eq_zero (by simpa using hown.1)
      subst hx
      have hrun := run_append_nil (P := P) w t ty e i zv ht hi hz ad m d ys hm hr hm0 (by omega) (by simp only [Nat.zero_add] at hbb; omega)
      have hgr := grown 0 (by omega)
      simp only [Nat.zero_add, List.nil_append, Array.empty_append] at hgr ⊢
      exact ⟨_, _, _, hrun, hgr, hCh _, fun b hb => .inr (by simpa [OwnB] using hb.symm), fun _ => rfl⟩
    · by_cases hroom : n + m ≤ c
      · have e0 : n * i.size + m * i.size ≤ c * i.size := by rw [← Nat.add_mul]; exact Nat.mul_le_mul_right _ hroom
        have hrun := run_append_room_cells (P := P) w t ty e i ht hi g off n c ad m d ys hm hr hf hroom
          (fun j hj => by rw [hC.cell]; have : off + n * i.size + j < cur.size := by omega
                          simp [this]) (fun j hj => hC.frozen _)
        refine ⟨_, _, _, hrun, ⟨hlen, .inr ⟨g, off, _, rfl, cb_setCells ys (off + n * i.size) w cur hC (by omega), hroom, hcm, ?_, ?_⟩⟩, (ch_setCells g ys _ w).mono (fun b hb _ => by unfold At at hb; subst hb; simp [OwnB]), fun b hb => .inl hb, fun h => by omega⟩
        · simp only [List.size_toArray, List.length_append, List.length_take, List.length_drop, Array.length_toList]
          omega
        · rw [← htk, Nat.add_mul]
          have hl1 : (cur.toList.take (off + n * i.size)).length = off + n * i.size := by simp; omega
          simp only [List.append_assoc]
          rw [List.drop_append_of_le_length (by rw [hl1]; omega), List.drop_take]
          rw [show off + n * i.size - off = n * i.size by omega]
          have hl2 : ((cur.toList.drop off).take (n * i.size)).length = n * i.size := by rw [htk]; exact hown.1
          rw [← hm, ← hl2]
          rw [← List.append_assoc]
          rw [show ((cur.toList.drop off).take ((cur.toList.drop off).take (n * i.size)).length) = (cur.toList.drop off).take (n * i.size) by rw [hl2]]
          rw [← List.length_append]
          exact List.take_left
      · have hrun := run_append_grow (P := P) w t ty e i zv ht hi hz ⟨g, off, none⟩ n c xs hown.1 (hown.cells _ rfl) ad m d ys hm hr (by omega) (by omega) (growslice_fits (by omega) (by omega))
        exact ⟨_, _, _, hrun, grown c (by omega), hCh _, fun b hb => .inr (by simpa [OwnB] using hb.symm), fun _ => rfl⟩
end Go.Proofs.Ytngkhligjkcbmaa
