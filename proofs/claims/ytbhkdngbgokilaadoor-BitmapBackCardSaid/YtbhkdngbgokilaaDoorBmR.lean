/- Change of a bitmap, told without masks. -/
import Derived.Test.YtbhkdngbgokilaaDoorBmQ
namespace Go.Proofs.YtbhkdngbgokilaaDoor
open Go.RowKit
set_option linter.unusedVariables false

/-- The writes that turn the words ws into out. -/
def difOne (ws out : List Int) (a k : Nat) : List (Int × Int) := if out[k]?.getD 0 = ws[k]?.getD 0 then [] else [(8 * ((a + k : Nat) : Int), out[k]?.getD 0)]
def difL (ws out : List Int) (a k : Nat) : List (Int × Int) := (List.range k).flatMap (difOne ws out a)
theorem difL_step (ws out : List Int) (a k : Nat) : difL ws out a (k + 1) = difL ws out a k ++ difOne ws out a k := by simp [difL, List.range_succ]
theorem difOne_le (ws out : List Int) (a k : Nat) : (difOne ws out a k).length ≤ 1 := by unfold difOne; split <;> simp
theorem difL_le (ws out : List Int) (a : Nat) : ∀ k, (difL ws out a k).length ≤ k := by
  intro k
  induction k with
  | zero => exact Nat.le_refl _
  | succ k ih => rw [difL_step, List.length_append]; have := difOne_le ws out a k; omega
theorem difL_pre (ws out : List Int) (a k : Nat) : ∀ M, k ≤ M → ∃ t, difL ws out a M = difL ws out a k ++ t := by
  intro M
  induction M with
  | zero =>
    intro h
    obtain rfl : k = 0 := by omega
    exact ⟨[], by rw [List.append_nil]⟩
  | succ M ih =>
    intro h
    by_cases hk : k = M + 1
    · subst hk; exact ⟨[], by simp⟩
    · obtain ⟨t, ht⟩ := ih (by omega)
      exact ⟨t ++ difOne ws out a M, by rw [difL_step, ht, List.append_assoc]⟩
/-- The write of a word that changes. -/
theorem difL_at (ws out : List Int) (a k M : Nat) (hk : k < M) (hne : out[k]?.getD 0 ≠ ws[k]?.getD 0) : (difL ws out a M)[(difL ws out a k).length]? = some (8 * ((a + k : Nat) : Int), out[k]?.getD 0) := by
  obtain ⟨t, ht⟩ := difL_pre ws out a (k + 1) M (by omega)
  have h1 : difOne ws out a k = [(8 * ((a + k : Nat) : Int), out[k]?.getD 0)] := by unfold difOne; rw [if_neg hne]
  rw [ht, difL_step, h1, List.append_assoc, List.getElem?_append_right (Nat.le_refl _), Nat.sub_self]
  rfl
theorem chL_congr2 (ws ws' : List Int) (a : Nat) (f g : Nat → Int) (M : Nat) (h : ∀ k, k < M → ws[k]? = ws'[k]?) : chL ws a f g M = chL ws' a f g M := by
  unfold chL
  rw [List.flatMap_def, List.flatMap_def]
  congr 1
  apply List.map_congr_left
  intro k hk
  have hk : k < M := by simpa using hk
  unfold chOne
  rw [h k hk]
theorem chF_congr2 (ws ws' : List Int) (f g : Nat → Int) (M : Nat) (h : ∀ k, k < M → ws[k]? = ws'[k]?) : chF ws f g M = chF ws' f g M := by
  unfold chF
  apply all_congr_mem
  intro k hk
  have hk : k < M := by simpa using hk
  rw [h k hk]
theorem chL_dif {ws : List Int} {f g : Nat → Int} {L1 L2 : List Nat} (a : Nat) (hw : FitsB ws) (hf : Msk f L1) (hg : Msk g L2) (hfit : fitP ws L1 L2) (hb : ∀ j ∈ L1 ++ L2, j / 64 < ws.length) (hN : (L1 ++ L2).Nodup) (M : Nat) (hM : M ≤ ws.length) (hM8 : M ≤ 8) :
    chL ws a f g M = difL ws (flips ws (L1 ++ L2)) a M := by
  unfold chL difL
  rw [List.flatMap_def, List.flatMap_def]
  congr 1
  apply List.map_congr_left
  intro k hk
  have hk : k < M := by simpa using hk
  obtain ⟨h1, h2⟩ := new_word hw hf hg hfit hb hN (k := k) (by omega) (by omega)
  cases ht : touB f g k with
  | false =>
    rw [chOne_no ht]
    unfold difOne
    rw [if_pos (h2 ht)]
  | true =>
    rw [chOne_yes ht]
    obtain ⟨e1, e2⟩ := h1 ht
    unfold difOne
    rw [if_neg e2, e1]
theorem fitAll_iff (ws l1 l2 : List Int) : fitAll ws (l1 ++ l2) l1.length = true ↔ fitP ws (l1.map Int.toNat) (l2.map Int.toNat) := by
  have := fitR_iff ws (l1.map Int.toNat) (l2.map Int.toNat)
  rw [← this]
  unfold fitAll
  rw [List.map_append, List.length_append, List.length_append, List.length_map, List.length_map]
section
variable (w : World) (T : Nat) (xs : List Int) (a n m : Nat) (hL : LdV T xs w) (hE : ∀ W, Below w.heap.size w W → Calls Tryd.prog 17 #[.pointer (some ⟨T, 0, none⟩)] W fun e w' => e = .returned (.int .i64 0) ∧ W = w') (hf : FitsB xs) (hx : xs.length = 96) (hmm : (n + 63) / 64 = m) (ha : a + m ≤ 96) (hn0 : 1 ≤ n) (hn : n ≤ 512)
    (A1 : Option Addr) (n1 c1 : Nat) (l1 : List Int) (hl1 : l1.length = n1) (hn1 : n1 ≤ 9223372036854775807) (hR1 : Rd .i64 w A1 l1) (A2 : Option Addr) (n2 c2 : Nat) (l2 : List Int) (hl2 : l2.length = n2) (hn2 : n2 ≤ 9223372036854775807) (hR2 : Rd .i64 w A2 l2)
include hL hE hf hx hmm ha hn0 hn hl1 hn1 hR1 hl2 hn2 hR2
theorem bmChange_misfit (hok : okL n [] (l1 ++ l2) = true) (hfit : fitAll ((xs.drop a).take m) (l1 ++ l2) n1 = false) :
    Calls Tryd.prog 15 #[bmv T (8 * (a : Int)) n, .slice A1 n1 c1, .slice A2 n2 c2] w fun e w' => e = .returned (.tuple #[.slice none 0 0, .int .i64 8]) ∧ Below w.heap.size w w' := by
  obtain ⟨hs1, hs2⟩ := okL_spec hok
  rw [okL_app, Bool.and_eq_true] at hok
  refine (bmChange_ok w T xs a n hL hE hf (by rw [hmm, hx]; exact ha) (by omega) hn A1 n1 c1 l1 hl1 hn1 hR1 A2 n2 c2 l2 hl2 hn2 hR2 hok.1 hok.2).mono ?_
  rintro e w' ⟨f, g, hMf, hMg, hB, hP⟩
  rw [hmm] at hP
  have hcg : ∀ k, k < m → (xs.drop a)[k]? = ((xs.drop a).take m)[k]? := fun k hk => by rw [List.getElem?_take, if_pos hk]
  rw [chF_congr2 _ _ f g m hcg] at hP
  have hno : chF ((xs.drop a).take m) f g m = false := by
    rw [Bool.eq_false_iff]
    intro hc
    have h1 := (chF_iff (fun v hv => hf v (List.mem_of_mem_drop (List.mem_of_mem_take hv))) hMf hMg (by omega) (fun j hj => by
      obtain ⟨x, hx', rfl⟩ := List.mem_map.1 hj
      have := hs1 x (List.mem_append_left _ hx'); omega) (fun j hj => by
      obtain ⟨x, hx', rfl⟩ := List.mem_map.1 hj
      have := hs1 x (List.mem_append_right _ hx'); omega)).1 hc
    have h2 := (fitAll_iff _ _ _).2 h1
    rw [hl1, hfit] at h2
    cases h2
  rcases hP with ⟨_, he⟩ | ⟨h, _⟩
  · exact ⟨he, hB⟩
  · rw [hno] at h; cases h
theorem bmChange_fit (hok : okL n [] (l1 ++ l2) = true) (hfit : fitAll ((xs.drop a).take m) (l1 ++ l2) n1 = true) :
    Calls Tryd.prog 15 #[bmv T (8 * (a : Int)) n, .slice A1 n1 c1, .slice A2 n2 c2] w fun e w' => ∃ A c, e = .returned (.tuple #[.slice A (difL ((xs.drop a).take m) (flips ((xs.drop a).take m) ((l1 ++ l2).map Int.toNat)) a m).length c, .int .i64 0]) ∧
      Sl 47 2 w' A (difL ((xs.drop a).take m) (flips ((xs.drop a).take m) ((l1 ++ l2).map Int.toNat)) a m).length c (wcells (difL ((xs.drop a).take m) (flips ((xs.drop a).take m) ((l1 ++ l2).map Int.toNat)) a m)) ∧ (∀ b, OwnB A b → w.heap.size ≤ b) ∧ Below w.heap.size w w' := by
  obtain ⟨hs1, hs2⟩ := okL_spec hok
  rw [okL_app, Bool.and_eq_true] at hok
  refine (bmChange_ok w T xs a n hL hE hf (by rw [hmm, hx]; exact ha) (by omega) hn A1 n1 c1 l1 hl1 hn1 hR1 A2 n2 c2 l2 hl2 hn2 hR2 hok.1 hok.2).mono ?_
  rintro e w' ⟨f, g, hMf, hMg, hB, hP⟩
  rw [hmm] at hP
  have hcg : ∀ k, k < m → (xs.drop a)[k]? = ((xs.drop a).take m)[k]? := fun k hk => by rw [List.getElem?_take, if_pos hk]
  rw [chF_congr2 _ _ f g m hcg, chL_congr2 _ _ a f g m hcg] at hP
  have hfw : FitsB ((xs.drop a).take m) := fun v hv => hf v (List.mem_of_mem_drop (List.mem_of_mem_take hv))
  have hlw : ((xs.drop a).take m).length = m := by rw [List.length_take, List.length_drop, hx]; omega
  have hfp : fitP ((xs.drop a).take m) (l1.map Int.toNat) (l2.map Int.toNat) := by
    refine (fitAll_iff _ _ _).1 ?_
    rw [hl1]; exact hfit
  have hmem : ∀ j ∈ l1.map Int.toNat ++ l2.map Int.toNat, j < n := by
    intro j hj
    rw [← List.map_append] at hj
    obtain ⟨x, hx', rfl⟩ := List.mem_map.1 hj
    have := hs1 x hx'
    omega
  rw [chL_dif a hfw hMf hMg hfp (fun j hj => by have := hmem j hj; rw [hlw]; omega) (by rwa [← List.map_append]) m (by rw [hlw]; exact Nat.le_refl _) (by omega), ← List.map_append] at hP
  rcases hP with ⟨h, _⟩ | ⟨_, A, c, he, hS, hO⟩
  · have := (chF_iff (M := m) hfw hMf hMg (by omega) (fun j hj => by have := hmem j (List.mem_append_left _ hj); omega) (fun j hj => by have := hmem j (List.mem_append_right _ hj); omega)).2 hfp
    rw [this] at h; cases h
  · exact ⟨A, c, he, hS, hO, hB⟩
end
/-- What Change leaves when it is possible. -/
def ChGood (W : World) (lst : List (Int × Int)) (e : Ending) (w' : World) : Prop :=
  ∃ A c, e = .returned (.tuple #[.slice A lst.length c, .int .i64 0]) ∧ Sl 47 2 w' A lst.length c (wcells lst) ∧ (∀ b, OwnB A b → W.heap.size ≤ b) ∧ Below W.heap.size W w'
def RefGood (W : World) (out : List Int) (m : Nat) (e : Ending) (w' : World) : Prop :=
  ∃ A c, e = .returned (.tuple #[.slice A m c, .int .i64 0]) ∧ Sl 34 1 w' A m c (uints out) ∧ (∀ b, OwnB A b → W.heap.size ≤ b) ∧ Below W.heap.size W w'
def ChBad (W : World) (fc : Int) (e : Ending) (w' : World) : Prop := e = .returned (.tuple #[.slice none 0 0, .int .i64 fc]) ∧ Below W.heap.size W w'
theorem change_both (w : World) (T : Nat) (xs : List Int) (a n m : Nat) (hL : LdV T xs w) (hE : ∀ W, Below w.heap.size w W → Calls Tryd.prog 17 #[.pointer (some ⟨T, 0, none⟩)] W fun e w' => e = .returned (.int .i64 0) ∧ W = w') (hf : FitsB xs) (hx : xs.length = 96) (hmm : (n + 63) / 64 = m) (ha : a + m ≤ 96) (hn0 : 1 ≤ n) (hn : n ≤ 512)
    (A1 : Option Addr) (n1 c1 : Nat) (l1 : List Int) (hl1 : l1.length = n1) (hn1 : n1 ≤ 100) (hR1 : Rd .i64 w A1 l1) (A2 : Option Addr) (n2 c2 : Nat) (l2 : List Int) (hl2 : l2.length = n2) (hn2 : n2 ≤ 100) (hR2 : Rd .i64 w A2 l2)
    (V : List Int) (hV : (xs.drop a).take m = V) (out : List Int) (hout : flips V ((l1 ++ l2).map Int.toNat) = out) :
    (∃ fc : Int, fc ≠ 0 ∧ ¬ (okL n [] (l1 ++ l2) = true ∧ fitAll V (l1 ++ l2) n1 = true) ∧ (∀ W, Below w.heap.size w W → Calls Tryd.prog 15 #[bmv T (8 * (a : Int)) n, .slice A1 n1 c1, .slice A2 n2 c2] W (ChBad W fc)) ∧
      ∀ W A0 c0, Below w.heap.size w W → Rd .u64 W A0 V → Calls Tryd.prog 16 #[.slice A0 m c0, .int .i64 n, .slice A1 n1 c1, .slice A2 n2 c2] W (ChBad W fc)) ∨
    (okL n [] (l1 ++ l2) = true ∧ fitAll V (l1 ++ l2) n1 = true ∧ (∀ W, Below w.heap.size w W → Calls Tryd.prog 15 #[bmv T (8 * (a : Int)) n, .slice A1 n1 c1, .slice A2 n2 c2] W (ChGood W (difL V out a m))) ∧
      ∀ W A0 c0, Below w.heap.size w W → Rd .u64 W A0 V → Calls Tryd.prog 16 #[.slice A0 m c0, .int .i64 n, .slice A1 n1 c1, .slice A2 n2 c2] W (RefGood W out m)) := by
  have hfw : FitsB V := by rw [← hV]; exact fun v hv => hf v (List.mem_of_mem_drop (List.mem_of_mem_take hv))
  have hlw : V.length = m := by rw [← hV, List.length_take, List.length_drop, hx]; omega
  have href : ∀ W A0 c0, Below w.heap.size w W → Rd .u64 W A0 V → Calls Tryd.prog 16 #[.slice A0 m c0, .int .i64 n, .slice A1 n1 c1, .slice A2 n2 c2] W (RefChPost W V m n (l1 ++ l2) n1) :=
    fun W A0 c0 hW hR => refChange20 W A0 m c0 V hlw hR hfw n (by omega) hn (by omega) (by omega) A1 n1 c1 l1 hl1 hn1 (hR1.below hW) A2 n2 c2 l2 hl2 hn2 (hR2.below hW)
  by_cases hok : okL n [] (l1 ++ l2) = true
  · by_cases hfit : fitAll V (l1 ++ l2) n1 = true
    · refine .inr ⟨hok, hfit, fun W hW => ?_, fun W A0 c0 hW hR => (href W A0 c0 hW hR).mono ?_⟩
      · have := bmChange_fit W T xs a n m (hL.below hW) (fun W' hW' => hE W' (hW.trans (hW'.mono hW.size))) hf hx hmm ha hn0 hn A1 n1 c1 l1 hl1 (by omega) (hR1.below hW) A2 n2 c2 l2 hl2 (by omega) (hR2.below hW) hok (by rw [hV]; exact hfit)
        rw [hV, hout] at this
        exact this
      · rintro e w' ⟨hB, ⟨h, _⟩ | ⟨_, h, _⟩ | ⟨_, _, A, c, he, hS, hO⟩⟩
        · rw [hok] at h; cases h
        · rw [hfit] at h; cases h
        · rw [hout] at hS; exact ⟨A, c, he, hS, hO, hB⟩
    · have hfit' : fitAll V (l1 ++ l2) n1 = false := by simpa using hfit
      refine .inl ⟨8, by decide, fun h => hfit h.2, fun W hW => ?_, fun W A0 c0 hW hR => (href W A0 c0 hW hR).mono ?_⟩
      · exact bmChange_misfit W T xs a n m (hL.below hW) (fun W' hW' => hE W' (hW.trans (hW'.mono hW.size))) hf hx hmm ha hn0 hn A1 n1 c1 l1 hl1 (by omega) (hR1.below hW) A2 n2 c2 l2 hl2 (by omega) (hR2.below hW) hok (by rw [hV]; exact hfit')
      · rintro e w' ⟨hB, ⟨h, _⟩ | ⟨_, h, he⟩ | ⟨_, h, _⟩⟩
        · rw [hok] at h; cases h
        · exact ⟨he, hB⟩
        · exact absurd h hfit
  · have hok' : okL n [] (l1 ++ l2) = false := by simpa using hok
    refine .inl ⟨1, by decide, fun h => hok h.1, fun W hW => ?_, fun W A0 c0 hW hR => (href W A0 c0 hW hR).mono ?_⟩
    · exact bmChange_bad W T (8 * (a : Int)) n hn A1 n1 c1 l1 hl1 (by omega) (hR1.below hW) A2 n2 c2 l2 hl2 (by omega) (hR2.below hW) (by rw [← okL_app]; exact hok')
    · rintro e w' ⟨hB, ⟨_, he⟩ | ⟨h, _⟩ | ⟨h, _⟩⟩
      · exact ⟨he, hB⟩
      · exact absurd h hok
      · exact absurd h hok
end Go.Proofs.YtbhkdngbgokilaaDoor
