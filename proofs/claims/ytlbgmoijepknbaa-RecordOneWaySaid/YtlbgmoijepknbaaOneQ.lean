/- Plain laws on the record of the statements: decoding undoes encoding, and encoding undoes decoding. -/
import Derived.Test.YtlbgmoijepknbaaOneP
namespace Go.Proofs.Ytlbgmoijepknbaa
open Go.RowKit
set_option linter.unusedVariables false

theorem u64_back (x : Int) (h : 0 ≤ x) (h' : x < 18446744073709551616) : IntKind.u64.wrap (wrap64 x) = x := by
  unfold wrap64; rw [IntKind.wrap_u64]; omega
theorem i64_back (x : Int) (h : -9223372036854775808 ≤ x) (h' : x < 9223372036854775808) : wrap64 (IntKind.u64.wrap x) = x := by
  unfold wrap64; rw [IntKind.wrap_u64]; omega

theorem nameAt_of (D : List Int) (k : Nat) (s : ByteArray) (hs : s.size ≤ 16) (h0 : D[1 + 3 * k]?.getD 0 = (s.size : Int)) (h1 : D[2 + 3 * k]?.getD 0 = pkw (bytesOf s) 0) (h2 : D[3 + 3 * k]?.getD 0 = pkw (bytesOf s) 1) :
    nameAt D k = some (bytesOf s) := by
  unfold nameAt
  rw [h0, h1, h2]
  exact name_back s hs
theorem nameEnc_str (s : ByteArray) (hs : s.size ≤ 16) : nameEnc (bytesOf s) = [(s.size : Int), pkw (bytesOf s) 0, pkw (bytesOf s) 1] := by
  rw [nameEnc_eq _ (by rw [length_bytesOf]; exact hs), length_bytesOf]

/-- The names of words that encS made. -/
theorem decS_encS (l : List ByteArray) (D : List Int) (h : encS l = some D) : decS D = some l := by
  unfold encS at h
  split at h
  · cases h
  · rename_i hn
    injection h with h
    have h1 : l.all (fun s => decide (s.size ≤ 16)) = true := by
      cases hh : l.all (fun s => decide (s.size ≤ 16))
      · exact absurd (.inr hh) hn
      · rfl
    have h2 : l.length ≤ 2 := by
      rcases Nat.lt_or_ge 2 l.length with h | h
      · exact absurd (.inl h) hn
      · exact h
    match l, h2 with
    | [], _ =>
      subst h
      rfl
    | [s], _ =>
      have hs : s.size ≤ 16 := by simpa using h1
      have e : D = [1, (s.size : Int), pkw (bytesOf s) 0, pkw (bytesOf s) 1, 0, 0, 0] := by
        rw [← h]
        simp only [namesW, List.map_cons, List.map_nil, List.flatten_cons, List.flatten_nil, List.append_nil, nameEnc_str s hs]
        rfl
      have hA := nameAt_of D 0 s hs (by rw [e]; rfl) (by rw [e]; rfl) (by rw [e]; rfl)
      unfold decS
      rw [show word0 D = 1 by rw [e]; rfl, if_neg (by omega), show (D.drop (1 + 3 * (1 : Int).toNat)).all (· == 0) = true by rw [e]; rfl, if_neg (by simp)]
      show namesDec D 1 = _
      rw [namesDec, hA]
      show some ([] ++ [strOf (bytesOf s)]) = _
      rw [strOf_bytesOf]; rfl
    | [s, t], _ =>
      have hs : s.size ≤ 16 := by simp at h1; exact h1.1
      have ht : t.size ≤ 16 := by simp at h1; exact h1.2
      have e : D = [2, (s.size : Int), pkw (bytesOf s) 0, pkw (bytesOf s) 1, (t.size : Int), pkw (bytesOf t) 0, pkw (bytesOf t) 1] := by
        rw [← h]
        simp only [namesW, List.map_cons, List.map_nil, List.flatten_cons, List.flatten_nil, List.append_nil, nameEnc_str s hs, nameEnc_str t ht]
        rfl
      have hA := nameAt_of D 0 s hs (by rw [e]; rfl) (by rw [e]; rfl) (by rw [e]; rfl)
      have hB := nameAt_of D 1 t ht (by rw [e]; rfl) (by rw [e]; rfl) (by rw [e]; rfl)
      unfold decS
      rw [show word0 D = 2 by rw [e]; rfl, if_neg (by omega), show (D.drop (1 + 3 * (2 : Int).toNat)).all (· == 0) = true by rw [e]; rfl, if_neg (by simp)]
      show namesDec D 2 = _
      rw [namesDec, namesDec, hA, hB]
      show some (([] ++ [strOf (bytesOf s)]) ++ [strOf (bytesOf t)]) = _
      rw [strOf_bytesOf, strOf_bytesOf]; rfl

theorem decV_encV (f : Bool) (l : List ByteArray) (o : Option Int) (ho : ∀ n, o = some n → -9223372036854775808 ≤ n ∧ n < 9223372036854775808) (es : List Int) (h : encV f l o = some es) : decV es = some (f, l, o) ∧ es.length = 10 := by
  unfold encV encSI at h
  cases hS : encS l with
  | none => rw [hS] at h; cases h
  | some D =>
    rw [hS] at h
    injection h with h
    have hl := length_encS hS
    have hd := decS_encS l D hS
    have e1 : es.drop 1 = D ++ encO o := by rw [← h]; rfl
    have e2 : (D ++ encO o).take 7 = D := by rw [List.take_append_of_le_length (by omega), List.take_of_length_le (by omega)]
    have e3 : word0 es = if f then 1 else 0 := by rw [← h]; rfl
    have e4 : (D ++ encO o)[7]?.getD 0 = (encO o)[0]?.getD 0 := by rw [List.getElem?_append_right (by omega), hl]
    have e5 : (D ++ encO o)[8]?.getD 0 = (encO o)[1]?.getD 0 := by rw [List.getElem?_append_right (by omega), hl]
    have hO : decO ((encO o)[0]?.getD 0) ((encO o)[1]?.getD 0) = some o := by
      cases o with
      | none => rfl
      | some n =>
        show decO 1 (IntKind.u64.wrap n) = _
        unfold decO
        rw [if_neg (by omega), if_neg (by omega), i64_back n (ho n rfl).1 (ho n rfl).2]
    refine ⟨?_, ?_⟩
    · unfold decV decSI
      rw [e1, e2, e3, e4, e5, hd, hO, if_neg (by cases f <;> simp)]
      cases f <;> rfl
    · rw [← h]
      simp only [Function.comp, List.length_append, length_encF, length_encO, hl]

theorem encS_decS (D : List Int) (hl : D.length = 7) (hw : U64s D) (l : List ByteArray) (h : decS D = some l) : encS l = some D := by
  unfold decS at h
  split at h
  · cases h
  · rename_i h2
    split at h
    · cases h
    · rename_i hz
      have hz : (D.drop (1 + 3 * (word0 D).toNat)).all (· == 0) = true := by simpa using hz
      have h0 : 0 ≤ word0 D := (hw.getD 0).1
      obtain ⟨a0, a1, a2, a3, a4, a5, a6, rfl⟩ : ∃ a0 a1 a2 a3 a4 a5 a6, D = [a0, a1, a2, a3, a4, a5, a6] := by
        match D, hl with
        | [a0, a1, a2, a3, a4, a5, a6], _ => exact ⟨a0, a1, a2, a3, a4, a5, a6, rfl⟩
      have g := fun i => hw.getD i
      have e0 : word0 [a0, a1, a2, a3, a4, a5, a6] = a0 := rfl
      rw [e0] at h h2 hz h0
      have hu : a0 = 0 ∨ a0 = 1 ∨ a0 = 2 := by omega
      rcases hu with rfl | rfl | rfl
      · injection h with h
        subst h
        simp at hz
        obtain ⟨rfl, rfl, rfl, rfl, rfl, rfl⟩ := hz
        rfl
      · simp at hz
        obtain ⟨rfl, rfl, rfl⟩ := hz
        change namesDec _ 1 = some l at h
        rw [namesDec, namesDec] at h
        cases hA : nameAt [1, a1, a2, a3, 0, 0, 0] 0 with
        | none => rw [hA] at h; cases h
        | some n =>
          rw [hA] at h
          injection h with h
          subst h
          have hN := name_enc a1 a2 a3 n (g 1).1 (g 2).1 (g 3).1 (g 2).2 (g 3).2 hA
          unfold encS
          rw [if_neg (by simp; exact hN.2)]
          simp only [namesW, List.nil_append, List.map_cons, List.map_nil, List.flatten_cons, List.flatten_nil, List.append_nil, hN.1]
          rfl
      · change namesDec _ 2 = some l at h
        rw [namesDec, namesDec, namesDec] at h
        cases hA : nameAt [2, a1, a2, a3, a4, a5, a6] 0 with
        | none => rw [hA] at h; cases h
        | some n =>
          cases hB : nameAt [2, a1, a2, a3, a4, a5, a6] 1 with
          | none => rw [hA, hB] at h; cases h
          | some m =>
            rw [hA, hB] at h
            injection h with h
            subst h
            have hN := name_enc a1 a2 a3 n (g 1).1 (g 2).1 (g 3).1 (g 2).2 (g 3).2 hA
            have hM := name_enc a4 a5 a6 m (g 4).1 (g 5).1 (g 6).1 (g 5).2 (g 6).2 hB
            unfold encS
            rw [if_neg (by simp; exact ⟨hN.2, hM.2⟩)]
            simp only [namesW, List.nil_append, List.cons_append, List.map_cons, List.map_nil, List.flatten_cons, List.flatten_nil, List.append_nil, hN.1, hM.1]
            rfl

theorem encV_decV (ws : List Int) (hl : ws.length = 10) (hw : U64s ws) (f : Bool) (l : List ByteArray) (o : Option Int) (h : decV ws = some (f, l, o)) : encV f l o = some ws := by
  unfold decV at h
  split at h
  · cases h
  · rename_i h1
    cases hS : decSI (ws.drop 1) with
    | none => rw [hS] at h; cases h
    | some lo =>
      obtain ⟨l', o'⟩ := lo
      rw [hS] at h
      simp only [Option.some.injEq, Prod.mk.injEq] at h
      obtain ⟨hf, rfl, rfl⟩ := h
      unfold decSI at hS
      split at hS
      · rename_i l1 o1 hs1 ho1
        injection hS with hS
        simp only [Prod.mk.injEq] at hS
        obtain ⟨rfl, rfl⟩ := hS
        have hE := encS_decS ((ws.drop 1).take 7) (by simp [hl]) ((hw.drop 1).take 7) l1 hs1
        have e7 : (ws.drop 1)[7]?.getD 0 = ws[8]?.getD 0 := by simp
        have e8 : (ws.drop 1)[8]?.getD 0 = ws[9]?.getD 0 := by simp
        rw [e7, e8] at ho1
        have g8 := hw.getD 8
        have g9 := hw.getD 9
        have g0 := hw.getD 0
        have hO : encO o1 = [ws[8]?.getD 0, ws[9]?.getD 0] := by
          unfold decO at ho1
          split at ho1
          · cases ho1
          · split at ho1
            · rename_i h8
              split at ho1
              · rename_i h9
                injection ho1 with ho1
                subst ho1
                rw [h8, h9]; rfl
              · cases ho1
            · injection ho1 with ho1
              subst ho1
              show [1, IntKind.u64.wrap (wrap64 (ws[9]?.getD 0))] = _
              rw [u64_back _ g9.1 g9.2, show ws[8]?.getD 0 = 1 by omega]
        have hF : encF f = [ws[0]?.getD 0] := by
          have h0 : word0 ws = ws[0]?.getD 0 := rfl
          rw [h0] at h1 hf
          have : ws[0]?.getD 0 = 0 ∨ ws[0]?.getD 0 = 1 := by omega
          rcases this with h | h
          · rw [h] at hf ⊢; subst hf; rfl
          · rw [h] at hf ⊢; subst hf; rfl
        unfold encV encSI
        rw [hE, hO, hF]
        simp only [Option.map_some, Option.some.injEq]
        match ws, hl with
        | [a0, a1, a2, a3, a4, a5, a6, a7, a8, a9], _ => rfl
      · cases hS

theorem U64s.nil : U64s [] := fun x hx => by cases hx
theorem U64s.cons {a : Int} {l : List Int} (h : 0 ≤ a ∧ a < 18446744073709551616) (hl : U64s l) : U64s (a :: l) := fun x hx => by
  rcases List.mem_cons.1 hx with rfl | hx
  · exact h
  · exact hl x hx
theorem U64s.append {k l : List Int} (hk : U64s k) (hl : U64s l) : U64s (k ++ l) := fun x hx => by
  rcases List.mem_append.1 hx with hx | hx
  · exact hk x hx
  · exact hl x hx
theorem U64s.set {l : List Int} (hl : U64s l) (i : Nat) {v : Int} (h : 0 ≤ v ∧ v < 18446744073709551616) : U64s (l.set i v) := fun x hx => by
  rcases List.mem_or_eq_of_mem_set hx with hx | rfl
  · exact hl x hx
  · exact h
theorem encF_u64 (f : Bool) : U64s (encF f) := by
  cases f
  · exact .cons (by omega) .nil
  · exact .cons (by omega) .nil
theorem pkw_u64 (s : ByteArray) (j : Nat) : 0 ≤ pkw (bytesOf s) j ∧ pkw (bytesOf s) j < 18446744073709551616 := by
  obtain ⟨a, b⟩ := part_bound (bytesOf s) (bytesOf_bound s) j
  exact ⟨a, Int.lt_of_lt_of_le b (pow_le64 _ (Nat.min_le_left _ _))⟩
theorem namesW_u64 (l : List ByteArray) (h : l.all (fun s => decide (s.size ≤ 16)) = true) : U64s (namesW l) := by
  induction l with
  | nil => exact .nil
  | cons s l ih =>
    simp only [List.all_cons, Bool.and_eq_true, decide_eq_true_eq] at h
    unfold namesW
    rw [List.map_cons, List.flatten_cons, nameEnc_str s h.1]
    exact .append (.cons (by omega) (.cons (pkw_u64 s 0) (.cons (pkw_u64 s 1) .nil))) (ih h.2)
theorem encV_u64 (f : Bool) (l : List ByteArray) (o : Option Int) (es : List Int) (h : encV f l o = some es) : U64s es := by
  unfold encV encSI encS at h
  split at h
  · cases h
  · rename_i hn
    have h1 : l.all (fun s => decide (s.size ≤ 16)) = true := by
      cases hh : l.all (fun s => decide (s.size ≤ 16))
      · exact absurd (.inr hh) hn
      · rfl
    have h2 : ¬ 2 < l.length := fun h => hn (.inl h)
    injection h with h
    rw [← h]
    refine .append (encF_u64 f) (.append (.cons (by omega) (.append (namesW_u64 l h1) ?_)) ?_)
    · intro x hx
      rw [List.mem_replicate] at hx
      omega
    · cases o with
      | none => exact .cons (by omega) (.cons (by omega) .nil)
      | some n =>
        refine .cons (by omega) (.cons ?_ .nil)
        rw [IntKind.wrap_u64]; omega
end Go.Proofs.Ytlbgmoijepknbaa
