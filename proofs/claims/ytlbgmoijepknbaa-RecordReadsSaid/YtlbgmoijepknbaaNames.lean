/- The law RecordNames returns true. -/
import Derived.Test.YtlbgmoijepknbaaAwake
import Derived.Test.YtlbgmoijepknbaaRefU
namespace Go.Proofs.Ytlbgmoijepknbaa
open Go.RowKit
set_option linter.unusedVariables false

theorem pow64 : (2 : Int) ^ (8 * 8) = 18446744073709551616 := by decide
theorem ite_two {α : Type} (A B : Prop) [Decidable A] [Decidable B] (C : Bool) (u : α) (h : C = true ↔ ¬ A ∧ ¬ B) :
    (if A then none else if B then none else some u) = if C = true then some u else none := by
  by_cases hA : A
  · rw [if_pos hA, if_neg (fun hc => (h.1 hc).1 hA)]
  · rw [if_neg hA]
    by_cases hB : B
    · rw [if_pos hB, if_neg (fun hc => (h.1 hc).2 hB)]
    · rw [if_neg hB, if_pos (h.2 ⟨hA, hB⟩)]
theorem nameDec_eq (n : Nat) (x1 x2 : Int) (hn : n ≤ 16) (h1 : 0 ≤ x1) (h2 : 0 ≤ x2) (u1 : x1 < 18446744073709551616) (u2 : x2 < 18446744073709551616) :
    nameDec (n : Int) x1 x2 = if (rst x1 n 0 == 0 && rst x2 n 1 == 0) = true then some (unpk [x1, x2] n) else none := by
  unfold nameDec
  rw [if_neg (by omega), Int.toNat_natCast]
  have hk : n = 0 ∨ (1 ≤ n ∧ n ≤ 7) ∨ n = 8 ∨ (9 ≤ n ∧ n ≤ 15) ∨ n = 16 := by omega
  have hU : unpk ([x1, x2].take ((n + 7) / 8)) n = unpk [x1, x2] n := by
    unfold unpk
    apply List.map_congr_left
    intro i hi
    have : i < n := List.mem_range.1 hi
    rw [List.getElem?_take, if_pos (by omega)]
  rw [hU]
  have d1 : x1 / 18446744073709551616 = 0 := Int.ediv_eq_zero_of_lt h1 u1
  have d2 : x2 / 18446744073709551616 = 0 := Int.ediv_eq_zero_of_lt h2 u2
  refine ite_two _ _ _ _ ?_
  rcases hk with rfl | ⟨a, b⟩ | rfl | ⟨a, b⟩ | rfl
  · simp [rst]
  · have e1 : (n + 7) / 8 = 1 := by omega
    have e2 : n % 8 = n := by omega
    have e3 : min 8 (n - 8 * 0) * 8 = n * 8 := by omega
    have e4 : min 8 (n - 8 * 1) * 8 = 0 := by omega
    have e5 : n ≠ 0 := by omega
    rw [e1, e2]
    unfold rst
    rw [e3, e4]
    simp [e5]
  · simp [rst, d1]
  · have e1 : (n + 7) / 8 = 2 := by omega
    have e2 : n % 8 = n - 8 := by omega
    have e3 : min 8 (n - 8 * 0) * 8 = 8 * 8 := by omega
    have e4 : min 8 (n - 8 * 1) * 8 = (n - 8) * 8 := by omega
    have e5 : n - 8 ≠ 0 := by omega
    rw [e1, e2]
    unfold rst
    rw [e3, e4, pow64, d1]
    simp [e5]
  · simp [rst, d1, d2]

theorem eq_below {P : Program} {f : FuncId} {args : Array Value} {w : World} {v : Value} (h : Calls P f args w fun e w' => e = .returned v ∧ w = w') : Calls P f args w fun e w' => e = .returned v ∧ Below w.heap.size w w' :=
  h.mono fun _ _ ⟨he, hw⟩ => ⟨he, hw ▸ Below.refl _ _⟩

/-- Of a slice of words the reference and the program return the same name. -/
theorem names_dec (w : World) (A : Option Addr) (n c : Nat) (xs : List Int) (hl : xs.length = n) (hc : n ≤ c) (hR : Rd .u64 w A xs) (hx : ∀ x ∈ xs, 0 ≤ x ∧ x < 18446744073709551616) :
    ∃ (t : ByteArray) (is : Bool) (got : ByteArray), (is = false → got = ⟨#[]⟩) ∧ (is = true → got = t) ∧
      (∀ W, Below w.heap.size w W → Calls Try.prog 41 #[.slice A n c] W fun e w' => e = .returned (.tuple #[.string t, .bool is]) ∧ Below W.heap.size W w') ∧
      (∀ W, Below w.heap.size w W → Calls Try.prog 42 #[.agg #[], .slice A n c] W fun e w' => e = .returned (.tuple #[.string got, .bool is]) ∧ Below W.heap.size W w') := by
  by_cases h3 : n = 3
  · subst h3
    obtain ⟨x0, x1, x2, rfl⟩ : ∃ x0 x1 x2, xs = [x0, x1, x2] := by
      match xs, hl with
      | [a, b, c], _ => exact ⟨a, b, c, rfl⟩
    have b0 := hx x0 (by simp)
    have b1 := hx x1 (by simp)
    have b2 := hx x2 (by simp)
    obtain ⟨g, off, rfl, hg, hc0⟩ := hR.at_ (i := 0) (by simp)
    have hcell : ∀ W, Below w.heap.size w W → g < W.heap.size ∧ W.cell? ⟨g, off, none⟩ = some (.int .u64 x0) ∧ W.cell? ⟨g, off + 1, none⟩ = some (.int .u64 x1) ∧ W.cell? ⟨g, off + 2, none⟩ = some (.int .u64 x2) := by
      intro W hB
      obtain ⟨_, _, e0, q0, p0⟩ := (hR.below hB).at_ (i := 0) (by simp)
      obtain ⟨_, _, e1, _, p1⟩ := (hR.below hB).at_ (i := 1) (by simp)
      obtain ⟨_, _, e2, _, p2⟩ := (hR.below hB).at_ (i := 2) (by simp)
      injection e0 with e0; injection e0 with e0 e0'
      injection e1 with e1; injection e1 with e1 e1'
      injection e2 with e2; injection e2 with e2 e2'
      subst e0 e0' e1 e1' e2 e2'
      exact ⟨q0, p0, p1, p2⟩
    by_cases hb : 16 < x0
    · exact ⟨⟨#[]⟩, false, ⟨#[]⟩, fun _ => rfl, (fun h => by cases h), fun W hB => eq_below (refUnname_big W g off c x0 (hcell W hB).2.1 hb), fun W hB => nameDecode_big W g off c x0 (hcell W hB).1 (hcell W hB).2.1 hb⟩
    · obtain ⟨m, rfl⟩ := Int.eq_ofNat_of_zero_le b0.1
      have hm : m ≤ 16 := by omega
      have hU := fun W hB => refUnname_ok W g off c m x1 x2 (hcell W hB).1 (hcell W hB).2.1 hm b1.1 b2.1 b1.2 b2.2 (hcell W hB).2.2.1 (hcell W hB).2.2.2
      have hD := fun W hB => nameDecode_3 W g off c (m : Int) x1 x2 (hcell W hB).1 (hcell W hB).2.1 (by omega) (by omega) b1.1 b2.1 (hcell W hB).2.2.1 (hcell W hB).2.2.2 hc
      have he := nameDec_eq m x1 x2 hm b1.1 b2.1 b1.2 b2.2
      cases hr : (rst x1 m 0 == 0 && rst x2 m 1 == 0)
      · rw [hr] at he hU
        rw [if_neg (by simp)] at he
        rw [he] at hD
        exact ⟨_, false, _, fun _ => rfl, (fun h => by cases h), hU, hD⟩
      · rw [hr] at he hU
        rw [if_pos rfl] at he
        rw [he] at hD
        exact ⟨_, true, _, (fun h => by cases h), fun _ => rfl, hU, hD⟩
  · exact ⟨⟨#[]⟩, false, ⟨#[]⟩, fun _ => rfl, (fun h => by cases h), fun W _ => eq_below (refUnname_len W A n c h3), fun W _ => nameDecode_len W A n c h3⟩

set_option maxRecDepth 100000 in
set_option maxHeartbeats 4000000 in
theorem law_RecordNames_ok (w : World) (s : ByteArray) (hs : s.size ≤ 16) (A : Option Addr) (n c : Nat) (hn : n ≤ 9223372036854775807) (hnc : n ≤ c) (t : ByteArray) (is : Bool) (got : ByteArray) (hF : is = false → got = ⟨#[]⟩) (hT : is = true → got = t)
    (hU : ∀ W, Below w.heap.size w W → Calls Try.prog 41 #[.slice A (min n 5) c] W fun e w' => e = .returned (.tuple #[.string t, .bool is]) ∧ Below W.heap.size W w')
    (hD : ∀ W, Below w.heap.size w W → Calls Try.prog 42 #[.agg #[], .slice A (min n 5) c] W fun e w' => e = .returned (.tuple #[.string got, .bool is]) ∧ Below W.heap.size W w') :
    Calls Try.prog 7 #[.string s, .slice A n c] w fun e w' => e = .returned (.bool true) ∧ Below w.heap.size w w' := by
  have hmin : (∃ m : Nat, min n 5 = m ∧ ((m = n ∧ n ≤ 5) ∨ (m = 5 ∧ 5 < n))) := ⟨_, rfl, by omega⟩
  obtain ⟨m, hm, hm'⟩ := hmin
  rw [hm] at hU hD
  have HU := Lib.hid hU
  have HD := Lib.hid hD
  have hlen : (nameEnc (bytesOf s)).length = 3 := length_nameEnc _ (by rw [length_bytesOf]; exact hs)
  generalize hy : nameEnc (bytesOf s) = ys at hlen
  have HY := Lib.hid hy
  have HL := Lib.hid hlen
  clear hU hD hy hlen hm
  rcases hm' with ⟨rfl, h5⟩ | ⟨rfl, h5⟩ <;> cases is
  all_goals
    first | obtain rfl := hF rfl | obtain rfl := hT rfl
    clear hF hT
    go_enter Try.func7, Try.ntmps7
    go_wp2_with (go_at_call 12; refine (awake_any _).mono ?_; rintro e w' ⟨rfl, hb⟩; obtain ⟨x, rfl⟩ := bx_of hb; clear hb)
    refine (blank_any _ 3 (by omega)).mono ?_
    rintro e w1 ⟨rfl, hI1, hb1⟩
    obtain ⟨x1, rfl⟩ := bx_of hb1
    generalize hG1 : x.w.heap.size + 1 = g1 at *
    have hwg : w.heap.size ≤ g1 := by have := x.size; omega
    have HI1 := Lib.hid hI1
    clear hb1 hI1 hG1
    go_wp2_with fail
    refine (refName_ok _ s hs).mono ?_
    rw [HY.out]
    rintro e w2 ⟨rfl, hI2, hb2⟩
    obtain ⟨x2, rfl⟩ := bx_of hb2
    have HI2 := Lib.hid hI2
    have hg1 := HI1.out.lt
    clear hb2 hI2
    go_wp2_with (go_at_call 39; refine (nameWords _).mono ?_; rintro e w' ⟨rfl, hb⟩; obtain ⟨x3, rfl⟩ := bx_of hb; clear hb)
    refine (nameEncode_ok _ s hs g1 0 3 [7, 7, 7] ((HI1.out.bx x2).bx x3) (by simp) (by omega)).mono ?_
    rw [HY.out]
    rintro e w3 ⟨rfl, hI3, hC3⟩
    have e3 : splice [7, 7, 7] 0 ys = ys := by have := HL.out; simp [splice, this]
    rw [e3] at hI3
    have HI3 := Lib.hid hI3
    have HI2' : Hid (IB .u64 26 w3 x1.w.heap.size ys) := (HI2.out.bx x3).ch hC3 (by unfold At; omega)
    have HB3 := Lib.hid (bl_ch (bl_bx (bl_bx (bl_bx x.below x1) x2) x3) hC3 (fun b hb => by unfold At at hb; omega))
    clear hI3 hC3 e3
    go_wp2_with fail
    refine (blank_any _ 4 (by omega)).mono ?_
    rintro e w4 ⟨rfl, _, hb4⟩
    obtain ⟨x4, rfl⟩ := bx_of hb4
    clear hb4
    go_wp2_with (go_at_call 40; refine (nameEncode_len _ _ _ _ _ (by omega)).mono ?_; rintro e w' ⟨rfl, hb⟩; obtain ⟨x5, rfl⟩ := bx_of hb; clear hb)
    refine (equalU_n _ _ _ 3 3 _ _ ys ys HL.out HL.out (by exact ((HI3.out.bx x4).bx x5).rd0) (by exact ((HI2'.out.bx x4).bx x5).rd0) (by omega) (by omega)).mono ?_
    rw [show (ys == ys) = true from by simp]
    rintro e w6 ⟨rfl, n6, rfl⟩
    have HB6 := Lib.hid (bl_drewN (bl_bx (bl_bx HB3.out x4) x5) n6)
    go_wp2_with fail
    refine (HU.out _ HB6.out).mono ?_
    rintro e w7 ⟨rfl, hb7⟩
    obtain ⟨x7, rfl⟩ := bx_of hb7
    clear hb7
    go_wp2_with fail
    refine (HD.out _ (bl_bx HB6.out x7)).mono ?_
    rintro e w8 ⟨rfl, hb8⟩
    obtain ⟨x8, rfl⟩ := bx_of hb8
    clear hb8
    go_wp2
    go_ret
    exact ⟨rfl, bl_bx (bl_bx HB6.out x7) x8⟩

set_option maxRecDepth 100000 in
set_option maxHeartbeats 4000000 in
theorem law_RecordNames_long (w : World) (s : ByteArray) (hs : 16 < s.size) (A : Option Addr) (n c : Nat) (hn : n ≤ 9223372036854775807) (hnc : n ≤ c) (t : ByteArray) (is : Bool) (got : ByteArray) (hF : is = false → got = ⟨#[]⟩) (hT : is = true → got = t)
    (hU : ∀ W, Below w.heap.size w W → Calls Try.prog 41 #[.slice A (min n 5) c] W fun e w' => e = .returned (.tuple #[.string t, .bool is]) ∧ Below W.heap.size W w')
    (hD : ∀ W, Below w.heap.size w W → Calls Try.prog 42 #[.agg #[], .slice A (min n 5) c] W fun e w' => e = .returned (.tuple #[.string got, .bool is]) ∧ Below W.heap.size W w') :
    Calls Try.prog 7 #[.string s, .slice A n c] w fun e w' => e = .returned (.bool true) ∧ Below w.heap.size w w' := by
  have hmin : (∃ m : Nat, min n 5 = m ∧ ((m = n ∧ n ≤ 5) ∨ (m = 5 ∧ 5 < n))) := ⟨_, rfl, by omega⟩
  obtain ⟨m, hm, hm'⟩ := hmin
  rw [hm] at hU hD
  have HU := Lib.hid hU
  have HD := Lib.hid hD
  clear hU hD hm
  rcases hm' with ⟨rfl, h5⟩ | ⟨rfl, h5⟩ <;> cases is
  all_goals
    first | obtain rfl := hF rfl | obtain rfl := hT rfl
    clear hF hT
    go_enter Try.func7, Try.ntmps7
    go_wp2_with (go_at_call 12; refine (awake_any _).mono ?_; rintro e w' ⟨rfl, hb⟩; obtain ⟨x, rfl⟩ := bx_of hb; clear hb)
    refine (blank_any _ 3 (by omega)).mono ?_
    rintro e w1 ⟨rfl, hI1, hb1⟩
    obtain ⟨x1, rfl⟩ := bx_of hb1
    have HI1 := Lib.hid hI1
    clear hb1 hI1
    go_wp2_with (first | (go_at_call 38; refine (refName_long _ s hs).mono ?_; rintro e w' ⟨rfl, hb⟩; obtain ⟨x2, rfl⟩ := bx_of hb; clear hb) | (go_at_call 39; refine (nameWords _).mono ?_; rintro e w' ⟨rfl, hb⟩; obtain ⟨x3, rfl⟩ := bx_of hb; clear hb))
    refine (nameEncode_long _ s _ _ hs).mono ?_
    rintro e w3 ⟨rfl, hb3⟩
    obtain ⟨x4, rfl⟩ := bx_of hb3
    clear hb3
    go_wp2_with fail
    refine (blank_any _ 4 (by omega)).mono ?_
    rintro e w4 ⟨rfl, _, hb4⟩
    obtain ⟨x5, rfl⟩ := bx_of hb4
    clear hb4
    go_wp2_with (go_at_call 40; refine (nameEncode_len _ _ _ _ _ (by omega)).mono ?_; rintro e w' ⟨rfl, hb⟩; obtain ⟨x6, rfl⟩ := bx_of hb; clear hb)
    refine (blank_any _ 3 (by omega)).mono ?_
    rintro e w4 ⟨rfl, hI6, hb4⟩
    obtain ⟨x7, rfl⟩ := bx_of hb4
    have HI6 := Lib.hid hI6
    clear hb4 hI6
    go_wp2_with fail
    refine (equalU_n _ _ _ 3 3 _ _ [7, 7, 7] [7, 7, 7] rfl rfl (by exact ((((((HI1.out.bx x2).bx x3).bx x4).bx x5).bx x6).bx x7).rd0) (by exact HI6.out.rd0) (by omega) (by omega)).mono ?_
    rw [show (([7, 7, 7] : List Int) == [7, 7, 7]) = true from by decide]
    rintro e w6 ⟨rfl, n6, rfl⟩
    have hB6 : Below w.heap.size w (x7.w.drewN n6) := (by repeat (first | with_reducible exact Below.refl _ _ | with_reducible refine bl_alloc ?_ _ | with_reducible refine bl_drew ?_ | with_reducible refine bl_drewN ?_ _ | with_reducible refine bl_bx ?_ _ | with_reducible exact BX.below _ | with_reducible refine bl_set ?_ (by first | (exact Nat.le_refl _) | (simp; done) | (simp; omega)) _ | assumption))
    have HB6 := Lib.hid hB6
    clear hB6
    go_wp2_with fail
    refine (HU.out _ HB6.out).mono ?_
    rintro e w7 ⟨rfl, hb7⟩
    obtain ⟨x8, rfl⟩ := bx_of hb7
    clear hb7
    go_wp2_with fail
    refine (HD.out _ (bl_bx HB6.out x8)).mono ?_
    rintro e w8 ⟨rfl, hb8⟩
    obtain ⟨x9, rfl⟩ := bx_of hb8
    clear hb8
    go_wp2
    go_ret
    exact ⟨rfl, bl_bx (bl_bx HB6.out x8) x9⟩
end Go.Proofs.Ytlbgmoijepknbaa
