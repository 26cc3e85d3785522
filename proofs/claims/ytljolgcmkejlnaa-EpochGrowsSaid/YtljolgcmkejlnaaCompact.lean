/- Contract of Compact of words. -/
import Derived.Test.YtljolgcmkejlnaaSort
import Derived.Test.YtljolgcmkejlnaaStr
namespace Go.Proofs.Ytljolgcmkejlnaa
open Go.RowKit
set_option linter.unusedVariables false

/-- Without repetitions of neighbours. -/
def cpt (xs : List Int) : List Int := xs.foldl (fun acc x => if acc.getLast? = some x then acc else acc ++ [x]) []
theorem cpt_snoc (xs : List Int) (x : Int) : cpt (xs ++ [x]) = if (cpt xs).getLast? = some x then cpt xs else cpt xs ++ [x] := by
  unfold cpt; rw [List.foldl_append]; rfl
theorem cpt_last (xs : List Int) : ∀ k, (cpt (xs.take k)).getLast? = (xs.take k).getLast? := by
  intro k
  induction k with
  | zero => simp [cpt]
  | succ k ih =>
    by_cases hk : k < xs.length
    · rw [List.take_succ_eq_append_getElem hk, cpt_snoc]
      split
      · rename_i h; rw [h]; simp [-List.take_append_getElem]
      · simp [-List.take_append_getElem]
    · rw [List.take_of_length_le (by omega)]
      rw [List.take_of_length_le (by omega)] at ih
      exact ih
theorem take_last (xs : List Int) (k : Nat) (hk : k < xs.length) : (xs.take (k + 1)).getLast? = some xs[k] := by
  rw [List.take_succ_eq_append_getElem hk]; simp [-List.take_append_getElem]
theorem cpt_eq (xs : List Int) (k : Nat) (hk : k + 1 < xs.length) (h : xs[k + 1] = xs[k]) : cpt (xs.take (k + 2)) = cpt (xs.take (k + 1)) := by
  rw [List.take_succ_eq_append_getElem hk, cpt_snoc, cpt_last, take_last xs k (by omega), h, if_pos rfl]
theorem cpt_ne (xs : List Int) (k : Nat) (hk : k + 1 < xs.length) (h : xs[k + 1] ≠ xs[k]) : cpt (xs.take (k + 2)) = cpt (xs.take (k + 1)) ++ [xs[k + 1]] := by
  rw [List.take_succ_eq_append_getElem hk, cpt_snoc, cpt_last, take_last xs k (by omega), if_neg (fun h' => h (by injection h' with h'; exact h'.symm))]
theorem cpt_one (xs : List Int) : cpt (xs.take 1) = xs.take 1 := by
  cases xs with
  | nil => simp [cpt]
  | cons x xs => simp [cpt]
theorem cpt_all (xs : List Int) : cpt (xs.take xs.length) = cpt xs := by rw [List.take_length]

/-- What Compact leaves. -/
def CptPost (w : World) (g n c : Nat) (xs : List Int) (e : Ending) (w' : World) : Prop :=
  ∃ zs, e = .returned (.slice (some ⟨g, 0, none⟩) (cpt xs).length c) ∧ IB .u64 25 w' g zs ∧ zs.take (cpt xs).length = cpt xs ∧ Ch (At g) w w'
/-- The inner loop's invariant: p words are read, k are kept. -/
def CptIn (w : World) (g n : Nat) (xs : List Int) (p k : Nat) (wr : World) : Prop :=
  ∃ ys : List Int, IB .u64 25 wr g ys ∧ ys.length = n ∧ ys.take k = cpt (xs.take p) ∧ k = (cpt (xs.take p)).length ∧ k + 1 ≤ p ∧ (∀ j, p ≤ j + 1 → ys[j]? = xs[j]?) ∧ Ch (At g) w wr

theorem CptIn.keep {w wr : World} {g n p k : Nat} {xs : List Int} (h : CptIn w g n xs p k wr) (nq : Nat) : CptIn w g n xs p k (wr.drewN nq) := by
  obtain ⟨ys, h1, h2, h3, h4, h5, h6, h7⟩ := h
  exact ⟨ys, h1.drewN nq, h2, h3, h4, h5, h6, h7.drewN nq⟩
theorem CptIn.skip {w wr : World} {g n p k : Nat} {xs : List Int} (h : CptIn w g n xs (p + 1) k wr) (hx : xs.length = n) (hp : p + 1 < n) (he : xs[p + 1]? = xs[p]?) : CptIn w g n xs (p + 2) k wr := by
  obtain ⟨ys, h1, h2, h3, h4, h5, h6, h7⟩ := h
  have e : cpt (xs.take (p + 2)) = cpt (xs.take (p + 1)) := cpt_eq xs p (by omega) (by
    rw [List.getElem?_eq_getElem (by omega), List.getElem?_eq_getElem (by omega)] at he
    injection he)
  exact ⟨ys, h1, h2, by rw [e]; exact h3, by rw [e]; exact h4, by omega, fun j hj => h6 j (by omega), h7⟩
theorem CptIn.take {w wr : World} {g n p k : Nat} {xs : List Int} (h : CptIn w g n xs (p + 1) k wr) (hx : xs.length = n) (hp : p + 1 < n) (v : Int) (hv : xs[p + 1]? = some v) (he : xs[p + 1]? ≠ xs[p]?) :
    CptIn w g n xs (p + 2) (k + 1) (wr.setCell ⟨g, k, none⟩ (.int .u64 v)) := by
  obtain ⟨ys, h1, h2, h3, h4, h5, h6, h7⟩ := h
  have hv' : xs[p + 1]'(by omega) = v := by rw [List.getElem?_eq_getElem (by omega)] at hv; injection hv
  have e : cpt (xs.take (p + 2)) = cpt (xs.take (p + 1)) ++ [v] := by
    rw [cpt_ne xs p (by omega) (fun h => he (by rw [List.getElem?_eq_getElem (by omega), List.getElem?_eq_getElem (by omega), h])), hv']
  have hk : k < ys.length := by omega
  refine ⟨ys.set k v, h1.set k v, by simpa using h2, ?_, by rw [e]; simp; omega, by omega, fun j hj => ?_, h7.set1 k _⟩
  · rw [e, List.take_succ_eq_append_getElem (by simpa using hk), List.take_set_of_le (Nat.le_refl k), h3]
    simp
  · rw [List.getElem?_set, if_neg (by omega)]
    exact h6 j (by omega)

set_option maxRecDepth 100000 in
set_option maxHeartbeats 4000000 in
theorem compactU (w : World) (g n : Nat) (xs : List Int) (hn : xs.length = n) (h1 : 1 ≤ n) (hm : n ≤ 1000000) (hI : IB .u64 25 w g xs) :
    Calls Try.prog 56 #[.slice (some ⟨g, 0, none⟩) n n] w (CptPost w g n n xs) := by
  have HN := Lib.hid hn
  have HI := Lib.hid hI
  have hgl := hI.lt
  clear hn hI
  by_cases h2 : n < 2
  · obtain rfl : n = 1 := by omega
    have HC : Hid (cpt xs = xs) := by
      have := cpt_one xs
      rwa [List.take_of_length_le (by rw [HN.out]; omega)] at this
    go_enter Try.func56, Try.ntmps56
    go_wp2
    go_ret
    refine ⟨xs, ?_, HI.out, ?_, Ch.refl _ _⟩
    · rw [HC.out, HN.out]; rfl
    · rw [HC.out, List.take_length]
  · have h2' : ¬ (n : Int) < 2 := by omega
    go_enter Try.func56, Try.ntmps56
    go_wp2
    go_loopw [3, 4, 5, 10, 11, 12, 13, 14, 15, 16, 17, 18, 19, 20, 21, 22, 23, 24, 25, 26, 27, 28, 29, 30, 31, 32, 33, 34, 35, 36, 37, 38, 39, 40, 41, 42, 43, 44, 45, 46, 47, 48, 49, 50, 51, 52, 53, 54, 55, 56, 57, 58, 59, 2] (fun i _ _ _ _ _ _ _ _ _ _ _ _ _ _ _ _ _ _ _ _ _ _ _ _ _ _ _ _ _ _ _ _ _ _ _ _ _ _ _ _ _ _ _ _ _ _ _ _ _ _ _ _ _ wr => ∃ k m : Nat, 1 ≤ k ∧ k ≤ n ∧ i = .int .i64 k ∧ cpt (xs.take k) = xs.take k ∧ wr = w.drewN m) (fun i _ _ _ _ _ _ _ _ _ _ _ _ _ _ _ _ _ _ _ _ _ _ _ _ _ _ _ _ _ _ _ _ _ _ _ _ _ _ _ _ _ _ _ _ _ _ _ _ _ _ _ _ _ _ => n - (intOf i).toNat)
    case atStart => exact ⟨1, 0, by omega, by omega, rfl, cpt_one xs, rfl⟩
    case round =>
      obtain ⟨k, m, hk1, hk, rfl, hcp, rfl⟩ := hrel
      have HCP := Lib.hid hcp
      clear hcp
      by_cases hlt : k < n
      · obtain ⟨j, rfl⟩ : ∃ j, k = j + 1 := ⟨k - 1, by omega⟩
        obtain ⟨x1, hx1⟩ : ∃ x, xs[j + 1]? = some x := ⟨xs[j + 1]'(by rw [HN.out]; exact hlt), List.getElem?_eq_getElem _⟩
        obtain ⟨x0, hx0⟩ : ∃ x, xs[j]? = some x := ⟨xs[j]'(by rw [HN.out]; omega), List.getElem?_eq_getElem _⟩
        obtain ⟨W, hW⟩ : ∃ W, w.drewN m = W := ⟨_, rfl⟩
        have HIW : Hid (IB .u64 25 W g xs) := by show IB _ _ _ _ _; rw [← hW]; exact HI.out.drewN m
        have HBW : Hid (Ch (At g) w W) := by show Ch _ _ _; rw [← hW]; exact (Ch.refl _ _).drewN m
        have c0 : W.cell? ⟨g, j, none⟩ = some (.int .u64 x0) := by
          rw [HIW.out.cell (by rw [HN.out]; omega)]
          rw [List.getElem?_eq_getElem (by rw [HN.out]; omega)] at hx0
          injection hx0 with hx0
          rw [hx0]
        have c1 : W.cell? ⟨g, j + 1, none⟩ = some (.int .u64 x1) := by
          rw [HIW.out.cell (by rw [HN.out]; omega)]
          rw [List.getElem?_eq_getElem (by rw [HN.out]; omega)] at hx1
          injection hx1 with hx1
          rw [hx1]
        have hgW : g < W.heap.size := HIW.out.lt
        have q1 : ((j + 1 : Nat) : Int) = (j : Int) + 1 := by omega
        have q2 : (j : Int) + 1 - 1 = (j : Int) := by omega
        have q3 : IntKind.i64.wrap ((j : Int) + 1 - 1) = (j : Int) := by rw [q2]; exact IntWalk.i64_in _ (by omega)
        have q4 : ((j : Int) + 1).toNat = j + 1 := by omega
        have HX1 := Lib.hid hx1
        have HX0 := Lib.hid hx0
        have hlt' : (j : Int) + 1 < (n : Int) := by omega
        rw [hW]
        have HW := Lib.hid hW
        clear hW hx1 hx0
        rw [q1]
        by_cases he : x1 = x0
        · subst he
          have he' : (x1 == x1) = true := by simp
          have HI0 : Hid (CptIn w g n xs (j + 2) (j + 1) W) := by
            show CptIn _ _ _ _ _ _ _
            have hlj : j + 1 < xs.length := by rw [HN.out]; exact hlt
            have e : cpt (xs.take (j + 2)) = xs.take (j + 1) := by
              rw [cpt_eq xs j hlj (by
                have a := HX1.out; have b := HX0.out
                rw [List.getElem?_eq_getElem (by omega)] at a b
                injection a with a; injection b with b; rw [a, b])]
              exact HCP.out
            exact ⟨xs, HIW.out, HN.out, by rw [e], by rw [e, List.length_take]; omega, by omega, fun _ _ => rfl, HBW.out⟩
          go_upto_region 6 with (fail)
          go_quiet (fail)
          go_wp2
          have HI1 := Lib.hid (HI0.out.keep nq)
          clear HI0 c0 c1 HIW HBW HX1 HX0 HW he' hgW q1 q2 q3 q4
          obtain ⟨W1, hW1⟩ : ∃ W1, W.drewN nq = W1 := ⟨_, rfl⟩
          rw [hW1] at HI1 ⊢
          clear hW1
          go_loopw [5, 3, 29, 30, 31, 32, 33, 34, 35, 36, 37, 38, 39, 40, 41, 42, 43, 44, 45, 46, 47, 48, 49, 50, 51, 52, 53] (fun a b _ _ _ _ _ _ _ _ _ _ _ _ _ _ _ _ _ _ _ _ _ _ _ _ _ wr => ∃ k2 kk : Nat, 1 ≤ k2 ∧ j + 1 + k2 ≤ n ∧ a = .int .i64 k2 ∧ b = .int .i64 kk ∧ CptIn w g n xs (j + 1 + k2) kk wr) (fun a _ _ _ _ _ _ _ _ _ _ _ _ _ _ _ _ _ _ _ _ _ _ _ _ _ _ _ => n - (intOf a).toNat)
          case atStart => exact ⟨1, j + 1, by omega, by omega, rfl, by go_num, HI1.out⟩
          case round =>
            obtain ⟨k2, kk, hk2, hk3, rfl, rfl, hIn⟩ := hrel
            have HIn := Lib.hid hIn
            obtain ⟨ys, hI2, hyl, htk, hkl, hkp, hint, hCh⟩ := hIn
            have hgr := hI2.lt
            obtain ⟨e, rfl⟩ : ∃ e, k2 = e + 1 := ⟨k2 - 1, by omega⟩
            have q1 : ((e + 1 : Nat) : Int) = (e : Int) + 1 := by omega
            have q2 : (e : Int) + 1 - 1 = (e : Int) := by omega
            have q3 : IntKind.i64.wrap ((e : Int) + 1 - 1) = (e : Int) := by rw [q2]; exact IntWalk.i64_in _ (by omega)
            have q4 : ((e : Int) + 1).toNat = e + 1 := by omega
            by_cases hl2 : j + 1 + (e + 1) < n
            · have hl2' : (e : Int) + 1 < ((n - (j + 1) : Nat) : Int) := by omega
              have hl3 : e + 1 < n - (j + 1) := by omega
              have hl4 : e < n - (j + 1) := by omega
              obtain ⟨y1, hy1⟩ : ∃ x, xs[j + 1 + (e + 1)]? = some x := ⟨xs[j + 1 + (e + 1)]'(by rw [HN.out]; exact hl2), List.getElem?_eq_getElem _⟩
              obtain ⟨y0, hy0⟩ : ∃ x, xs[j + 1 + e]? = some x := ⟨xs[j + 1 + e]'(by rw [HN.out]; omega), List.getElem?_eq_getElem _⟩
              have c1 : wr.cell? ⟨g, j + 1 + (e + 1), none⟩ = some (.int .u64 y1) := by
                have := hint (j + 1 + (e + 1)) (by omega)
                rw [hy1, List.getElem?_eq_getElem (by omega)] at this
                rw [hI2.cell (by omega)]; injection this with this; rw [this]
              have c0 : wr.cell? ⟨g, j + 1 + e, none⟩ = some (.int .u64 y0) := by
                have := hint (j + 1 + e) (by omega)
                rw [hy0, List.getElem?_eq_getElem (by omega)] at this
                rw [hI2.cell (by omega)]; injection this with this; rw [this]
              obtain ⟨yk, ck⟩ : ∃ v, wr.cell? ⟨g, kk, none⟩ = some v := ⟨_, hI2.cell (by omega)⟩
              have fk := hI2.frozen kk
              have hkn : kk < n := by omega
              have HY1 := Lib.hid hy1
              have HY0 := Lib.hid hy0
              rw [q1]
              clear hint htk hkl hI2 hyl hCh hkp hy1 hy0
              by_cases hne : y1 = y0
              · subst hne
                have hb : (y1 != y1) = false := by simp
                go_upto_region 11 with (fail)
                go_quiet (fail)
                go_wp2
                refine ⟨⟨e + 2, kk, by omega, by omega, by go_num, rfl, ?_⟩, by simp [intOf]; omega⟩
                have := (HIn.out.keep nq).skip (p := j + 1 + e) HN.out hl2 (HY1.out.trans HY0.out.symm)
                exact this
              · have hb : (y1 != y0) = true := by simpa using hne
                go_upto_region 11 with (fail)
                go_quiet (fail)
                go_wp2
                refine ⟨⟨e + 2, kk + 1, by omega, by omega, by go_num, by go_num, ?_⟩, by simp [intOf]; omega⟩
                have := (HIn.out.keep nq).take (p := j + 1 + e) HN.out hl2 y1 HY1.out (by rw [show j + 1 + e + 1 = j + 1 + (e + 1) by omega, HY1.out, HY0.out]; simpa using hne)
                exact this
            · obtain rfl : n = j + 1 + (e + 1) := by omega
              have hl2' : ¬ (e : Int) + 1 < ((j + 1 + (e + 1) - (j + 1) : Nat) : Int) := by omega
              have hkn : kk < j + 1 + (e + 1) := by omega
              have hkn' : ¬ ((j + 1 + (e + 1) : Nat) : Int) < (kk : Int) := by omega
              have hkn2 : ¬ j + 1 + (e + 1) < kk := by omega
              have hkn3 : ¬ j + 1 + (e + 1) = kk := by omega
              obtain ⟨w2, hr2, hI3, hC3⟩ := run_clear_ints (P := Try.prog) wr 84 0 25 .u64 25 Try.underlying84 (by kernel_rfl) g kk (j + 1 + (e + 1) - kk) (j + 1 + (e + 1) - kk) ys hI2 (by omega) (by omega)
              have HR2 := Lib.hid hr2
              have HI3 := Lib.hid hI3
              have HC3 := Lib.hid hC3
              have HF : Hid (kk = (cpt xs).length ∧ ys.take kk = cpt xs) := by
                show _ ∧ _
                have ex : xs.take (j + 1 + (e + 1)) = xs := List.take_of_length_le (by rw [HN.out]; omega)
                rw [ex] at htk hkl
                exact ⟨hkl, htk⟩
              have HCh := Lib.hid hCh
              have hyl' : kk ≤ ys.length := by omega
              clear hint htk hkl hI2 hyl hCh hr2 hI3 hC3
              rw [q1]
              go_wp2
              rw [HR2.out]
              go_wp2
              go_ret
              refine ⟨_, ?_, HI3.out, ?_, HCh.out.trans HC3.out (fun _ h _ => h)⟩
              · rw [← HF.out.1]; rfl
              · rw [← HF.out.1, ← HF.out.2]
                unfold splice
                rw [List.take_append_of_le_length (by rw [List.length_take]; omega), List.take_take, Nat.min_self]
        · have he' : (x1 == x0) = false := by simpa using he
          go_upto_region 6 with (fail)
          go_quiet (fail)
          go_wp2
          refine ⟨⟨j + 2, m + nq, by omega, by omega, by go_num, ?_, by rw [← HW.out, World.drewN_drewN]⟩, by simp [intOf]; omega⟩
          have hlj : j + 1 < xs.length := by rw [HN.out]; exact hlt
          have a := HX1.out
          have b := HX0.out
          rw [List.getElem?_eq_getElem (by omega)] at a b
          injection a with a
          injection b with b
          rw [cpt_ne xs j hlj (by rw [a, b]; exact he), HCP.out, ← List.take_succ_eq_append_getElem hlj]
      · obtain rfl : k = n := by omega
        go_wp2
        go_ret
        have hE : cpt xs = xs := by have := HCP.out; rwa [List.take_of_length_le (by rw [HN.out]; omega)] at this
        exact ⟨xs, by rw [hE, HN.out]; rfl, HI.out.drewN m, by rw [hE, List.take_length], (Ch.refl _ _).drewN m⟩
end Go.Proofs.Ytljolgcmkejlnaa
