/- Contract of the function that notes bits in masks (Change). -/
import Derived.Test.YtbhkdngbgokilaaDoorBmC
namespace Go.Proofs.YtbhkdngbgokilaaDoor
open Go.RowKit
set_option linter.unusedVariables false

theorem range_all_step (p : Nat → Bool) (k : Nat) : (List.range (k + 1)).all p = ((List.range k).all p && p k) := by simp [List.range_succ]
theorem range_all_false {p : Nat → Bool} {k n : Nat} (hk : k < n) (h : p k = false) : (List.range n).all p = false := by
  rw [List.all_eq_false]; exact ⟨k, by simpa using hk, by simp [h]⟩
/-- Eight masks. -/
def a8 (f : Nat → Int) : Array Value := #[.int .u64 (f 0), .int .u64 (f 1), .int .u64 (f 2), .int .u64 (f 3), .int .u64 (f 4), .int .u64 (f 5), .int .u64 (f 6), .int .u64 (f 7)]
theorem a8_get (f : Nat → Int) {i : Nat} (hi : i < 8) : (a8 f)[i]? = some (.int .u64 (f i)) := by
  have : i = 0 ∨ i = 1 ∨ i = 2 ∨ i = 3 ∨ i = 4 ∨ i = 5 ∨ i = 6 ∨ i = 7 := by omega
  rcases this with rfl | rfl | rfl | rfl | rfl | rfl | rfl | rfl <;> rfl
def set8 (f : Nat → Int) (i : Nat) (v : Int) : Nat → Int := fun j => if j = i then v else f j
theorem a8_set (f : Nat → Int) {i : Nat} (hi : i < 8) (v : Int) : (a8 f).setIfInBounds i (.int .u64 v) = a8 (set8 f i v) := by
  have : i = 0 ∨ i = 1 ∨ i = 2 ∨ i = 3 ∨ i = 4 ∨ i = 5 ∨ i = 6 ∨ i = 7 := by omega
  rcases this with rfl | rfl | rfl | rfl | rfl | rfl | rfl | rfl <;> rfl
/-- The masks of those bits. -/
def Msk (f : Nat → Int) (l : List Nat) : Prop := ∀ q, q < 8 → (0 ≤ f q ∧ f q < 18446744073709551616) ∧ ∀ m, m < 64 → (f q).toNat.testBit m = decide (64 * q + m ∈ l)
theorem Msk.zero : Msk (fun _ => 0) [] := fun q hq => ⟨⟨Int.le_refl _, by show (0 : Int) < _; decide⟩, fun m hm => by simp⟩
theorem bit_or (x s : Nat) (hx : x < 18446744073709551616) (hs : s < 64) : bits .or .u64 (x : Int) ((2 ^ s : Nat) : Int) = ((x ||| 2 ^ s : Nat) : Int) ∧ (x ||| 2 ^ s) < 18446744073709551616 := by
  have h64 : 2 ^ s < 2 ^ 64 := Nat.pow_lt_pow_right (by omega) hs
  exact ⟨bits_or_u64_nat _ _ hx (by omega), Nat.or_lt_two_pow (n := 64) (by omega) h64⟩
theorem Msk.add {f : Nat → Int} {l : List Nat} (h : Msk f l) {j : Nat} (hj : j < 512) : Msk (set8 f (j / 64) (bits .or .u64 (f (j / 64)) ((2 ^ (j % 64) : Nat) : Int))) (l ++ [j]) := by
  intro q hq
  by_cases hqj : q = j / 64
  · subst hqj
    obtain ⟨hr, hb⟩ := h (j / 64) hq
    obtain ⟨x, hx⟩ := Int.eq_ofNat_of_zero_le hr.1
    rw [hx, Int.toNat_natCast] at hb
    rw [hx] at hr
    obtain ⟨e1, e2⟩ := bit_or x (j % 64) (by omega) (by omega)
    simp only [set8, if_true, hx]
    rw [e1]
    refine ⟨by omega, fun m hm => ?_⟩
    rw [Int.toNat_natCast, Nat.testBit_or, hb m hm, Nat.testBit_two_pow]
    by_cases h1 : j % 64 = m
    · have : 64 * (j / 64) + m = j := by omega
      simp [h1, this]
    · have : ¬ 64 * (j / 64) + m = j := by omega
      simp [h1, this]
  · simp only [set8, if_neg hqj]
    obtain ⟨hr, hb⟩ := h q hq
    refine ⟨hr, fun m hm => ?_⟩
    have : ¬ 64 * q + m = j := by omega
    rw [hb m hm]; simp [this]
/-- Is a bit among the noted ones? -/
theorem noted {f g : Nat → Int} {P Q : List Nat} (hP : Msk f P) (hQ : Msk g Q) {j : Nat} (hj : j < 512) :
    (bits .and .u64 (bits .or .u64 (f (j / 64)) (g (j / 64))) ((2 ^ (j % 64) : Nat) : Int) != 0) = decide (j ∈ P ++ Q) := by
  obtain ⟨hr, hb⟩ := hP (j / 64) (by omega)
  obtain ⟨hr2, hb2⟩ := hQ (j / 64) (by omega)
  obtain ⟨x, hx⟩ := Int.eq_ofNat_of_zero_le hr.1
  obtain ⟨y, hy⟩ := Int.eq_ofNat_of_zero_le hr2.1
  have hb := hb (j % 64) (by omega)
  have hb2 := hb2 (j % 64) (by omega)
  rw [hx] at hr hb ⊢
  rw [hy] at hr2 hb2 ⊢
  rw [Int.toNat_natCast, show 64 * (j / 64) + j % 64 = j by omega] at hb hb2
  have h64 : 2 ^ (j % 64) < 2 ^ 64 := Nat.pow_lt_pow_right (by omega) (by omega)
  rw [bits_or_u64_nat x y (by omega) (by omega), bits_and_u64_nat _ _ (Nat.or_lt_two_pow (n := 64) (by omega) (by omega)) (by omega), nat_bit]
  have h1 : (x ||| y).testBit (j % 64) = decide (j ∈ P ++ Q) := by
    rw [Nat.testBit_or, hb, hb2]; simp
  rw [← h1, Nat.testBit_eq_decide_div_mod_eq]
  have hpos := Nat.two_pow_pos (j % 64)
  generalize 2 ^ (j % 64) = p at *
  by_cases h : (x ||| y) / p % 2 = 1
  · rw [h, Nat.one_mul]; simp; omega
  · have h0 : (x ||| y) / p % 2 = 0 := by omega
    rw [h0]; simp
/-- Is index k of a list one that can be noted? -/
def okP (n : Nat) (S : List Nat) (l : List Int) (k : Nat) : Bool := decide (0 ≤ l[k]?.getD 0) && (decide (l[k]?.getD 0 < (n : Int)) && !decide ((l[k]?.getD 0).toNat ∈ S ++ (l.take k).map Int.toNat))
def okL (n : Nat) (S : List Nat) (l : List Int) : Bool := (List.range l.length).all (okP n S l)
def onB (b : Bool) (P L : List Nat) : List Nat := if b then P ++ L else P
theorem mem_onB (b : Bool) (P Q L : List Nat) (j : Nat) : j ∈ onB b P L ++ onB (!b) Q L ↔ j ∈ (P ++ Q) ++ L := by
  cases b
  · simp [onB]
  · simp only [onB, if_true, Bool.not_true, if_false, Bool.false_eq_true, List.mem_append]
    constructor
    · rintro ((h | h) | h)
      · exact .inl (.inl h)
      · exact .inr h
      · exact .inl (.inr h)
    · rintro ((h | h) | h)
      · exact .inl (.inl h)
      · exact .inr h
      · exact .inl (.inr h)
/-- Beside the loop of note. -/
def NoInv (w : World) (gon goff : Nat) (b : Bool) (P Q L : List Nat) (wr : World) : Prop :=
  ∃ f g, CB wr gon 79 (a8 f) ∧ CB wr goff 79 (a8 g) ∧ Msk f (onB b P L) ∧ Msk g (onB (!b) Q L) ∧ Ch (At (if b then gon else goff)) w wr

set_option maxRecDepth 100000 in
set_option maxHeartbeats 4000000 in
theorem bmNote (w : World) (A : Option Addr) (n0 c : Nat) (l : List Int) (hl : l.length = n0) (hn0 : n0 ≤ 9223372036854775807) (hR : Rd .i64 w A l) (T : Nat) (off : Int) (n : Nat) (hn : n ≤ 512) (gb gon goff : Nat)
    (hbx : CB w gb 36 #[.iface 28 (.pointer (some ⟨T, 0, none⟩)), .int .u64 off, .int .i64 n]) (f g : Nat → Int) (hOn : CB w gon 79 (a8 f)) (hOff : CB w goff 79 (a8 g)) (h1 : gon ≠ goff) (h2 : gb ≠ gon) (h3 : gb ≠ goff)
    (hA : l ≠ [] → ∀ b, OwnB A b → b ≠ gon ∧ b ≠ goff) (b : Bool) (P Q : List Nat) (hP : Msk f P) (hQ : Msk g Q) :
    Calls Tryd.prog 38 #[.slice A n0 c, .pointer (some ⟨(if b then gon else goff), 0, none⟩), .pointer (some ⟨gb, 0, none⟩), .pointer (some ⟨gon, 0, none⟩), .pointer (some ⟨goff, 0, none⟩)] w fun e w' =>
      e = .returned (.bool (okL n (P ++ Q) l)) ∧ (okL n (P ++ Q) l = true → NoInv w gon goff b P Q (l.map Int.toNat) w') ∧ Ch (At (if b then gon else goff)) w w' := by
  have HR := Lib.hid hR
  have HL := Lib.hid hl
  have HA := Lib.hid hA
  have HBX := Lib.hid hbx
  have HI0 : Hid (NoInv w gon goff b P Q [] w) := ⟨f, g, hOn, hOff, by cases b <;> simpa [onB] using hP, by cases b <;> simpa [onB] using hQ, Ch.refl _ _⟩
  have htg : gb ≠ (if b then gon else goff) := by split <;> assumption
  have hgl := hOn.lt
  have hfl := hOff.lt
  clear hR hl hA hbx hOn hOff hP hQ
  obtain ⟨tg, htge⟩ : ∃ tg, (if b then gon else goff) = tg := ⟨_, rfl⟩
  rw [htge] at htg
  have HTG := Lib.hid htge
  rw [htge]
  clear htge
  go_enter Tryd.func38, Tryd.ntmps38
  go_wp2
  go_loopw [14, 7, 9, 10, 11, 15, 16, 17, 18, 19, 20, 21, 22, 23, 24, 25, 26, 27, 28, 29, 30, 31, 32, 33, 34, 35, 36, 37, 38, 39, 40, 41, 42, 43, 44, 45, 46, 47, 48, 49, 50, 51] (fun i _ _ _ _ _ _ _ _ _ _ _ _ _ _ _ _ _ _ _ _ _ _ _ _ _ _ _ _ _ _ _ _ _ _ _ _ _ _ _ _ _ wr => ∃ k : Nat, k ≤ n0 ∧ i = .int .i64 k ∧ (List.range k).all (okP n (P ++ Q) l) = true ∧ NoInv w gon goff b P Q ((l.take k).map Int.toNat) wr) (fun i _ _ _ _ _ _ _ _ _ _ _ _ _ _ _ _ _ _ _ _ _ _ _ _ _ _ _ _ _ _ _ _ _ _ _ _ _ _ _ _ _ _ => n0 - (intOf i).toNat)
  case atStart => exact ⟨0, by omega, rfl, rfl, by simpa using HI0.out⟩
  case round =>
    clear HI0
    obtain ⟨k, hk, rfl, hall, fo, ff, hOn, hOff, hMo, hMf, hCh⟩ := hrel
    rw [HTG.out] at hCh
    have HAL := Lib.hid hall
    have HCH := Lib.hid hCh
    by_cases hlt : k < n0
    · have hkl : k < l.length := by rw [HL.out]; exact hlt
      obtain ⟨b1, o1, hA1, hb1, hc1⟩ := HR.out.at_ hkl
      have hbne := HA.out (by intro h; rw [h] at hkl; simp at hkl) b1 (by rw [hA1]; simp [OwnB])
      have hb1t : b1 ≠ tg := by rw [← HTG.out]; split; exact hbne.1; exact hbne.2
      have hc1' : wr.cell? ⟨b1, o1 + k, none⟩ = some (.int .i64 l[k]) := (hCh.cells b1 _ hb1 hb1t).trans hc1
      have hb1' : b1 < wr.heap.size := Nat.lt_of_lt_of_le hb1 hCh.size
      have hbx := HBX.out.ch hCh htg
      have cb2 := hbx.cell 2
      have cbl := hbx.lt
      have hlk : l[k]?.getD 0 = l[k] := by rw [List.getElem?_eq_getElem hkl]; rfl
      have HTK : Hid ((l.take (k + 1)).map Int.toNat = (l.take k).map Int.toNat ++ [(l[k]).toNat]) := by show _ = _; rw [List.take_succ_eq_append_getElem hkl, List.map_append]; rfl
      obtain ⟨i, hi⟩ : ∃ i, l[k] = i := ⟨_, rfl⟩
      rw [hi] at hc1' hlk HTK
      subst hA1
      clear hi hc1 hbne
      by_cases hi0 : i < 0
      · have HF : Hid (okL n (P ++ Q) l = false) := range_all_false hkl (by unfold okP; rw [hlk, decide_eq_false (by omega)]; rfl)
        clear hall hOn hOff hMo hMf hCh hbx
        go_wp2
        go_ret
        rw [HF.out]
        exact ⟨rfl, (fun h => by cases h), HCH.out⟩
      · by_cases hin : i ≥ (n : Int)
        · have HF : Hid (okL n (P ++ Q) l = false) := range_all_false hkl (by unfold okP; rw [hlk, decide_eq_false (p := i < (n : Int)) (by omega)]; simp)
          clear hall hOn hOff hMo hMf hCh hbx
          go_wp2
          go_ret
          rw [HF.out]
          exact ⟨rfl, (fun h => by cases h), HCH.out⟩
        · obtain ⟨j, rfl⟩ := Int.eq_ofNat_of_zero_le (show 0 ≤ i by omega)
          have hj : j < 512 := by omega
          have hj8 : j / 64 < 8 := by omega
          have con : wr.cell? ⟨gon, j / 64, none⟩ = some (.int .u64 (fo (j / 64))) := (hOn.cell _).trans (a8_get fo hj8)
          have cof : wr.cell? ⟨goff, j / 64, none⟩ = some (.int .u64 (ff (j / 64))) := (hOff.cell _).trans (a8_get ff hj8)
          have fon := hOn.frozen (j / 64)
          have fof := hOff.frozen (j / 64)
          have onl := hOn.lt
          have ofl := hOff.lt
          have hnt := noted hMo hMf hj
          have hpc : ((2 ^ (j % 64) : Nat) : Int) = (2 : Int) ^ (j % 64) := Int.natCast_pow 2 _
          have HADO := Lib.hid (fun (_ : Unit) => hMo.add hj)
          have HADF := Lib.hid (fun (_ : Unit) => hMf.add hj)
          rw [hpc] at hnt HADO HADF
          have hb64 : (j / 64 : Nat) < 8 := hj8
          have hw3 : IntKind.u64.wrap (2 ^ (j % 64)) = 2 ^ (j % 64) := by
            have h64 : 2 ^ (j % 64) < 2 ^ 64 := Nat.pow_lt_pow_right (by omega) (by omega)
            rw [← hpc]
            generalize 2 ^ (j % 64) = p at *
            exact IntWalk.u64_in _ (by omega)
          clear hpc
          have hmem : decide (j ∈ onB b P ((l.take k).map Int.toNat) ++ onB (!b) Q ((l.take k).map Int.toNat)) = decide (j ∈ (P ++ Q) ++ (l.take k).map Int.toNat) := by
            rw [decide_eq_decide]; exact mem_onB _ _ _ _ _
          rw [hmem] at hnt
          by_cases hmm : j ∈ (P ++ Q) ++ (l.take k).map Int.toNat
          · have HF : Hid (okL n (P ++ Q) l = false) := range_all_false hkl (by unfold okP; rw [hlk, Int.toNat_natCast, decide_eq_true hmm]; simp)
            rw [decide_eq_true hmm] at hnt
            clear hall hOn hOff hMo hMf hCh hbx hmm hmem
            go_upto_region 7 with (fail)
            refine wp_region_quiet_lit (by kernel_rfl) (by kernel_rfl) ?_
            repeat (go_big_quiet_step (fail))
            refine wpQuiet_nil ?_
            rintro _ ⟨nq, rfl⟩
            go_wp2
            go_ret
            rw [HF.out]
            exact ⟨rfl, (fun h => by cases h), HCH.out.drewN nq⟩
          · have HOK : Hid ((List.range (k + 1)).all (okP n (P ++ Q) l) = true) := by
              show _ = _
              rw [range_all_step, HAL.out, Bool.true_and]
              unfold okP
              rw [hlk, Int.toNat_natCast, decide_eq_false hmm, decide_eq_true (by omega), decide_eq_true (by omega)]
              rfl
            rw [decide_eq_false hmm] at hnt
            rw [Int.toNat_natCast] at HTK
            have HON := Lib.hid hOn
            have HOF := Lib.hid hOff
            have HMO := Lib.hid hMo
            have HMF := Lib.hid hMf
            clear hall hOn hOff hMo hMf hCh hbx hmm hmem
            go_upto_region 7 with (fail)
            refine wp_region_quiet_lit (by kernel_rfl) (by kernel_rfl) ?_
            repeat (go_big_quiet_step (fail))
            refine wpQuiet_nil ?_
            rintro _ ⟨nq, rfl⟩
            go_upto_region 9 with (fail)
            have hn1 := HON.out.drewN nq
            have hn2 := HOF.out.drewN nq
            have hn3 := HCH.out.drewN nq
            obtain ⟨Z, hZ⟩ : ∃ Z, wr.drewN nq = Z := ⟨_, rfl⟩
            rw [hZ] at hn1 hn2 hn3
            rw [hZ]
            clear hZ con cof fon fof onl ofl cb2 cbl
            have con := (hn1.cell (j / 64)).trans (a8_get fo hj8)
            have cof := (hn2.cell (j / 64)).trans (a8_get ff hj8)
            have fon := hn1.frozen (j / 64)
            have fof := hn2.frozen (j / 64)
            have onl := hn1.lt
            have ofl := hn2.lt
            have HN1 := Lib.hid hn1
            have HN2 := Lib.hid hn2
            have HN3 := Lib.hid hn3
            clear hn1 hn2 hn3
            cases b with
            | true =>
              obtain rfl : gon = tg := HTG.out
              refine wp_region_still_n 9 (by kernel_rfl) (by kernel_rfl) ?_
              simp only [List.take_succ_cons, List.take_zero, List.drop_succ_cons, List.drop_zero]
              repeat (go_big_quiet_step (fail))
              refine wpQuiet_nil ?_
              rintro _ ⟨nq2, rfl⟩
              go_wp2
              refine ⟨⟨k + 1, by omega, by go_num, HOK.out, set8 fo (j / 64) (bits .or .u64 (fo (j / 64)) (2 ^ (j % 64))), ff, ?_, ?_, ?_, ?_, ?_⟩, by simp [intOf]; omega⟩
              · rw [← a8_set fo hj8]; exact (HN1.out.drewN nq2).set (j / 64) _
              · exact (HN2.out.drewN nq2).far (p := ⟨gon, j / 64, none⟩) (fun h => h1 h.symm) _
              · have := HADO.out ()
                rw [HTK.out]
                simpa [onB] using this
              · have := HMF.out
                simpa [onB] using this
              · exact (HN3.out.drewN nq2).set1 (j / 64) _
            | false =>
              obtain rfl : goff = tg := HTG.out
              refine wp_region_still_n 9 (by kernel_rfl) (by kernel_rfl) ?_
              simp only [List.take_succ_cons, List.take_zero, List.drop_succ_cons, List.drop_zero]
              repeat (go_big_quiet_step (fail))
              refine wpQuiet_nil ?_
              rintro _ ⟨nq2, rfl⟩
              go_wp2
              refine ⟨⟨k + 1, by omega, by go_num, HOK.out, fo, set8 ff (j / 64) (bits .or .u64 (ff (j / 64)) (2 ^ (j % 64))), ?_, ?_, ?_, ?_, ?_⟩, by simp [intOf]; omega⟩
              · exact (HN1.out.drewN nq2).far (p := ⟨goff, j / 64, none⟩) h1 _
              · rw [← a8_set ff hj8]; exact (HN2.out.drewN nq2).set (j / 64) _
              · have := HMO.out
                simpa [onB] using this
              · have := HADF.out ()
                rw [HTK.out]
                simpa [onB] using this
              · exact (HN3.out.drewN nq2).set1 (j / 64) _
    · obtain rfl : k = n0 := by omega
      have HF : Hid (okL n (P ++ Q) l = true) := by show _ = _; unfold okL; rw [HL.out]; exact HAL.out
      have HE : Hid (NoInv w gon goff b P Q (l.map Int.toNat) wr) := by
        refine ⟨fo, ff, hOn, hOff, ?_, ?_, by rw [HTG.out]; exact HCH.out⟩
        · rwa [List.take_of_length_le (by rw [HL.out]; omega)] at hMo
        · rwa [List.take_of_length_le (by rw [HL.out]; omega)] at hMf
      clear hall hOn hOff hMo hMf hCh
      go_wp2
      go_ret
      rw [HF.out]
      exact ⟨rfl, fun _ => HE.out, HCH.out⟩
end Go.Proofs.YtbhkdngbgokilaaDoor
