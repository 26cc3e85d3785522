/- Contracts of the parts of an epoch clock. -/
import Derived.Test.YtljolgcmkejlnaaClean
import Derived.Test.YtljolgcmkejlnaaDevP
namespace Go.Proofs.Ytljolgcmkejlnaa
open Go.RowKit
set_option linter.unusedVariables false

def packE (e : Int) : Int := 7309464666214760448 + e
theorem or_packE (e : Int) (h : 0 ≤ e ∧ e < 4294967296) : bits .or .u64 7309464666214760448 e = packE e := by
  obtain ⟨e', rfl⟩ := Int.eq_ofNat_of_zero_le h.1
  have hx : e' < 2 ^ 32 := by omega
  have h1 := bits_or_u64_nat 7309464666214760448 e' (by omega) (by omega)
  have h2 := Nat.two_pow_add_eq_or_of_lt hx 1701867363
  have h3 : 2 ^ 32 * 1701867363 = 7309464666214760448 := by decide
  rw [h3] at h2
  rw [← h2] at h1
  refine h1.trans ?_
  unfold packE; omega
theorem and_packE (e : Int) (h : 0 ≤ e ∧ e < 4294967296) : bits .and .u64 (packE e) 4294967295 = e := by
  obtain ⟨e', rfl⟩ := Int.eq_ofNat_of_zero_le h.1
  have h1 := bits_and_u64_nat (7309464666214760448 + e') 4294967295 (by omega) (by omega)
  have h2 := Nat.and_two_pow_sub_one_eq_mod (7309464666214760448 + e') 32
  rw [show 2 ^ 32 - 1 = 4294967295 by decide] at h2
  rw [h2] at h1
  have h3 : ((7309464666214760448 + e' : Nat) : Int) = packE (e' : Int) := by unfold packE; omega
  rw [h3] at h1
  refine h1.trans ?_
  omega
set_option maxRecDepth 100000 in
theorem ckPack (w : World) (e : Int) (h : 0 ≤ e ∧ e < 4294967296) : Calls Try.prog 43 #[.int .u64 e] w fun r w' => r = .returned (.int .u64 (packE e)) ∧ w = w' := by
  have HE := Lib.hid (or_packE e h)
  go_enter Try.func43, Try.ntmps43
  go_wp2
  go_ret
  exact ⟨ret_int HE.out, rfl⟩
set_option maxRecDepth 100000 in
theorem ckUnpack (w : World) (e : Int) (h : 1 ≤ e ∧ e ≤ 2147483647) : Calls Try.prog 51 #[.int .u64 (packE e)] w fun r w' => r = .returned (.tuple #[.int .u64 e, .bool true]) ∧ w = w' := by
  have h1 := and_packE e (by omega)
  have h2 : packE e / 4294967296 = 1701867363 := by unfold packE; omega
  obtain ⟨a, b⟩ := h
  have e1 : ¬ e < 1 := by omega
  have e2 : ¬ e > 2147483647 := by omega
  obtain ⟨p, hp⟩ : ∃ p, packE e = p := ⟨_, rfl⟩
  rw [hp] at h1 h2 ⊢
  have p0 : 0 ≤ p := by rw [← hp]; unfold packE; omega
  have p1 : p < 18446744073709551616 := by rw [← hp]; unfold packE; omega
  clear hp
  go_enter Try.func51, Try.ntmps51
  go_wp2
  go_ret2
  exact ⟨rfl, rfl⟩

set_option maxRecDepth 100000 in
theorem ckUnpack_zero (w : World) : Calls Try.prog 51 #[.int .u64 0] w fun r w' => r = .returned (.tuple #[.int .u64 0, .bool false]) ∧ w = w' := by
  go_enter Try.func51, Try.ntmps51
  go_wp2
  go_ret2
  exact ⟨rfl, rfl⟩

/-- The cells of a clock. -/
def clkCells (d : Nat) (off now : Int) (an : Nat → Int) : Array Value :=
  #[.pointer (some ⟨d, 0, none⟩), .int .u64 off, .int .u64 now, .int .u64 (an 0), .int .u64 (an 1), .int .u64 (an 2), .int .u64 (an 3), .int .u64 (an 4), .int .u64 (an 5), .int .u64 (an 6), .int .u64 (an 7)]
def Clk (w : World) (c d : Nat) (off now : Int) (an : Nat → Int) : Prop := CB w c 75 (clkCells d off now an)
theorem clk_an (d : Nat) (off now : Int) (an : Nat → Int) {i : Nat} (hi : i < 8) : (clkCells d off now an)[3 + i]? = some (.int .u64 (an i)) := by
  have : i = 0 ∨ i = 1 ∨ i = 2 ∨ i = 3 ∨ i = 4 ∨ i = 5 ∨ i = 6 ∨ i = 7 := by omega
  rcases this with rfl | rfl | rfl | rfl | rfl | rfl | rfl | rfl <;> rfl
def setAn (an : Nat → Int) (i : Nat) (e : Int) : Nat → Int := fun j => if j = i then e else an j
theorem clk_set (d : Nat) (off now : Int) (an : Nat → Int) {i : Nat} (hi : i < 8) (e : Int) : (clkCells d off now an).setIfInBounds (3 + i) (.int .u64 e) = clkCells d off now (setAn an i e) := by
  have : i = 0 ∨ i = 1 ∨ i = 2 ∨ i = 3 ∨ i = 4 ∨ i = 5 ∨ i = 6 ∨ i = 7 := by omega
  rcases this with rfl | rfl | rfl | rfl | rfl | rfl | rfl | rfl <;> rfl
section
variable {w w' : World} {c d : Nat} {off now : Int} {an : Nat → Int}
theorem Clk.c0 (h : Clk w c d off now an) : w.cell? ⟨c, 0, none⟩ = some (.pointer (some ⟨d, 0, none⟩)) := CB.cell h 0
theorem Clk.c1 (h : Clk w c d off now an) : w.cell? ⟨c, 1, none⟩ = some (.int .u64 off) := CB.cell h 1
theorem Clk.c2 (h : Clk w c d off now an) : w.cell? ⟨c, 2, none⟩ = some (.int .u64 now) := CB.cell h 2
theorem Clk.ca (h : Clk w c d off now an) {i : Nat} (hi : i < 8) : w.cell? ⟨c, 3 + i, none⟩ = some (.int .u64 (an i)) := (CB.cell h (3 + i)).trans (clk_an d off now an hi)
theorem Clk.lt (h : Clk w c d off now an) : c < w.heap.size := CB.lt h
theorem Clk.ch {S : Nat → Prop} (h : Clk w c d off now an) (hc : Ch S w w') (hS : ¬ S c) : Clk w' c d off now an := CB.ch h hc hS
end

/-- A clock with epoch e at line q of a device whose stores are all persistent. -/
structure Ep (F : Nat → Prop) (d : Nat) (t : Nat → Nat) (c : Nat) (w : World) (S : DevS) (n q : Nat) (xs : List Int) (e : Int) (an : Nat → Int) (N : Nat) : Prop where
  dv : DV F d t w S
  cl : Clean S n xs N
  ck : Clk w c d (64 * (q : Int)) e an
  nf : ¬ F c
  hq : q < n
  hn : n ≤ 4096
  wd : xs[8 * q]? = some (packE e)
  he : 1 ≤ e ∧ e ≤ 2147483647

section
variable {F : Nat → Prop} {d : Nat} {t : Nat → Nat} {c : Nat} {w : World} {S : DevS} {n q : Nat} {xs : List Int} {e : Int} {an : Nat → Int} {N : Nat}
theorem loadV (h : DV F d t w S) (i : Nat) (hi : i < 8) (hO : S.off = false) (k : Nat) (v : Int) (hk : S.cur[k]? = some v) :
    Calls Try.prog 42 #[.pointer (some ⟨t i, 0, none⟩), .int .u64 (8 * (k : Int))] w fun e w' => e = .returned (.int .u64 v) ∧ w = w' := by
  obtain ⟨_, L, rfl, h3, _⟩ := h
  obtain ⟨hl, hv⟩ := List.getElem?_eq_some_iff.1 hk
  have := thLoad_ok w d L S h3 i hi hO k hl
  rwa [hv] at this
theorem errV (h : DV F d t w S) (i : Nat) (hi : i < 8) : Calls Try.prog 36 #[.pointer (some ⟨t i, 0, none⟩)] w fun e w' => e = .returned (.int .i64 (S.thr i).err) ∧ w = w' := by
  obtain ⟨_, L, rfl, h3, _⟩ := h
  exact thErr w d L S h3 i hi
theorem threadV (h : DV F d t w S) (i : Nat) (hi : i < 8) : Calls Try.prog 26 #[.pointer (some ⟨d, 0, none⟩), .int .i64 (i : Int)] w fun e w' => e = .returned (.pointer (some ⟨t i, 0, none⟩)) ∧ w = w' := by
  obtain ⟨_, L, rfl, h3, _⟩ := h
  exact devThread w d L S h3 i hi

set_option maxRecDepth 100000 in
set_option maxHeartbeats 1000000 in
/-- present, when the first word of the clock's line is v. -/
theorem ckPresent (h : DV F d t w S) (hcl : Clean S n xs N) (hck : Clk w c d (64 * (q : Int)) e an) (hn : n ≤ 4096) (hq : q < n) (i : Nat) (hi : i < 8) (ep : Int) (hv : xs[8 * q]? = some (packE ep)) (hep : 1 ≤ ep ∧ ep ≤ 2147483647) :
    Calls Try.prog 37 #[.pointer (some ⟨c, 0, none⟩), .pointer (some ⟨t i, 0, none⟩)] w fun r w' => r = .returned (.tuple #[.int .u64 ep, .int .i64 0]) ∧ w = w' := by
  have HL : Hid (Calls Try.prog 42 #[.pointer (some ⟨t i, 0, none⟩), .int .u64 (64 * (q : Int))] w fun e w' => e = .returned (.int .u64 (packE ep)) ∧ w = w') := by
    have := loadV h i hi hcl.off (8 * q) (packE ep) (by rw [hcl.cur]; exact hv)
    rwa [show (8 * ((8 * q : Nat) : Int)) = 64 * (q : Int) by omega] at this
  have HER : Hid (Calls Try.prog 36 #[.pointer (some ⟨t i, 0, none⟩)] w fun e w' => e = .returned (.int .i64 0) ∧ w = w') := by
    have := errV h i hi
    rwa [hcl.err i] at this
  have c1 := hck.c1
  have hl := hck.lt
  clear h hcl hck hv
  go_enter Try.func37, Try.ntmps37
  go_wp2_with (first | (go_at_call 42; refine HL.out.mono ?_; rintro e w' ⟨rfl, rfl⟩) | (go_at_call 36; refine HER.out.mono ?_; rintro e w' ⟨rfl, rfl⟩) | (go_at_call 51; refine (ckUnpack _ ep hep).mono ?_; rintro e w' ⟨rfl, rfl⟩))
  go_ret2
  exact ⟨rfl, rfl⟩
set_option maxRecDepth 100000 in
set_option maxHeartbeats 1000000 in
theorem ckPresent_zero (h : DV F d t w S) (hcl : Clean S n xs N) (hck : Clk w c d (64 * (q : Int)) e an) (hn : n ≤ 4096) (hq : q < n) (i : Nat) (hi : i < 8) (hv : xs[8 * q]? = some 0) :
    Calls Try.prog 37 #[.pointer (some ⟨c, 0, none⟩), .pointer (some ⟨t i, 0, none⟩)] w fun r w' => r = .returned (.tuple #[.int .u64 0, .int .i64 11]) ∧ w = w' := by
  have HL : Hid (Calls Try.prog 42 #[.pointer (some ⟨t i, 0, none⟩), .int .u64 (64 * (q : Int))] w fun e w' => e = .returned (.int .u64 0) ∧ w = w') := by
    have := loadV h i hi hcl.off (8 * q) 0 (by rw [hcl.cur]; exact hv)
    rwa [show (8 * ((8 * q : Nat) : Int)) = 64 * (q : Int) by omega] at this
  have HER : Hid (Calls Try.prog 36 #[.pointer (some ⟨t i, 0, none⟩)] w fun e w' => e = .returned (.int .i64 0) ∧ w = w') := by
    have := errV h i hi
    rwa [hcl.err i] at this
  have c1 := hck.c1
  have hl := hck.lt
  clear h hcl hck hv
  go_enter Try.func37, Try.ntmps37
  go_wp2_with (first | (go_at_call 42; refine HL.out.mono ?_; rintro e w' ⟨rfl, rfl⟩) | (go_at_call 36; refine HER.out.mono ?_; rintro e w' ⟨rfl, rfl⟩) | (go_at_call 51; refine (ckUnpack_zero _).mono ?_; rintro e w' ⟨rfl, rfl⟩))
  go_ret2
  exact ⟨rfl, rfl⟩
set_option maxRecDepth 100000 in
set_option maxHeartbeats 1000000 in
theorem ckCheck (h : Ep F d t c w S n q xs e an N) (i : Nat) (hi : i < 8) :
    Calls Try.prog 38 #[.pointer (some ⟨c, 0, none⟩), .int .i64 (i : Int)] w fun r w' => r = .returned (.tuple #[.pointer (some ⟨t i, 0, none⟩), .int .u64 e, .int .i64 0]) ∧ w = w' := by
  have HT := Lib.hid (threadV h.dv i hi)
  have HER : Hid (Calls Try.prog 36 #[.pointer (some ⟨t i, 0, none⟩)] w fun e w' => e = .returned (.int .i64 0) ∧ w = w') := by
    have := errV h.dv i hi
    rwa [h.cl.err i] at this
  have HP := Lib.hid (ckPresent h.dv h.cl h.ck h.hn h.hq i hi e h.wd h.he)
  have c0 := h.ck.c0
  have hl := h.ck.lt
  have h8 : ¬ (8 : Int) ≤ (i : Int) := by omega
  clear h
  go_enter Try.func38, Try.ntmps38
  go_wp2_with (first | (go_at_call 26; refine HT.out.mono ?_; rintro e w' ⟨rfl, rfl⟩) | (go_at_call 36; refine HER.out.mono ?_; rintro e w' ⟨rfl, rfl⟩) | (go_at_call 37; refine HP.out.mono ?_; rintro e w' ⟨rfl, rfl⟩))
  go_ret3
  exact ⟨rfl, rfl⟩
end
set_option maxRecDepth 100000 in
set_option maxHeartbeats 1000000 in
theorem ckCheck_bad (w : World) (p : Option Addr) (z : Int) (hz : p = none ∨ z < 0 ∨ 8 ≤ z) :
    Calls Try.prog 38 #[.pointer p, .int .i64 z] w fun r w' => r = .returned (.tuple #[.pointer none, .int .u64 0, .int .i64 1]) ∧ w = w' := by
  cases p with
  | none =>
    go_enter Try.func38, Try.ntmps38
    go_wp2
    go_ret3
    exact ⟨rfl, rfl⟩
  | some p =>
    have hz : z < 0 ∨ 8 ≤ z := by rcases hz with h | h; cases h; exact h
    rcases hz with h | h
    · go_enter Try.func38, Try.ntmps38
      go_wp2
      go_ret3
      exact ⟨rfl, rfl⟩
    · have h0 : ¬ z < 0 := by omega
      go_enter Try.func38, Try.ntmps38
      go_wp2
      go_ret3
      exact ⟨rfl, rfl⟩
end Go.Proofs.Ytljolgcmkejlnaa
