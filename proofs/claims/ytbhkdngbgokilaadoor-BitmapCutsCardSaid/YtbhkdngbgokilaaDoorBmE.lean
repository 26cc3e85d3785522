/- Contract of Change of a bitmap. -/
import Derived.Test.YtbhkdngbgokilaaDoorBmD
namespace Go.Proofs.YtbhkdngbgokilaaDoor
open Go.RowKit
set_option linter.unusedVariables false

theorem two_one (a b : Int) : ∀ u ∈ ([.int .u64 a, .int .u64 b] : List Value), u.oneCell' = true := by
  intro u hu
  simp only [List.mem_cons, List.not_mem_nil, or_false] at hu
  rcases hu with rfl | rfl <;> rfl
/-- Is word k changed? its new value; can the bits be changed? -/
def touB (f g : Nat → Int) (k : Nat) : Bool := bits .or .u64 (f k) (g k) != 0
def newV (v : Int) (f g : Nat → Int) (k : Nat) : Int := bits .or .u64 (bits .andNot .u64 v (g k)) (f k)
def fitB (v : Int) (f g : Nat → Int) (k : Nat) : Bool := !(bits .and .u64 v (f k) != 0) && !(bits .and .u64 ((18446744073709551615 - v.toNat : Nat) : Int) (g k) != 0)
def chOne (ws : List Int) (a : Nat) (f g : Nat → Int) (k : Nat) : List (Int × Int) := if touB f g k then [(8 * ((a + k : Nat) : Int), newV (ws[k]?.getD 0) f g k)] else []
/-- The writes of the first k words. -/
def chL (ws : List Int) (a : Nat) (f g : Nat → Int) (k : Nat) : List (Int × Int) := (List.range k).flatMap (chOne ws a f g)
def chF (ws : List Int) (f g : Nat → Int) (k : Nat) : Bool := (List.range k).all fun q => !touB f g q || fitB (ws[q]?.getD 0) f g q
theorem chL_step (ws : List Int) (a : Nat) (f g : Nat → Int) (k : Nat) : chL ws a f g (k + 1) = chL ws a f g k ++ chOne ws a f g k := by simp [chL, List.range_succ]
theorem chF_step (ws : List Int) (f g : Nat → Int) (k : Nat) : chF ws f g (k + 1) = (chF ws f g k && (!touB f g k || fitB (ws[k]?.getD 0) f g k)) := by simp [chF, List.range_succ]
theorem chL_le (ws : List Int) (a : Nat) (f g : Nat → Int) : ∀ k, (chL ws a f g k).length ≤ k := by
  intro k
  induction k with
  | zero => exact Nat.le_refl _
  | succ k ih =>
    rw [chL_step, List.length_append]
    unfold chOne
    split <;> simp <;> omega
/-- What Change leaves, when all of the bits are bits of the bitmap, each named once. -/
def ChPost (w : World) (ws : List Int) (a n : Nat) (f g : Nat → Int) (e : Ending) (w' : World) : Prop :=
  Below w.heap.size w w' ∧
  ((chF ws f g ((n + 63) / 64) = false ∧ e = .returned (.tuple #[.slice none 0 0, .int .i64 8])) ∨
   (chF ws f g ((n + 63) / 64) = true ∧ ∃ A c, e = .returned (.tuple #[.slice A (chL ws a f g ((n + 63) / 64)).length c, .int .i64 0]) ∧ Sl 47 2 w' A (chL ws a f g ((n + 63) / 64)).length c (wcells (chL ws a f g ((n + 63) / 64))) ∧ ∀ b, OwnB A b → w.heap.size ≤ b))

/-- The world in which Change's notes are made. -/
def chW0 (w : World) (T : Nat) (off n : Int) : World := ((w.alloc (.cells #[.iface 28 (.pointer (some ⟨T, 0, none⟩)), .int .u64 off, .int .i64 n] 36)).alloc (.cells (a8 (fun _ => 0)) 79)).alloc (.cells (a8 (fun _ => 0)) 79)
theorem chW0_below (w : World) (T : Nat) (off n : Int) : Below w.heap.size w (chW0 w T off n) := by unfold chW0; (repeat (first | with_reducible exact Below.refl _ _ | with_reducible refine bl_alloc ?_ _ | with_reducible refine bl_drew ?_ | with_reducible refine bl_drewN ?_ _ | with_reducible refine bl_bx ?_ _ | with_reducible exact BX.below _ | with_reducible refine bl_set ?_ (by first | (exact Nat.le_refl _) | (simp; done) | (simp; omega)) _ | assumption))
theorem rd_own {w : World} {A : Option Addr} {l : List Int} (h : Rd .i64 w A l) (hne : l ≠ []) : ∀ b, OwnB A b → b < w.heap.size := by
  intro b hb
  rcases h with h | ⟨b', o, rfl, hlt, _⟩
  · exact absurd h hne
  · have : b' = b := by simpa [OwnB] using hb
    omega
theorem chNote1 (w : World) (A : Option Addr) (n0 c : Nat) (l : List Int) (hl : l.length = n0) (hn0 : n0 ≤ 9223372036854775807) (hR : Rd .i64 w A l) (T : Nat) (off : Int) (n : Nat) (hn : n ≤ 512) :
    Calls Tryd.prog 38 #[.slice A n0 c, .pointer (some ⟨w.heap.size + 1, 0, none⟩), .pointer (some ⟨w.heap.size, 0, none⟩), .pointer (some ⟨w.heap.size + 1, 0, none⟩), .pointer (some ⟨w.heap.size + 1 + 1, 0, none⟩)] (chW0 w T off n) fun e w' =>
      e = .returned (.bool (okL n [] l)) ∧ (okL n [] l = true → NoInv (chW0 w T off n) (w.heap.size + 1) (w.heap.size + 1 + 1) true [] [] (l.map Int.toNat) w') ∧ Ch (At (w.heap.size + 1)) (chW0 w T off n) w' := by
  have := bmNote (chW0 w T off n) A n0 c l hl hn0 (hR.below (chW0_below _ _ _ _)) T off n hn w.heap.size (w.heap.size + 1) (w.heap.size + 1 + 1) (((CB.new _ _ _).alloc _).alloc _) (fun _ => 0) (fun _ => 0) ((CB.new_at _ _ _ (by simp)).alloc _) (CB.new_at _ _ _ (by simp)) (by omega) (by omega) (by omega) (fun hne b hb => by have := rd_own hR hne b hb; omega) true [] [] Msk.zero Msk.zero
  exact this
theorem chNote2 (w : World) (A : Option Addr) (n0 c : Nat) (l : List Int) (hl : l.length = n0) (hn0 : n0 ≤ 9223372036854775807) (hR : Rd .i64 w A l) (T : Nat) (off : Int) (n : Nat) (hn : n ≤ 512) (w1 : World) (L : List Nat) (h : NoInv (chW0 w T off n) (w.heap.size + 1) (w.heap.size + 1 + 1) true [] [] L w1) :
    Calls Tryd.prog 38 #[.slice A n0 c, .pointer (some ⟨w.heap.size + 1 + 1, 0, none⟩), .pointer (some ⟨w.heap.size, 0, none⟩), .pointer (some ⟨w.heap.size + 1, 0, none⟩), .pointer (some ⟨w.heap.size + 1 + 1, 0, none⟩)] w1 fun e w' =>
      e = .returned (.bool (okL n L l)) ∧ (okL n L l = true → NoInv w1 (w.heap.size + 1) (w.heap.size + 1 + 1) false L [] (l.map Int.toNat) w') ∧ Ch (At (w.heap.size + 1 + 1)) w1 w' := by
  obtain ⟨f, g, hOn, hOff, hP, hQ, hCh⟩ := h
  have hCh' : Ch (At (w.heap.size + 1)) (chW0 w T off n) w1 := hCh
  have hbelow : Below w.heap.size w w1 := (chW0_below w T off n).trans (hCh'.to_below (by have := (chW0_below w T off n).size; exact this) (fun b hb => by rw [show b = w.heap.size + 1 from hb]; omega))
  have hbx : CB (chW0 w T off n) w.heap.size 36 #[.iface 28 (.pointer (some ⟨T, 0, none⟩)), .int .u64 off, .int .i64 n] := ((CB.new _ _ _).alloc _).alloc _
  have := bmNote w1 A n0 c l hl hn0 (hR.below hbelow) T off n hn w.heap.size (w.heap.size + 1) (w.heap.size + 1 + 1) (hbx.ch hCh' (fun h => by have : w.heap.size = w.heap.size + 1 := h; omega)) f g hOn hOff (by omega) (by omega) (by omega) (fun hne b hb => by have := rd_own hR hne b hb; omega) false L [] (by simpa [onB] using hP) (by simpa [onB] using hQ)
  simpa using this
set_option maxRecDepth 100000 in
set_option maxHeartbeats 4000000 in
/-- Change, when not all of the bits can be noted. -/
theorem bmChange_bad (w : World) (T : Nat) (off : Int) (n : Nat) (hn : n ≤ 512)
    (A1 : Option Addr) (n1 c1 : Nat) (l1 : List Int) (hl1 : l1.length = n1) (hn1 : n1 ≤ 9223372036854775807) (hR1 : Rd .i64 w A1 l1) (A2 : Option Addr) (n2 c2 : Nat) (l2 : List Int) (hl2 : l2.length = n2) (hn2 : n2 ≤ 9223372036854775807) (hR2 : Rd .i64 w A2 l2)
    (hbad : (okL n [] l1 && okL n (l1.map Int.toNat) l2) = false) :
    Calls Tryd.prog 15 #[bmv T off n, .slice A1 n1 c1, .slice A2 n2 c2] w fun e w' => e = .returned (.tuple #[.slice none 0 0, .int .i64 1]) ∧ Below w.heap.size w w' := by
  have HN1 := Lib.hid (chNote1 w A1 n1 c1 l1 hl1 hn1 hR1 T off n hn)
  have HN2 := Lib.hid (chNote2 w A2 n2 c2 l2 hl2 hn2 hR2 T off n hn)
  have HB0 := Lib.hid (chW0_below w T off n)
  have HW0 : Hid (chW0 w T off n = ((w.alloc (.cells #[.iface 28 (.pointer (some ⟨T, 0, none⟩)), .int .u64 off, .int .i64 n] 36)).alloc (.cells #[.int .u64 0, .int .u64 0, .int .u64 0, .int .u64 0, .int .u64 0, .int .u64 0, .int .u64 0, .int .u64 0] 79)).alloc (.cells #[.int .u64 0, .int .u64 0, .int .u64 0, .int .u64 0, .int .u64 0, .int .u64 0, .int .u64 0, .int .u64 0] 79)) := rfl
  clear hR1 hR2
  unfold bmv
  go_enter Tryd.func15, Tryd.ntmps15
  go_upto_region 3 with (fail)
  rw [← HW0.out]
  obtain ⟨W, hW⟩ : ∃ W, chW0 w T off n = W := ⟨_, rfl⟩
  rw [hW] at HN1 HN2 HB0
  rw [hW]
  clear hW HW0
  cases h1 : okL n [] l1 with
  | false =>
    rw [h1] at HN1
    go_wp2_with (go_at_call 38; refine HN1.out.mono ?_; rintro e w1 ⟨rfl, _, hC1⟩; have HC1 := Lib.hid hC1; clear hC1)
    go_ret2
    exact ⟨rfl, HB0.out.trans (HC1.out.to_below HB0.out.size (fun b hb => by rw [show b = w.heap.size + 1 from hb]; omega))⟩
  | true =>
    rw [h1] at HN1 hbad
    have h2 : okL n (l1.map Int.toNat) l2 = false := by simpa using hbad
    go_wp2_with (first
      | (go_at_call 38; refine HN1.out.mono ?_; rintro e w1 ⟨rfl, hI1, hC1⟩; have HC1 := Lib.hid hC1; have HN3 := Lib.hid (HN2.out w1 _ (hI1 rfl)); rw [h2] at HN3; clear hC1 hI1 HN1)
      | (go_at_call 38; refine HN3.out.mono ?_; rintro e w2 ⟨rfl, _, hC2⟩; have HC2 := Lib.hid hC2; clear hC2))
    go_ret2
    have hb1 := HB0.out.trans (HC1.out.to_below HB0.out.size (fun b hb => by rw [show b = w.heap.size + 1 from hb]; omega))
    exact ⟨rfl, hb1.trans (HC2.out.to_below hb1.size (fun b hb => by rw [show b = w.heap.size + 1 + 1 from hb]; omega))⟩
end Go.Proofs.YtbhkdngbgokilaaDoor
