/- Contracts of the reference's Array and Unarray. -/
import Derived.Test.YtlbgmoijepknbaaArrD
namespace Go.Proofs.Ytlbgmoijepknbaa
open Go.RowKit
set_option linter.unusedVariables false

/-- The words of an array of at most n words. -/
def arrEncU (n : Nat) (l : List Int) : List Int := (l.length : Int) :: (l ++ List.replicate (n - l.length) 0)
theorem arrEnc_eq (n : Nat) (l : List Int) : arrEnc n l = arrEncU n (l.map IntKind.u64.wrap) := by simp [arrEnc, arrEncU]
def arrFill (l : List Int) (k : Nat) : List Int := (l.length : Int) :: (l ++ List.replicate (k - (l.length + 1)) 0)
theorem length_arrFill (l : List Int) (k : Nat) (h : l.length + 1 ≤ k) : (arrFill l k).length = k := by simp [arrFill]; omega
theorem arrFill_succ (l : List Int) (k : Nat) (h : l.length + 1 ≤ k) : arrFill l k ++ [0] = arrFill l (k + 1) := by
  simp only [arrFill, List.cons_append, List.append_assoc]
  rw [show k + 1 - (l.length + 1) = (k - (l.length + 1)) + 1 from by omega, List.replicate_succ']

set_option maxHeartbeats 400000 in
theorem refArray_no (w : World) (n : Int) (A : Option Addr) (m c : Nat) (h : n < 0 ∨ 4096 ≤ n ∨ n < (m : Int)) :
    Calls Try.prog 44 #[.int .i64 n, .slice A m c] w fun e w' => e = .returned (.tuple #[.slice none 0 0, .bool false]) ∧ w = w' := by
  by_cases h0 : n < 0
  · go_enter Try.func44, Try.ntmps44
    go_wp2
    go_ret2
    exact ⟨rfl, rfl⟩
  · by_cases h1 : 4096 ≤ n
    · go_enter Try.func44, Try.ntmps44
      go_wp2
      go_ret2
      exact ⟨rfl, rfl⟩
    · have h2 : n < (m : Int) := by omega
      clear h
      go_enter Try.func44, Try.ntmps44
      go_wp2
      go_ret2
      exact ⟨rfl, rfl⟩

set_option maxRecDepth 100000 in
set_option maxHeartbeats 1000000 in
theorem refArray_ok (w : World) (n : Nat) (hn : n < 4096) (A : Option Addr) (c : Nat) (l : List Int) (hR : Rd .u64 w A l) (hl : l.length ≤ n) :
    Calls Try.prog 44 #[.int .i64 (n : Int), .slice A l.length c] w fun e w' => (∃ A' c', e = .returned (.tuple #[.slice A' (n + 1) c', .bool true]) ∧ OwnI .u64 26 w' w.heap.size A' c' (arrEncU n l)) ∧ Below w.heap.size w w' := by
  have HR := Lib.hid hR
  have h1 : ¬ (n : Int) < (l.length : Int) := by omega
  have HO1 : Hid (OwnI .u64 26 (w.alloc (.cells #[.int .u64 (l.length : Int)] 26)) w.heap.size (some ⟨w.heap.size, 0, none⟩) 1 [(l.length : Int)]) := OwnI.of_ib (IB.new_at .u64 26 w w.heap.size [(l.length : Int)] rfl) (Nat.le_refl _) (by simp)
  clear hR
  go_enter Try.func44, Try.ntmps44
  go_wp2_with (at_builtin; refine wpList_append_ints rfl (.tmp 22) (.tmp 23) 31 rfl 26 .u64 8 Try.underlying31 info_u64 (by omega) w.heap.size _ _ [(l.length : Int)] 1 A l.length c l rfl rfl rfl HO1.out rfl (HR.out.alloc _) (by simp; omega) (by simp) ?_; intro A1 c1 w1 HO2 HC2 HW2)
  have HB2 := Lib.hid (bl_ch (bl_alloc (Below.refl _ w) (.cells #[.int .u64 (l.length : Int)] 26)) HC2.out (fun b hb => (HO1.out.lt hb).1))
  go_loopw [6, 25, 26, 27, 28, 29, 30, 31, 32] (fun v _ _ _ _ _ _ _ _ wr => ∃ (k : Nat) (A' : Option Addr) (c' : Nat), l.length + 1 ≤ k ∧ k ≤ n + 1 ∧ v = .slice A' k c' ∧ OwnI .u64 26 wr w.heap.size A' c' (arrFill l k) ∧ Below w.heap.size w wr) (fun v _ _ _ _ _ _ _ _ _ => match v with | .slice _ k _ => n + 1 - k | _ => 0)
  case atStart => exact ⟨1 + l.length, A1, c1, by omega, by omega, rfl, by have h8 := HO2.out; simpa [arrFill, show 1 + l.length - (l.length + 1) = 0 from by omega] using h8, HB2.out⟩
  case round =>
    obtain ⟨k, A', c', hk1, hk2, rfl, hO, hB⟩ := hrel
    have HO := Lib.hid hO
    have HB := Lib.hid hB
    have HLk := Lib.hid (length_arrFill l k hk1)
    clear hO hB
    by_cases hlt : k < n + 1
    · go_wp2_with (at_builtin; refine wpList_append_ints rfl (.tmp 30) (.tmp 31) 31 rfl 26 .u64 8 Try.underlying31 info_u64 (by omega) w.heap.size A' c' (arrFill l k) k _ _ _ [0] rfl rfl HLk.out (HO.out.alloc _) rfl (rd_one _ _ _ _) (by rw [HLk.out]; simp; omega) (by simp; have := HB.out.size; omega) ?_; intro A2 c2 w2 HO3 HC3 HW3)
      have h6 := HO3.out
      rw [arrFill_succ l k hk1] at h6
      have h7 := bl_ch (bl_alloc HB.out _) HC3.out (fun b hb => (HO.out.lt hb).1)
      go_roundw
      case rel => exact ⟨k + 1, A2, c2, by omega, by omega, rfl, h6, h7⟩
      case measure => simp; omega
    · obtain rfl : k = n + 1 := by omega
      go_wp2
      go_ret2
      refine ⟨⟨A', c', rfl, ?_⟩, HB.out⟩
      have h6 := HO.out
      unfold arrFill at h6
      unfold arrEncU
      rwa [show n + 1 - (l.length + 1) = n - l.length from by omega] at h6

set_option maxHeartbeats 400000 in
theorem refUnarray_len (w : World) (n : Int) (A : Option Addr) (m c : Nat) (h : n < 0 ∨ 4096 ≤ n ∨ (m : Int) ≠ n + 1) :
    Calls Try.prog 46 #[.int .i64 n, .slice A m c] w fun e w' => e = .returned (.tuple #[.slice none 0 0, .bool false]) ∧ w = w' := by
  by_cases h0 : n < 0
  · go_enter Try.func46, Try.ntmps46
    go_wp2
    go_ret2
    exact ⟨rfl, rfl⟩
  · by_cases h1 : 4096 ≤ n
    · go_enter Try.func46, Try.ntmps46
      go_wp2
      go_ret2
      exact ⟨rfl, rfl⟩
    · have h2 : ((m : Int) != n + 1) = true := by rw [bne_iff_ne]; omega
      clear h
      go_enter Try.func46, Try.ntmps46
      go_wp2
      go_ret2
      exact ⟨rfl, rfl⟩

set_option maxRecDepth 100000 in
set_option maxHeartbeats 400000 in
theorem refUnarray_big (w : World) (n : Nat) (hn : n < 4096) (g off c : Nat) (x0 : Int) (hc : w.cell? ⟨g, off, none⟩ = some (.int .u64 x0)) (hx : (n : Int) < x0) :
    Calls Try.prog 46 #[.int .i64 (n : Int), .slice (some ⟨g, off, none⟩) (n + 1) c] w fun e w' => e = .returned (.tuple #[.slice none 0 0, .bool false]) ∧ w = w' := by
  go_enter Try.func46, Try.ntmps46
  go_wp2
  go_ret2
  exact ⟨rfl, rfl⟩

/-- What Unarray returns of words whose first one is u. -/
def UnPost (w : World) (T M : List Int) (u : Nat) (e : Ending) (w' : World) : Prop :=
  ((T.all (· == 0) = true ∧ ∃ A' c', e = .returned (.tuple #[.slice A' u c', .bool true]) ∧ Rd .u64 w A' M) ∨ (T.all (· == 0) = false ∧ e = .returned (.tuple #[.slice none 0 0, .bool false]))) ∧ w = w'

set_option maxRecDepth 100000 in
set_option maxHeartbeats 2000000 in
theorem refUnarray_any (w : World) (n : Nat) (hn : n < 4096) (g off c : Nat) (T M : List Int) (u : Nat) (hT : T.length = n - u) (hM : M.length = u) (hcap : n + 1 ≤ c) (hRT : Rd .u64 w (some ⟨g, off + (1 + u), none⟩) T) (hRM : Rd .u64 w (some ⟨g, off + 1, none⟩) M)
    (h0 : w.cell? ⟨g, off, none⟩ = some (.int .u64 (u : Int))) (hu : u ≤ n) :
    Calls Try.prog 46 #[.int .i64 (n : Int), .slice (some ⟨g, off, none⟩) (n + 1) c] w (UnPost w T M u) := by
  have h3 : ¬ (n : Int) < (u : Int) := by omega
  have HT := Lib.hid hT
  have HM := Lib.hid hM
  have HRT := Lib.hid hRT
  have HRM := Lib.hid hRM
  clear hT hM hRT hRM
  go_enter Try.func46, Try.ntmps46
  go_wp2
  all_goals
    go_loop [39, 8, 40, 41, 42, 43, 44, 45] (fun i _ _ _ _ _ _ _ => ∃ k : Nat, k ≤ n - u ∧ i = .int .i64 k ∧ (T.take k).all (· == 0) = true) (fun i _ _ _ _ _ _ _ => n - u - (intOf i).toNat)
    case atStart => exact ⟨0, Nat.zero_le _, rfl, rfl⟩
    case round =>
      obtain ⟨k, hk, rfl, hall⟩ := hrel
      have HA := Lib.hid hall
      clear hall
      by_cases hlt : k < n - u
      · have hlt' : k < T.length := by rw [HT.out]; omega
        have hlt3 : k < n + 1 - (1 + u) := by omega
        first
        | (exfalso; omega)
        | (obtain ⟨b, o, hbo, _, hc⟩ := HRT.out.at_ hlt'
           injection hbo with hbo
           injection hbo with hbo hbo'
           subst hbo hbo'
           go_wp2
           · go_ret2
             have hne : (T[k] != 0) = true := by assumption
             exact ⟨.inr ⟨all_false _ _ k hlt' (by simpa using hne), rfl⟩, rfl⟩
           · have hne : (T[k] != 0) = false := by assumption
             go_round
             case rel => exact ⟨k + 1, by omega, by go_num, all_take_succ _ _ _ hlt' HA.out (by simpa using hne)⟩
             case measure => simp [intOf]; omega)
      · have hlt3 : ¬ k < n + 1 - (1 + u) := by omega
        have hal : T.all (· == 0) = true := all_take_all _ _ k (by rw [HT.out]; omega) HA.out
        have HAl := Lib.hid hal
        clear hal
        go_wp2
        all_goals go_ret2
        all_goals exact ⟨.inl ⟨HAl.out, _, _, rfl, by first | exact HRM.out | (left; exact List.eq_nil_of_length_eq_zero (by have := HM.out; omega))⟩, rfl⟩
end Go.Proofs.Ytlbgmoijepknbaa
