/- Contract of Encode of Array of Name with room for two. -/
import Derived.Test.YtlbgmoijepknbaaRdV
import Derived.Test.YtlbgmoijepknbaaNameE
import Derived.Test.YtlbgmoijepknbaaRep
import Derived.Test.YtlbgmoijepknbaaTail
namespace Go.Proofs.Ytlbgmoijepknbaa
open Go.RowKit
set_option linter.unusedVariables false

/-- What Encode does: with words it stores them, else nothing changes. -/
def EncPost (w : World) (r : Option (List Int)) (g off : Nat) (xs : List Int) (e : Ending) (w' : World) : Prop :=
  match r with
  | some ws => e = .returned (.bool true) ∧ IB .u64 26 w' g (splice xs off ws) ∧ Ch (At g) w w'
  | none => e = .returned (.bool false) ∧ Below w.heap.size w w'

def strVals (l : List ByteArray) : List Value := l.map Value.string
@[simp] theorem length_strVals (l : List ByteArray) : (strVals l).length = l.length := by simp [strVals]
theorem get_strVals (l : List ByteArray) (k : Nat) (h : k < l.length) : (strVals l)[k]'(by simpa using h) = .string l[k] := by simp [strVals]

/-- The words of the names. -/
def namesW (l : List ByteArray) : List Int := (l.map fun s => nameEnc (bytesOf s)).flatten
def encS (l : List ByteArray) : Option (List Int) :=
  if 2 < l.length ∨ l.all (fun s => decide (s.size ≤ 16)) = false then none else some ((l.length : Int) :: (namesW l ++ List.replicate (6 - 3 * l.length) 0))
def sPart (l : List ByteArray) (k : Nat) : List Int := (l.length : Int) :: (namesW (l.take k) ++ List.replicate (6 - 3 * k) 0)

theorem length_namesW (l : List ByteArray) (h : l.all (fun s => decide (s.size ≤ 16)) = true) : (namesW l).length = 3 * l.length := by
  induction l with
  | nil => rfl
  | cons s l ih =>
    simp only [List.all_cons, Bool.and_eq_true, decide_eq_true_eq] at h
    have := ih h.2
    unfold namesW at this ⊢
    rw [List.map_cons, List.flatten_cons, List.length_append, this, length_nameEnc _ (by rw [length_bytesOf]; exact h.1)]
    simp; omega
theorem length_sPart (l : List ByteArray) (k : Nat) (hk : k ≤ l.length) (hl : l.length ≤ 2) (h : (l.take k).all (fun s => decide (s.size ≤ 16)) = true) : (sPart l k).length = 7 := by
  simp only [sPart, List.length_cons, List.length_append, length_namesW _ h, List.length_replicate, List.length_take]; omega
theorem sPart_step (l : List ByteArray) (k : Nat) (hk : k < l.length) (hl : l.length ≤ 2) (h : (l.take k).all (fun s => decide (s.size ≤ 16)) = true) (hs : l[k].size ≤ 16) :
    splice (sPart l k) (1 + 3 * k) (nameEnc (bytesOf l[k])) = sPart l (k + 1) := by
  have e1 : sPart l k = ((l.length : Int) :: namesW (l.take k)) ++ (List.replicate 3 0 ++ List.replicate (6 - 3 * (k + 1)) 0) := by
    rw [List.replicate_append_replicate, show 3 + (6 - 3 * (k + 1)) = 6 - 3 * k from by omega]; rfl
  have e2 : sPart l (k + 1) = ((l.length : Int) :: namesW (l.take k)) ++ (nameEnc (bytesOf l[k]) ++ List.replicate (6 - 3 * (k + 1)) 0) := by
    unfold sPart
    rw [List.take_succ_eq_append_getElem hk]
    simp only [namesW, List.map_append, List.map_cons, List.map_nil, List.flatten_append, List.flatten_cons, List.flatten_nil, List.append_nil, List.cons_append, List.append_assoc]
  rw [e1, e2]
  apply splice_mid
  · simp only [List.length_cons, length_namesW _ h, List.length_take]; omega
  · rw [length_nameEnc _ (by rw [length_bytesOf]; exact hs)]; rfl

set_option maxRecDepth 100000 in
set_option maxHeartbeats 1000000 in
theorem arrSEncode (w : World) (A : Option Addr) (ca : Nat) (l : List ByteArray) (m : Nat) (hm : l.length = m) (hA : RdV w A (strVals l))
    (g off c : Nat) (xs : List Int) (hb : IB .u64 26 w g xs) (ho : off + 7 ≤ xs.length) :
    Calls Try.prog 113 #[.agg #[.int .i64 2, .iface 73 (.agg #[])], .slice A m ca, .slice (some ⟨g, off, none⟩) 7 c] w
      fun e w' => EncPost w (encS l) g off xs e w' := by
  by_cases h2 : 2 < m
  · have h2' : (2 : Int) < (m : Int) := by omega
    have HE : Hid (encS l = none) := by show _ = _; exact if_pos (.inl (by omega))
    go_enter Try.func113, Try.ntmps113
    go_wp2_with (go_at_call 114; refine (arrSWords _).mono ?_; rintro e w' ⟨rfl, hb⟩; obtain ⟨x, rfl⟩ := bx_of hb; clear hb)
    go_ret
    rw [HE.out]
    exact ⟨rfl, (by repeat (first | with_reducible exact Below.refl _ _ | with_reducible refine bl_alloc ?_ _ | with_reducible refine bl_drew ?_ | with_reducible refine bl_drewN ?_ _ | with_reducible refine bl_bx ?_ _ | with_reducible exact BX.below _ | with_reducible refine bl_set ?_ (by first | (exact Nat.le_refl _) | (simp; done) | (simp; omega)) _ | assumption))⟩
  · have h2' : (m : Int) ≤ 2 := by omega
    have HA := Lib.hid hA
    have HB := Lib.hid hb
    have HM := Lib.hid hm
    have hmk := fun W => run_make_z (P := Try.prog) 31 26 .u64 .i64 .i64 7 7 (by omega) Try.underlying31 8 info_u64 (by omega) (by omega) W
    have hgl := hb.lt
    clear hA hb hm
    go_enter Try.func113, Try.ntmps113
    go_wp2_with (first | (go_at_call 114; refine (arrSWords _).mono ?_; rintro e w' ⟨rfl, hb⟩; obtain ⟨x, rfl⟩ := bx_of hb; clear hb) | (go_at_call 67; refine (sizeS_name _).mono ?_; rintro e w' ⟨rfl, hb⟩; obtain ⟨y, rfl⟩ := bx_of hb; clear hb))
    go_loopw [42, 10, 11, 12, 43, 44, 45, 46, 47, 48, 49, 50, 51, 52, 53, 54, 55, 56, 57, 58, 59, 60, 61, 62, 63, 64, 65, 66, 67] (fun i _ _ _ _ _ _ _ _ _ _ _ _ _ _ _ _ _ _ _ _ _ _ _ _ _ _ _ _ wr => ∃ k : Nat, k ≤ l.length ∧ i = .int .i64 k ∧ (l.take k).all (fun s => decide (s.size ≤ 16)) = true ∧ IB .u64 26 wr x.w.heap.size (sPart l k) ∧ Below (w.alloc (.cells #[.int .i64 2, .iface 73 (.agg #[])] 133)).heap.size (w.alloc (.cells #[.int .i64 2, .iface 73 (.agg #[])] 133)) wr) (fun i _ _ _ _ _ _ _ _ _ _ _ _ _ _ _ _ _ _ _ _ _ _ _ _ _ _ _ _ _ => l.length - (intOf i).toNat)
    case atStart => exact ⟨0, Nat.zero_le _, rfl, rfl, by have h1 := (IB.new (k := .u64) (e := 26) x.w ((List.replicate 7 0).set 0 ↑m)).below y.below (by simp); have e0 : sPart l 0 = (List.replicate 7 0).set 0 (m : Int) := (by unfold sPart; rw [HM.out]; rfl); rw [e0]; exact h1, bl_bx (bl_alloc x.below _) y⟩
    case round =>
      obtain ⟨k, hk, rfl, hall, hI, hB⟩ := hrel
      obtain ⟨z, rfl⟩ := bx_of hB
      have HI := Lib.hid hI
      have HAll := Lib.hid hall
      clear hI hB hall
      have hm2 : l.length ≤ 2 := by have := HM.out; omega
      by_cases hlt : k < l.length
      · have hltm : k < m := by have := HM.out; omega
        obtain ⟨b, o, rfl, _, hc⟩ := (HA.out.below (bl_bx (bl_alloc (Below.refl _ _) _) z)).at_ (i := k) (by simpa using hlt)
        rw [get_strVals l k hlt] at hc
        have hlen := length_sPart l k hk hm2 HAll.out
        have HL := Lib.hid hlen
        clear hlen
        go_wp2
        refine wp_region_still_n 14 (by kernel_rfl) (by kernel_rfl) ?_
        simp only [List.take_succ_cons, List.take_zero, List.drop_succ_cons, List.drop_zero]
        repeat (go_big_quiet_step (fail))
        refine wpQuiet_nil ?_
        rintro _ ⟨nq, rfl⟩
        by_cases hs : l[k].size ≤ 16
        · go_wp2_with fail
          refine (nameEncode_ok _ _ hs _ _ _ (sPart l k) (HI.out.drewN _) (by rw [HL.out]; omega) (by omega)).mono ?_
          rintro e w2 ⟨rfl, hI2, hC2⟩
          have HI2 := Lib.hid hI2
          have HC2 := Lib.hid hC2
          clear hI2 hC2
          go_wp2
          have h6 := HI2.out
          have h7 := bl_ch (bl_drewN z.below nq) HC2.out (fun b hb => by have := x.size; simp at this; unfold At at hb; simp; omega)
          go_roundw
          case rel => exact ⟨k + 1, by omega, by go_num, all_take_succ _ l k hlt HAll.out (by simpa using hs), by rw [← sPart_step l k hlt hm2 HAll.out hs]; simpa [Nat.mul_comm] using h6, h7⟩
          case measure => simp [intOf]; omega
        · go_wp2_with fail
          refine (nameEncode_long _ _ _ _ (by omega)).mono ?_
          rintro e w2 ⟨rfl, hb⟩
          obtain ⟨q, rfl⟩ := bx_of hb
          clear hb
          go_wp2
          go_ret
          have HE : encS l = none := if_pos (.inr (all_false _ l k hlt (by simpa using hs)))
          rw [HE]
          exact ⟨rfl, (by repeat (first | with_reducible exact Below.refl _ _ | with_reducible refine bl_alloc ?_ _ | with_reducible refine bl_drew ?_ | with_reducible refine bl_drewN ?_ _ | with_reducible refine bl_bx ?_ _ | with_reducible exact BX.below _ | with_reducible refine bl_set ?_ (by first | (exact Nat.le_refl _) | (simp; done) | (simp; omega)) _ | assumption))⟩
      · have hI0 := HI.out
        have hkm : k = l.length := by omega
        have hall := HAll.out
        rw [hkm, List.take_length] at hall
        have HE : Hid (encS l = some (sPart l k)) := by
          show _ = _
          unfold encS
          rw [if_neg (by rw [hall]; simp; omega), hkm]
          simp [sPart]
        have hlen := length_sPart l k hk hm2 HAll.out
        have hkm' : k = m := by have := HM.out; omega
        obtain ⟨w1, hr1, hI1, hC1⟩ := run_copy_ints (P := Try.prog) z.w 31 31 3 26 Try.underlying31 size_u64 .u64 26 (some ⟨g, off, none⟩) (some ⟨x.w.heap.size, 0, none⟩) 7 c 7 7 g off xs (sPart l k) (HB.out.below (bl_bx (bl_alloc (Below.refl _ _) _) z) hgl) (by rw [hlen]; rfl) (fun _ => rfl) (by rw [hlen]; exact ho) hI0.rd0
        have HR := Lib.hid hr1
        have HI1 := Lib.hid hI1
        have HC1 := Lib.hid hC1
        rw [hlen] at HR
        clear hr1 hI1 hC1 hI0 hlen hall
        go_wp2
        rw [HR.out]
        go_wp2
        go_ret
        rw [HE.out]
        exact ⟨rfl, HI1.out, (Ch.of_below (bl_bx (bl_alloc (Below.refl _ _) _) z)).trans HC1.out (fun _ h _ => h)⟩
end Go.Proofs.Ytlbgmoijepknbaa
