/- Contract of Encode of the reference of records. -/
import Derived.Test.YtlbgmoijepknbaaSame
import Derived.Test.YtlbgmoijepknbaaPairB
import Derived.Test.YtlbgmoijepknbaaRefN
namespace Go.Proofs.Ytlbgmoijepknbaa
open Go.RowKit
set_option linter.unusedVariables false

def RefEPost (w : World) (r : Option (List Int)) (e : Ending) (w' : World) : Prop :=
  Below w.heap.size w w' ∧ match r with
  | some ws => ∃ A' c', e = .returned (.tuple #[.slice A' 10 c', .bool true]) ∧ Rd .u64 w' A' ws ∧ ws.length = 10 ∧ (∀ b, OwnB A' b → w.heap.size ≤ b)
  | none => e = .returned (.tuple #[.slice none 0 0, .bool false])
theorem encV_eq (f : Bool) (l : List ByteArray) (o : Option Int) (hl : l.length ≤ 2) (hs : l.all (fun s => decide (s.size ≤ 16)) = true) :
    encV f l o = some (([if f then 1 else 0, (l.length : Int)] ++ namesW l) ++ List.replicate (6 - 3 * l.length) 0 ++ encO o) := by
  unfold encV encSI encS
  rw [if_neg (by rw [hs]; simp; omega)]
  simp [encF]
theorem encV_long (f : Bool) (l : List ByteArray) (o : Option Int) (h : 2 < l.length ∨ l.all (fun s => decide (s.size ≤ 16)) = false) : encV f l o = none := by
  unfold encV encSI encS
  rw [if_pos h]; rfl
def sliceLen : Value → Nat
  | .slice _ n _ => n
  | _ => 0

set_option maxRecDepth 100000 in
set_option maxHeartbeats 4000000 in
theorem refEncode11 (w : World) (f has : Bool) (n : Int) (A : Option Addr) (m c : Nat) (l : List ByteArray) (hl : l.length = m) (hA : RdV w A (strVals l)) (hm : m ≤ 1000000) :
    Calls Try.prog 48 #[.agg #[.bool f, .slice A m c, .bool has, .int .i64 n]] w (RefEPost w (encV f l (numO has n))) := by
  have HA := Lib.hid hA
  have HL := Lib.hid hl
  have hcm : IntKind.u64.wrap (m : Int) = (m : Int) := IntWalk.u64_in _ (by omega)
  clear hA hl
  by_cases h2 : 2 < m
  · have HE : Hid (encV f l (numO has n) = none) := by show _ = _; exact encV_long _ _ _ (.inl (by rw [HL.out]; exact h2))
    have h2' : (2 : Int) < (m : Int) := by omega
    cases f
    all_goals
      go_enter Try.func48, Try.ntmps48
      go_wp2
      go_ret2
      unfold RefEPost
      rw [HE.out]
      exact ⟨(by repeat (first | with_reducible exact Below.refl _ _ | with_reducible refine bl_alloc ?_ _ | with_reducible refine bl_drew ?_ | with_reducible refine bl_drewN ?_ _ | with_reducible refine bl_bx ?_ _ | with_reducible exact BX.below _ | with_reducible refine bl_set ?_ (by first | (exact Nat.le_refl _) | (simp; done) | (simp; omega)) _ | assumption)), rfl⟩
  · have h2' : ¬ (2 : Int) < (m : Int) := by omega
    cases f
    · have HE : Hid (l.all (fun s => decide (s.size ≤ 16)) = true → encV false l (numO has n) = some (([0, (m : Int)] ++ namesW l) ++ List.replicate (6 - 3 * m) 0 ++ encO (numO has n))) := by
        show _ → _
        intro h
        rw [encV_eq false l _ (by rw [HL.out]; omega) h, HL.out]; rfl
      have HN : Hid (l.all (fun s => decide (s.size ≤ 16)) = false → encV false l (numO has n) = none) := by
        show _ → _
        intro h
        exact encV_long _ _ _ (.inr h)
      go_enter Try.func48, Try.ntmps48
      go_wp2
      go_loopw [25, 4, 2, 3, 6, 7, 8, 26, 27, 28, 29, 30, 31, 32, 33, 34, 35, 36, 37, 38, 39] (fun i v _ _ _ _ _ _ _ _ _ _ _ _ _ _ _ _ _ _ _ wr => ∃ (k : Nat) (A' : Option Addr) (c' : Nat), k ≤ m ∧ i = .int .i64 k ∧ v = .slice A' (2 + 3 * k) c' ∧ (l.take k).all (fun s => decide (s.size ≤ 16)) = true ∧ OwnI .u64 26 wr (w.heap.size + 1) A' c' ([0, (m : Int)] ++ namesW (l.take k)) ∧ Below (w.alloc (.cells #[.bool false, .slice A m c, .bool has, .int .i64 n] 24)).heap.size (w.alloc (.cells #[.bool false, .slice A m c, .bool has, .int .i64 n] 24)) wr) (fun i _ _ _ _ _ _ _ _ _ _ _ _ _ _ _ _ _ _ _ _ _ => m - (intOf i).toNat)
      case atStart => exact ⟨0, _, _, Nat.zero_le _, rfl, rfl, rfl, by have := OwnI.of_ib (base := w.heap.size + 1) (IB.new_at .u64 26 (w.alloc (.cells #[.bool false, .slice A m c, .bool has, .int .i64 n] 24)) (w.heap.size + 1) [0, (m : Int)] (by simp)) (Nat.le_refl _) (by simp); exact this, bl_alloc (Below.refl _ _) _⟩
      case round =>
        obtain ⟨k, A', c', hk, rfl, rfl, hall, hO, hB⟩ := hrel
        obtain ⟨z, rfl⟩ := bx_of hB
        have HO := Lib.hid hO
        have HAll := Lib.hid hall
        have hzw : w.heap.size < z.w.heap.size := z.lt_size (by first | (simp; done) | (simp; omega) | omega)
        have hlenk : ([0, (m : Int)] ++ namesW (l.take k)).length = 2 + 3 * k := by
          rw [List.length_append, length_namesW _ hall, List.length_take, HL.out]; simp; omega
        have HLk := Lib.hid hlenk
        clear hO hB hall hlenk
        by_cases hlt : k < m
        · have hkl : k < l.length := by rw [HL.out]; exact hlt
          have hk' : k < (strVals l).length := by rw [length_strVals]; exact hkl
          obtain ⟨b1, o1, rfl, hb1, hc1⟩ := (HA.out.below (bl_bx (bl_alloc (Below.refl _ _) _) z)).at_ hk'
          rw [get_strVals l k hkl] at hc1
          by_cases hs : l[k].size ≤ 16
          · go_wp2_with fail
            refine (refName_ok _ _ hs).mono ?_
            rintro e w2 ⟨rfl, hI2, hb2⟩
            obtain ⟨y, rfl⟩ := bx_of hb2
            have HI2 := Lib.hid hI2
            have HO2 := Lib.hid (HO.out.bx y)
            have HBs : Hid (w.heap.size + 1 ≤ y.w.heap.size) := (by show _ ≤ _; have := y.size; omega)
            clear hb2 hI2
            go_wp2_with (at_builtin; refine wpList_append_ints rfl (.tmp 36) (.tmp 37) 31 rfl 26 .u64 8 Try.underlying31 info_u64 (by omega) (w.heap.size + 1) A' c' ([0, (m : Int)] ++ namesW (l.take k)) (2 + 3 * k) _ 3 3 (nameEnc (bytesOf l[k])) rfl rfl HLk.out HO2.out (length_nameEnc _ (by rw [length_bytesOf]; exact hs)) HI2.out.rd0 (by rw [HLk.out, length_nameEnc _ (by rw [length_bytesOf]; exact hs)]; omega) HBs.out ?_; intro A2 c2 w3 HO3 HC3 HW3)
            have h6 := HO3.out
            have e6 : [0, (m : Int)] ++ namesW (l.take k) ++ nameEnc (bytesOf l[k]) = [0, (m : Int)] ++ namesW (l.take (k + 1)) := by
              rw [List.take_succ_eq_append_getElem hkl]
              simp only [namesW, List.map_append, List.map_cons, List.map_nil, List.flatten_append, List.flatten_cons, List.flatten_nil, List.append_nil, List.append_assoc]
            rw [e6] at h6
            have h7 := bl_ch (bl_bx z.below y) HC3.out (fun b hb => by have := (HO.out.lt hb).1; simpa using this)
            go_roundw
            case rel => exact ⟨k + 1, A2, c2, by omega, by go_num, by rw [show 2 + 3 * (k + 1) = 2 + 3 * k + 3 by omega], all_take_succ _ l k hkl HAll.out (by simpa using hs), h6, h7⟩
            case measure => simp [intOf]; omega
          · go_wp2_with fail
            refine (refName_long _ _ (by omega)).mono ?_
            rintro e w2 ⟨rfl, hb2⟩
            obtain ⟨y, rfl⟩ := bx_of hb2
            clear hb2
            go_wp2
            go_ret2
            unfold RefEPost
            rw [HN.out (all_false _ l k hkl (by simpa using hs))]
            exact ⟨(by repeat (first | with_reducible exact Below.refl _ _ | with_reducible refine bl_alloc ?_ _ | with_reducible refine bl_drew ?_ | with_reducible refine bl_drewN ?_ _ | with_reducible refine bl_bx ?_ _ | with_reducible exact BX.below _ | with_reducible refine bl_set ?_ (by first | (exact Nat.le_refl _) | (simp; done) | (simp; omega)) _ | assumption)), rfl⟩
        · obtain rfl : k = m := by omega
          have hall := HAll.out
          rw [List.take_of_length_le (by rw [HL.out]; omega)] at hall HO HLk
          have HE2 := Lib.hid (HE.out hall)
          clear hall
          go_wp2
          go_loopw [4, 40, 41, 42, 43, 44, 45] (fun v _ _ _ _ _ _ wr => ∃ (j : Nat) (A' : Option Addr) (c' : Nat), 2 + 3 * k + j ≤ 8 ∧ v = .slice A' (2 + 3 * k + j) c' ∧ OwnI .u64 26 wr (w.heap.size + 1) A' c' (([0, (k : Int)] ++ namesW l) ++ List.replicate j 0) ∧ Below (w.alloc (.cells #[.bool false, .slice A k c, .bool has, .int .i64 n] 24)).heap.size (w.alloc (.cells #[.bool false, .slice A k c, .bool has, .int .i64 n] 24)) wr) (fun v _ _ _ _ _ _ _ => 8 - sliceLen v)
          case atStart => exact ⟨0, _, _, by omega, rfl, by simpa using HO.out, z.below⟩
          case round =>
            obtain ⟨j, A2, c2, hj, rfl, hO2, hB2⟩ := hrel
            obtain ⟨y, rfl⟩ := bx_of hB2
            have HO2 := Lib.hid hO2
            have hyw : w.heap.size < y.w.heap.size := y.lt_size (by first | (simp; done) | (simp; omega) | omega)
            have hlenj : (([0, (k : Int)] ++ namesW l) ++ List.replicate j 0).length = 2 + 3 * k + j := by rw [List.length_append, HLk.out, List.length_replicate]
            have HLj := Lib.hid hlenj
            have HBs : Hid (w.heap.size + 1 ≤ (y.w.alloc (.cells #[.int .u64 0] 26)).heap.size) := (by show _ ≤ _; simp; omega)
            clear hO2 hB2 hlenj
            by_cases hlt : 2 + 3 * k + j < 8
            · have hlt' : ((2 + 3 * k + j : Nat) : Int) < 8 := by omega
              go_wp2_with (at_builtin; refine wpList_append_ints rfl (.tmp 43) (.tmp 44) 31 rfl 26 .u64 8 Try.underlying31 info_u64 (by omega) (w.heap.size + 1) A2 c2 (([0, (k : Int)] ++ namesW l) ++ List.replicate j 0) (2 + 3 * k + j) _ _ _ [0] rfl rfl HLj.out (HO2.out.alloc _) rfl (rd_one _ _ _ _) (by rw [HLj.out]; simp; omega) HBs.out ?_; intro A3 c3 w3 HO3 HC3 HW3)
              have h6 := HO3.out
              rw [List.append_assoc, show List.replicate j (0 : Int) ++ [0] = List.replicate (j + 1) 0 from by rw [List.replicate_succ']] at h6
              have h7 := bl_ch (bl_alloc y.below _) HC3.out (fun b hb => by have := (HO2.out.lt hb).1; simpa using this)
              go_roundw
              case rel => exact ⟨j + 1, A3, c3, by omega, rfl, h6, h7⟩
              case measure => simp [sliceLen]; omega
            · have hlt' : ¬ ((2 + 3 * k + j : Nat) : Int) < 8 := by omega
              obtain rfl : j = 6 - 3 * k := by omega
              cases has
              · have HBs2 : Hid (w.heap.size + 1 ≤ (y.w.alloc (.cells #[.int .u64 0, .int .u64 0] 26)).heap.size) := (by show _ ≤ _; simp; omega)
                go_wp2_with (at_builtin; refine wpList_append_ints rfl (.tmp 54) (.tmp 55) 31 rfl 26 .u64 8 Try.underlying31 info_u64 (by omega) (w.heap.size + 1) A2 c2 (([0, (k : Int)] ++ namesW l) ++ List.replicate (6 - 3 * k) 0) (2 + 3 * k + (6 - 3 * k)) _ _ _ [0, 0] rfl rfl HLj.out (HO2.out.alloc _) rfl (rd_lit [0, 0] rfl) (by rw [HLj.out]; simp; omega) HBs2.out ?_; intro A3 c3 w3 HO3 HC3 HW3)
                have h6 := HO3.out
                have h7 := bl_ch (bl_alloc (bl_bx (bl_alloc (Below.refl _ _) _) y) _) HC3.out (fun b hb => by have := (HO2.out.lt hb).1; omega)
                go_ret2
                unfold RefEPost
                rw [HE2.out]
                exact ⟨h7, A3, c3, by rw [show 2 + 3 * k + (6 - 3 * k) + 2 = 10 by omega]; rfl, h6.rd, by simp only [List.length_append, HLj.out] at *; rw [length_encO]; omega, fun b hb => by have := (h6.lt hb).1; omega⟩
              · have HBs2 : Hid (w.heap.size + 1 ≤ (y.w.alloc (.cells #[.int .u64 1, .int .u64 (IntKind.u64.wrap n)] 26)).heap.size) := (by show _ ≤ _; simp; omega)
                go_wp2_with (at_builtin; refine wpList_append_ints rfl (.tmp 48) (.tmp 52) 31 rfl 26 .u64 8 Try.underlying31 info_u64 (by omega) (w.heap.size + 1) A2 c2 (([0, (k : Int)] ++ namesW l) ++ List.replicate (6 - 3 * k) 0) (2 + 3 * k + (6 - 3 * k)) _ _ _ [1, IntKind.u64.wrap n] rfl rfl HLj.out (HO2.out.alloc _) rfl (rd_lit [1, IntKind.u64.wrap n] rfl) (by rw [HLj.out]; simp; omega) HBs2.out ?_; intro A3 c3 w3 HO3 HC3 HW3)
                have h6 := HO3.out
                have h7 := bl_ch (bl_alloc (bl_bx (bl_alloc (Below.refl _ _) _) y) _) HC3.out (fun b hb => by have := (HO2.out.lt hb).1; omega)
                go_ret2
                unfold RefEPost
                rw [HE2.out]
                exact ⟨h7, A3, c3, by rw [show 2 + 3 * k + (6 - 3 * k) + 2 = 10 by omega]; rfl, h6.rd, by simp only [List.length_append, HLj.out] at *; rw [length_encO]; omega, fun b hb => by have := (h6.lt hb).1; omega⟩
    · have HE : Hid (l.all (fun s => decide (s.size ≤ 16)) = true → encV true l (numO has n) = some (([1, (m : Int)] ++ namesW l) ++ List.replicate (6 - 3 * m) 0 ++ encO (numO has n))) := by
        show _ → _
        intro h
        rw [encV_eq true l _ (by rw [HL.out]; omega) h, HL.out]; rfl
      have HN : Hid (l.all (fun s => decide (s.size ≤ 16)) = false → encV true l (numO has n) = none) := by
        show _ → _
        intro h
        exact encV_long _ _ _ (.inr h)
      go_enter Try.func48, Try.ntmps48
      go_wp2
      go_loopw [25, 4, 2, 3, 6, 7, 8, 26, 27, 28, 29, 30, 31, 32, 33, 34, 35, 36, 37, 38, 39] (fun i v _ _ _ _ _ _ _ _ _ _ _ _ _ _ _ _ _ _ _ wr => ∃ (k : Nat) (A' : Option Addr) (c' : Nat), k ≤ m ∧ i = .int .i64 k ∧ v = .slice A' (2 + 3 * k) c' ∧ (l.take k).all (fun s => decide (s.size ≤ 16)) = true ∧ OwnI .u64 26 wr (w.heap.size + 1) A' c' ([1, (m : Int)] ++ namesW (l.take k)) ∧ Below (w.alloc (.cells #[.bool true, .slice A m c, .bool has, .int .i64 n] 24)).heap.size (w.alloc (.cells #[.bool true, .slice A m c, .bool has, .int .i64 n] 24)) wr) (fun i _ _ _ _ _ _ _ _ _ _ _ _ _ _ _ _ _ _ _ _ _ => m - (intOf i).toNat)
      case atStart => exact ⟨0, _, _, Nat.zero_le _, rfl, rfl, rfl, by have := OwnI.of_ib (base := w.heap.size + 1) (IB.new_at .u64 26 (w.alloc (.cells #[.bool true, .slice A m c, .bool has, .int .i64 n] 24)) (w.heap.size + 1) [1, (m : Int)] (by simp)) (Nat.le_refl _) (by simp); exact this, bl_alloc (Below.refl _ _) _⟩
      case round =>
        obtain ⟨k, A', c', hk, rfl, rfl, hall, hO, hB⟩ := hrel
        obtain ⟨z, rfl⟩ := bx_of hB
        have HO := Lib.hid hO
        have HAll := Lib.hid hall
        have hzw : w.heap.size < z.w.heap.size := z.lt_size (by first | (simp; done) | (simp; omega) | omega)
        have hlenk : ([1, (m : Int)] ++ namesW (l.take k)).length = 2 + 3 * k := by
          rw [List.length_append, length_namesW _ hall, List.length_take, HL.out]; simp; omega
        have HLk := Lib.hid hlenk
        clear hO hB hall hlenk
        by_cases hlt : k < m
        · have hkl : k < l.length := by rw [HL.out]; exact hlt
          have hk' : k < (strVals l).length := by rw [length_strVals]; exact hkl
          obtain ⟨b1, o1, rfl, hb1, hc1⟩ := (HA.out.below (bl_bx (bl_alloc (Below.refl _ _) _) z)).at_ hk'
          rw [get_strVals l k hkl] at hc1
          by_cases hs : l[k].size ≤ 16
          · go_wp2_with fail
            refine (refName_ok _ _ hs).mono ?_
            rintro e w2 ⟨rfl, hI2, hb2⟩
            obtain ⟨y, rfl⟩ := bx_of hb2
            have HI2 := Lib.hid hI2
            have HO2 := Lib.hid (HO.out.bx y)
            have HBs : Hid (w.heap.size + 1 ≤ y.w.heap.size) := (by show _ ≤ _; have := y.size; omega)
            clear hb2 hI2
            go_wp2_with (at_builtin; refine wpList_append_ints rfl (.tmp 36) (.tmp 37) 31 rfl 26 .u64 8 Try.underlying31 info_u64 (by omega) (w.heap.size + 1) A' c' ([1, (m : Int)] ++ namesW (l.take k)) (2 + 3 * k) _ 3 3 (nameEnc (bytesOf l[k])) rfl rfl HLk.out HO2.out (length_nameEnc _ (by rw [length_bytesOf]; exact hs)) HI2.out.rd0 (by rw [HLk.out, length_nameEnc _ (by rw [length_bytesOf]; exact hs)]; omega) HBs.out ?_; intro A2 c2 w3 HO3 HC3 HW3)
            have h6 := HO3.out
            have e6 : [1, (m : Int)] ++ namesW (l.take k) ++ nameEnc (bytesOf l[k]) = [1, (m : Int)] ++ namesW (l.take (k + 1)) := by
              rw [List.take_succ_eq_append_getElem hkl]
              simp only [namesW, List.map_append, List.map_cons, List.map_nil, List.flatten_append, List.flatten_cons, List.flatten_nil, List.append_nil, List.append_assoc]
            rw [e6] at h6
            have h7 := bl_ch (bl_bx z.below y) HC3.out (fun b hb => by have := (HO.out.lt hb).1; simpa using this)
            go_roundw
            case rel => exact ⟨k + 1, A2, c2, by omega, by go_num, by rw [show 2 + 3 * (k + 1) = 2 + 3 * k + 3 by omega], all_take_succ _ l k hkl HAll.out (by simpa using hs), h6, h7⟩
            case measure => simp [intOf]; omega
          · go_wp2_with fail
            refine (refName_long _ _ (by omega)).mono ?_
            rintro e w2 ⟨rfl, hb2⟩
            obtain ⟨y, rfl⟩ := bx_of hb2
            clear hb2
            go_wp2
            go_ret2
            unfold RefEPost
            rw [HN.out (all_false _ l k hkl (by simpa using hs))]
            exact ⟨(by repeat (first | with_reducible exact Below.refl _ _ | with_reducible refine bl_alloc ?_ _ | with_reducible refine bl_drew ?_ | with_reducible refine bl_drewN ?_ _ | with_reducible refine bl_bx ?_ _ | with_reducible exact BX.below _ | with_reducible refine bl_set ?_ (by first | (exact Nat.le_refl _) | (simp; done) | (simp; omega)) _ | assumption)), rfl⟩
        · obtain rfl : k = m := by omega
          have hall := HAll.out
          rw [List.take_of_length_le (by rw [HL.out]; omega)] at hall HO HLk
          have HE2 := Lib.hid (HE.out hall)
          clear hall
          go_wp2
          go_loopw [4, 40, 41, 42, 43, 44, 45] (fun v _ _ _ _ _ _ wr => ∃ (j : Nat) (A' : Option Addr) (c' : Nat), 2 + 3 * k + j ≤ 8 ∧ v = .slice A' (2 + 3 * k + j) c' ∧ OwnI .u64 26 wr (w.heap.size + 1) A' c' (([1, (k : Int)] ++ namesW l) ++ List.replicate j 0) ∧ Below (w.alloc (.cells #[.bool true, .slice A k c, .bool has, .int .i64 n] 24)).heap.size (w.alloc (.cells #[.bool true, .slice A k c, .bool has, .int .i64 n] 24)) wr) (fun v _ _ _ _ _ _ _ => 8 - sliceLen v)
          case atStart => exact ⟨0, _, _, by omega, rfl, by simpa using HO.out, z.below⟩
          case round =>
            obtain ⟨j, A2, c2, hj, rfl, hO2, hB2⟩ := hrel
            obtain ⟨y, rfl⟩ := bx_of hB2
            have HO2 := Lib.hid hO2
            have hyw : w.heap.size < y.w.heap.size := y.lt_size (by first | (simp; done) | (simp; omega) | omega)
            have hlenj : (([1, (k : Int)] ++ namesW l) ++ List.replicate j 0).length = 2 + 3 * k + j := by rw [List.length_append, HLk.out, List.length_replicate]
            have HLj := Lib.hid hlenj
            have HBs : Hid (w.heap.size + 1 ≤ (y.w.alloc (.cells #[.int .u64 0] 26)).heap.size) := (by show _ ≤ _; simp; omega)
            clear hO2 hB2 hlenj
            by_cases hlt : 2 + 3 * k + j < 8
            · have hlt' : ((2 + 3 * k + j : Nat) : Int) < 8 := by omega
              go_wp2_with (at_builtin; refine wpList_append_ints rfl (.tmp 43) (.tmp 44) 31 rfl 26 .u64 8 Try.underlying31 info_u64 (by omega) (w.heap.size + 1) A2 c2 (([1, (k : Int)] ++ namesW l) ++ List.replicate j 0) (2 + 3 * k + j) _ _ _ [0] rfl rfl HLj.out (HO2.out.alloc _) rfl (rd_one _ _ _ _) (by rw [HLj.out]; simp; omega) HBs.out ?_; intro A3 c3 w3 HO3 HC3 HW3)
              have h6 := HO3.out
              rw [List.append_assoc, show List.replicate j (0 : Int) ++ [0] = List.replicate (j + 1) 0 from by rw [List.replicate_succ']] at h6
              have h7 := bl_ch (bl_alloc y.below _) HC3.out (fun b hb => by have := (HO2.out.lt hb).1; simpa using this)
              go_roundw
              case rel => exact ⟨j + 1, A3, c3, by omega, rfl, h6, h7⟩
              case measure => simp [sliceLen]; omega
            · have hlt' : ¬ ((2 + 3 * k + j : Nat) : Int) < 8 := by omega
              obtain rfl : j = 6 - 3 * k := by omega
              cases has
              · have HBs2 : Hid (w.heap.size + 1 ≤ (y.w.alloc (.cells #[.int .u64 0, .int .u64 0] 26)).heap.size) := (by show _ ≤ _; simp; omega)
                go_wp2_with (at_builtin; refine wpList_append_ints rfl (.tmp 54) (.tmp 55) 31 rfl 26 .u64 8 Try.underlying31 info_u64 (by omega) (w.heap.size + 1) A2 c2 (([1, (k : Int)] ++ namesW l) ++ List.replicate (6 - 3 * k) 0) (2 + 3 * k + (6 - 3 * k)) _ _ _ [0, 0] rfl rfl HLj.out (HO2.out.alloc _) rfl (rd_lit [0, 0] rfl) (by rw [HLj.out]; simp; omega) HBs2.out ?_; intro A3 c3 w3 HO3 HC3 HW3)
                have h6 := HO3.out
                have h7 := bl_ch (bl_alloc (bl_bx (bl_alloc (Below.refl _ _) _) y) _) HC3.out (fun b hb => by have := (HO2.out.lt hb).1; omega)
                go_ret2
                unfold RefEPost
                rw [HE2.out]
                exact ⟨h7, A3, c3, by rw [show 2 + 3 * k + (6 - 3 * k) + 2 = 10 by omega]; rfl, h6.rd, by simp only [List.length_append, HLj.out] at *; rw [length_encO]; omega, fun b hb => by have := (h6.lt hb).1; omega⟩
              · have HBs2 : Hid (w.heap.size + 1 ≤ (y.w.alloc (.cells #[.int .u64 1, .int .u64 (IntKind.u64.wrap n)] 26)).heap.size) := (by show _ ≤ _; simp; omega)
                go_wp2_with (at_builtin; refine wpList_append_ints rfl (.tmp 48) (.tmp 52) 31 rfl 26 .u64 8 Try.underlying31 info_u64 (by omega) (w.heap.size + 1) A2 c2 (([1, (k : Int)] ++ namesW l) ++ List.replicate (6 - 3 * k) 0) (2 + 3 * k + (6 - 3 * k)) _ _ _ [1, IntKind.u64.wrap n] rfl rfl HLj.out (HO2.out.alloc _) rfl (rd_lit [1, IntKind.u64.wrap n] rfl) (by rw [HLj.out]; simp; omega) HBs2.out ?_; intro A3 c3 w3 HO3 HC3 HW3)
                have h6 := HO3.out
                have h7 := bl_ch (bl_alloc (bl_bx (bl_alloc (Below.refl _ _) _) y) _) HC3.out (fun b hb => by have := (HO2.out.lt hb).1; omega)
                go_ret2
                unfold RefEPost
                rw [HE2.out]
                exact ⟨h7, A3, c3, by rw [show 2 + 3 * k + (6 - 3 * k) + 2 = 10 by omega]; rfl, h6.rd, by simp only [List.length_append, HLj.out] at *; rw [length_encO]; omega, fun b hb => by have := (h6.lt hb).1; omega⟩
end Go.Proofs.Ytlbgmoijepknbaa
