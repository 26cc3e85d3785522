/- The law RecordArrays returns true: the walk. -/
import Derived.Test.YtlbgmoijepknbaaArrays
namespace Go.Proofs.Ytlbgmoijepknbaa
open Go.RowKit
set_option linter.unusedVariables false

set_option maxRecDepth 100000 in
set_option maxHeartbeats 8000000 in
theorem law_RecordArrays (w : World) (n0 : Int) (hn0 : -9223372036854775808 ≤ n0 ∧ n0 < 9223372036854775808) (A : Option Addr) (n1 c1 : Nat) (hc1 : n1 ≤ c1) (hm1 : c1 ≤ 9223372036854775807) (B : Option Addr) (n2 c2 : Nat) (hc2 : n2 ≤ c2) (hm2 : c2 ≤ 9223372036854775807)
    (N : Int) (hN : imin n0 40 = N) (hN40 : N ≤ 40) (hNlo : -9223372036854775808 ≤ N) (m1 : Nat) (hm1' : imin (n1 : Int) 50 = (m1 : Int)) (hm150 : m1 ≤ 50) (hm1c : m1 ≤ c1) (m2 : Nat) (hm2' : imin (n2 : Int) 50 = (m2 : Int)) (hm2c : m2 ≤ c2)
    (l : List Int) (hl : l.length = m1) (hR : Rd .i64 w A l)
    (k : Nat) (is : Bool) (ms : List Int) (hms : ms.length = k) (hk : k ≤ 50) (hmx : ∀ x ∈ ms, 0 ≤ x ∧ x < 18446744073709551616)
    (hU : ∀ W, Below w.heap.size w W → Calls Try.prog 46 #[.int .i64 N, .slice B m2 c2] W (UaPost W k is ms))
    (hD : ∀ W, Below w.heap.size w W → Calls Try.prog 47 #[.agg #[.int .i64 N, .iface 80 (.agg #[])], .slice B m2 c2] W (AdPost W k is ms)) :
    Calls Try.prog 8 #[.int .i64 n0, .slice A n1 c1, .slice B n2 c2] w fun e w' => e = .returned (.bool true) ∧ Below w.heap.size w w' := by
  have HU := Lib.hid hU
  have HD := Lib.hid hD
  have HL := Lib.hid hl
  have HR := Lib.hid hR
  have HMS := Lib.hid hms
  have HMX := Lib.hid hmx
  have hmax : imax (N + 1) 0 = arrW N := by
    rcases imax_cases (N + 1) 0 with ⟨h, h'⟩ | ⟨h, h'⟩
    · rw [h]
      by_cases h0 : N < 0
      · rw [arrW_neg h0]; omega
      · rw [arrW_ok h0 (by omega)]; omega
    · rw [h, arrW_neg (by omega)]
  obtain ⟨Z, hZ, hZ0⟩ : ∃ Z : Nat, arrW N = (Z : Int) ∧ Z ≤ 41 := by
    by_cases h0 : N < 0
    · exact ⟨0, arrW_neg h0, by omega⟩
    · exact ⟨(N + 1).toNat, by rw [arrW_ok h0 (by omega)]; omega, by omega⟩
  rw [hZ] at hmax
  have HZ := Lib.hid hZ
  clear hU hD hl hR hms hmx hZ
  go_enter Try.func8, Try.ntmps8
  go_wp2_with (go_at_call 12; refine (awake_any _).mono ?_; rintro e w' ⟨rfl, hb⟩; obtain ⟨x, rfl⟩ := bx_of hb; clear hb)
  refine (arrIWords _ N).mono ?_
  rw [HZ.out]
  rintro e w1 ⟨rfl, hb1⟩
  obtain ⟨y, rfl⟩ := bx_of hb1
  clear hb1
  go_wp2
  go_loopw [41, 8, 10, 42, 43, 44, 45, 46, 47, 48, 49, 50] (fun i v _ _ _ _ _ _ _ _ _ _ wr => ∃ (j : Nat) (A' : Option Addr) (c' : Nat), j ≤ m1 ∧ i = .int .i64 j ∧ v = .slice A' j c' ∧ OwnI .u64 26 wr (x.w.heap.size + 1) A' c' ((l.take j).map IntKind.u64.wrap) ∧ Below (x.w.alloc (.cells #[.int .i64 N, .iface 80 (.agg #[])] 100)).heap.size (x.w.alloc (.cells #[.int .i64 N, .iface 80 (.agg #[])] 100)) wr) (fun i _ _ _ _ _ _ _ _ _ _ _ _ => m1 - (intOf i).toNat)
  case atStart => exact ⟨0, none, 0, Nat.zero_le _, rfl, rfl, OwnI.nil, y.below⟩
  case round =>
    obtain ⟨j, A', c', hj, rfl, rfl, hO, hB⟩ := hrel
    obtain ⟨z, rfl⟩ := bx_of hB
    have HO := Lib.hid hO
    have hLj : ((l.take j).map IntKind.u64.wrap).length = j := by simp; have := HL.out; omega
    have HLj := Lib.hid hLj
    have hzx : x.w.heap.size < z.w.heap.size := z.lt_size (by simp)
    clear hO hB hLj
    by_cases hlt : j < m1
    · have hlt' : j < l.length := by rw [HL.out]; exact hlt
      have hBz : Below w.heap.size w z.w := bl_bx (bl_alloc x.below _) z
      obtain ⟨b, o, rfl, _, hc⟩ := (HR.out.below hBz).at_ hlt'
      clear hBz
      go_wp2_with (at_builtin; refine wpList_append_ints rfl (.tmp 45) (.tmp 48) 31 rfl 26 .u64 8 Try.underlying31 info_u64 (by omega) (x.w.heap.size + 1) A' c' ((l.take j).map IntKind.u64.wrap) j _ _ _ [IntKind.u64.wrap l[j]] rfl rfl HLj.out (HO.out.alloc _) rfl (rd_one _ _ _ _) (by rw [HLj.out]; simp; omega) (by simp; omega) ?_; intro A2 c2' w2 HO3 HC3 HW3)
      have h6 := HO3.out
      have e6 : (l.take j).map IntKind.u64.wrap ++ [IntKind.u64.wrap l[j]] = (l.take (j + 1)).map IntKind.u64.wrap := by rw [List.take_succ_eq_append_getElem hlt']; simp only [List.map_append, List.map_cons, List.map_nil]
      rw [e6] at h6
      have h7 := bl_ch (bl_alloc z.below _) HC3.out (fun b hb => by have := (HO.out.lt hb).1; simpa using this)
      go_roundw
      case rel => exact ⟨j + 1, A2, c2', by omega, by go_num, rfl, h6, h7⟩
      case measure => simp [intOf]; omega
    · obtain rfl : j = m1 := by omega
      have e1 : (l.take j).map IntKind.u64.wrap = l.map IntKind.u64.wrap := by rw [List.take_of_length_le (by rw [HL.out]; omega)]
      rw [e1] at HO HLj
      clear e1
      go_wp2_with fail
      refine (blank_any _ Z (by omega)).mono ?_
      rintro e w3 ⟨rfl, hI3, hb3⟩
      obtain ⟨x3, rfl⟩ := bx_of hb3
      have HI3 := Lib.hid hI3
      have hg3 := hI3.lt
      clear hb3 hI3
      have c0 : x3.w.cell? ⟨x.w.heap.size, 0, none⟩ = some (.int .i64 N) := by rw [x3.cell _ _ hzx, z.cell _ _ (by simp)]; simp
      have c1' : x3.w.cell? ⟨x.w.heap.size, 1, none⟩ = some (.iface 80 (.agg #[])) := by rw [x3.cell _ _ hzx, z.cell _ _ (by simp)]; simp
      have hx3 : x.w.heap.size < x3.w.heap.size := x3.lt_size hzx
      by_cases hok : 0 ≤ N ∧ (j : Int) ≤ N
      · obtain ⟨NN, rfl⟩ := Int.eq_ofNat_of_zero_le hok.1
        obtain rfl : Z = NN + 1 := by have := HZ.out; rw [arrW_ok (by omega) (by omega)] at this; omega
        have hjN : j ≤ NN := by omega
        have hA := refArray_ok x3.w NN (by omega) A' c' (l.map IntKind.u64.wrap) ((HO.out.bx x3).rd) (by rw [HLj.out]; exact hjN)
        rw [HLj.out] at hA
        have HA := Lib.hid hA
        clear hA hok
        go_wp2_with fail
        refine HA.out.mono ?_
        rintro e w4 ⟨⟨A4, c4, rfl, hR4⟩, hb4⟩
        obtain ⟨x4, rfl⟩ := bx_of hb4
        have HR4 := Lib.hid hR4
        clear hb4 hR4
        have hE := arrIEncode_ok x4.w NN (by omega) A c1 l (HR.out.below (bl_bx (bl_bx (bl_bx (bl_alloc x.below _) z) x3) x4)) (by rw [HL.out]; exact hjN) (z.w.heap.size + 1) 0 (NN + 1) (List.replicate (NN + 1) 7) (HI3.out.bx x4) (by simp)
        rw [HL.out] at hE
        have HE := Lib.hid hE
        clear hE
        go_wp2_with fail
        refine HE.out.mono ?_
        rintro e w5 ⟨rfl, hI5, hC5⟩
        have e5 : splice (List.replicate (NN + 1) 7) 0 (arrEnc NN l) = arrEncU NN (l.map IntKind.u64.wrap) := by
          have : (arrEnc NN l).length = NN + 1 := by simp [arrEnc]; have := HL.out; omega
          rw [← arrEnc_eq]; simp [splice, this]
        rw [e5] at hI5
        have HI5 := Lib.hid hI5
        have HC5 := Lib.hid hC5
        have hlen5 : (arrEncU NN (l.map IntKind.u64.wrap)).length = NN + 1 := by simp [arrEncU]; have := HL.out; omega
        have HL5 := Lib.hid hlen5
        have hR4' : Rd .u64 w5 A4 (arrEncU NN (l.map IntKind.u64.wrap)) := (HR4.out.ch hC5 (fun b hb => by have := (HR4.out.lt hb).1; unfold At; omega)).rd
        have HR4' := Lib.hid hR4'
        clear hI5 hC5 e5 hlen5 hR4'
        go_wp2_with fail
        refine (equalU_n _ _ _ (NN + 1) (NN + 1) _ _ _ _ HL5.out HL5.out HI5.out.rd0 HR4'.out (by omega) (by omega)).mono ?_
        rw [show (arrEncU NN (l.map IntKind.u64.wrap) == arrEncU NN (l.map IntKind.u64.wrap)) = true from by simp]
        rintro e w6 ⟨rfl, n6, rfl⟩
        have hB5 : Below w.heap.size w (w5.drewN n6) := bl_drewN (bl_ch (bl_bx (bl_bx (bl_bx (bl_alloc x.below _) z) x3) x4) HC5.out (fun b hb => by unfold At at hb; have := x.size; omega)) n6
        have HBz := Lib.hid hB5
        have d0 : w5.cell? ⟨x.w.heap.size, 0, none⟩ = some (.int .i64 (NN : Int)) := by rw [HC5.out.cells _ _ (x4.lt_size hx3) (by unfold At; omega), x4.cell _ _ hx3]; exact c0
        have d1 : w5.cell? ⟨x.w.heap.size, 1, none⟩ = some (.iface 80 (.agg #[])) := by rw [HC5.out.cells _ _ (x4.lt_size hx3) (by unfold At; omega), x4.cell _ _ hx3]; exact c1'
        clear hB5
        go_wp2_with fail
        refine (HU.out _ HBz.out).mono ?_
        rintro e w7 ⟨⟨A7, c7, rfl, hR7⟩, rfl⟩
        have HR7 := Lib.hid hR7
        clear hR7
        go_wp2_with fail
        refine (HD.out _ HBz.out).mono ?_
        rintro e w8 ⟨⟨A8, c8, rfl, hR8⟩, hb8⟩
        obtain ⟨x8, rfl⟩ := bx_of hb8
        have HR8 := Lib.hid hR8
        have HR7' := Lib.hid (HR7.out.below x8.below)
        have HB8 := Lib.hid (bl_bx HBz.out x8)
        clear hb8 hR8
        go_wp2
        go_loop [118, 18, 19, 119, 120, 121, 122, 123, 124, 125, 126, 127, 128, 129, 130] (fun i _ _ _ _ _ _ _ _ _ _ _ _ _ _ => ∃ q : Nat, q ≤ k ∧ i = .int .i64 q) (fun i _ _ _ _ _ _ _ _ _ _ _ _ _ _ => k - (intOf i).toNat)
        case atStart => exact ⟨0, Nat.zero_le _, rfl⟩
        case round =>
          obtain ⟨q, hq, rfl⟩ := hrel
          by_cases hqk : q < k
          · have hq' : q < ms.length := by rw [HMS.out]; exact hqk
            have hq2 : q < (ms.map wrap64).length := by simpa using hq'
            obtain ⟨b7, o7, hA7, hb7', hc7⟩ := HR7'.out.at_ hq'
            obtain ⟨b8, o8, hA8, hb8', hc8⟩ := HR8.out.at_ hq2
            rw [List.getElem_map] at hc8
            have hwx := u64_wrap64 ms[q] (HMX.out _ (List.getElem_mem hq')).1 (HMX.out _ (List.getElem_mem hq')).2
            subst hA7 hA8
            go_wp2
            go_round
            case rel => exact ⟨q + 1, by omega, by go_num⟩
            case measure => simp [intOf]; omega
          · go_wp2
            go_ret
            exact ⟨rfl, HB8.out⟩
      · have hno : N < 0 ∨ 4096 ≤ N ∨ N < (j : Int) := by omega
        have hno2 : arrW N = 0 ∨ ((Z : Nat) : Int) ≠ arrW N ∨ N < (j : Int) := by
          rcases hno with h | h | h
          · exact .inl (arrW_neg h)
          · omega
          · exact .inr (.inr h)
        go_wp2_with fail
        refine (refArray_no _ N A' j c' hno).mono ?_
        rintro e w4 ⟨rfl, rfl⟩
        go_wp2_with fail
        refine (arrIEncode_no _ N _ _ j Z _ _ hno2).mono ?_
        rintro e w5 ⟨rfl, hb5⟩
        obtain ⟨x5, rfl⟩ := bx_of hb5
        clear hb5
        go_wp2_with fail
        refine (blank_any _ Z (by omega)).mono ?_
        rintro e w6 ⟨rfl, hI6, hb6⟩
        obtain ⟨x6, rfl⟩ := bx_of hb6
        have HI6 := Lib.hid hI6
        clear hb6 hI6
        go_wp2_with fail
        refine (equalU_n _ _ _ Z Z _ _ (List.replicate Z 7) (List.replicate Z 7) (by simp) (by simp) (by exact ((HI3.out.bx x5).bx x6).rd0) (by exact HI6.out.rd0) (by omega) (by omega)).mono ?_
        rw [show (List.replicate Z (7 : Int) == List.replicate Z 7) = true from by simp]
        rintro e w7 ⟨rfl, n6, rfl⟩
        have hB5 : Below w.heap.size w (x6.w.drewN n6) := bl_drewN (bl_bx (bl_bx (bl_bx (bl_bx (bl_alloc x.below _) z) x3) x5) x6) n6
        have HBz := Lib.hid hB5
        have d0 : x6.w.cell? ⟨x.w.heap.size, 0, none⟩ = some (.int .i64 N) := by rw [x6.cell _ _ (x5.lt_size hx3), x5.cell _ _ hx3]; exact c0
        have d1 : x6.w.cell? ⟨x.w.heap.size, 1, none⟩ = some (.iface 80 (.agg #[])) := by rw [x6.cell _ _ (x5.lt_size hx3), x5.cell _ _ hx3]; exact c1'
        clear hB5
        go_wp2_with fail
        refine (HU.out _ HBz.out).mono ?_
        rintro e w7 ⟨⟨A7, c7, rfl, hR7⟩, rfl⟩
        have HR7 := Lib.hid hR7
        clear hR7
        go_wp2_with fail
        refine (HD.out _ HBz.out).mono ?_
        rintro e w8 ⟨⟨A8, c8, rfl, hR8⟩, hb8⟩
        obtain ⟨x8, rfl⟩ := bx_of hb8
        have HR8 := Lib.hid hR8
        have HR7' := Lib.hid (HR7.out.below x8.below)
        have HB8 := Lib.hid (bl_bx HBz.out x8)
        clear hb8 hR8
        go_wp2
        go_loop [118, 18, 19, 119, 120, 121, 122, 123, 124, 125, 126, 127, 128, 129, 130] (fun i _ _ _ _ _ _ _ _ _ _ _ _ _ _ => ∃ q : Nat, q ≤ k ∧ i = .int .i64 q) (fun i _ _ _ _ _ _ _ _ _ _ _ _ _ _ => k - (intOf i).toNat)
        case atStart => exact ⟨0, Nat.zero_le _, rfl⟩
        case round =>
          obtain ⟨q, hq, rfl⟩ := hrel
          by_cases hqk : q < k
          · have hq' : q < ms.length := by rw [HMS.out]; exact hqk
            have hq2 : q < (ms.map wrap64).length := by simpa using hq'
            obtain ⟨b7, o7, hA7, hb7', hc7⟩ := HR7'.out.at_ hq'
            obtain ⟨b8, o8, hA8, hb8', hc8⟩ := HR8.out.at_ hq2
            rw [List.getElem_map] at hc8
            have hwx := u64_wrap64 ms[q] (HMX.out _ (List.getElem_mem hq')).1 (HMX.out _ (List.getElem_mem hq')).2
            subst hA7 hA8
            go_wp2
            go_round
            case rel => exact ⟨q + 1, by omega, by go_num⟩
            case measure => simp [intOf]; omega
          · go_wp2
            go_ret
            exact ⟨rfl, HB8.out⟩
end Go.Proofs.Ytlbgmoijepknbaa
