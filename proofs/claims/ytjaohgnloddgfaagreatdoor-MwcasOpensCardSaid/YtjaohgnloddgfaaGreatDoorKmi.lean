/- The law's functions on mwcas: Setup, awake (merged). -/
import Derived.Test.YtjaohgnloddgfaaGreatDoorKmh
import Derived.Test.YtjaohgnloddgfaaGreatDoorKmb
namespace Go.Proofs.YtjaohgnloddgfaaGreatDoor
open Go.RowKit
set_option linter.unusedVariables false
set_option linter.unusedSimpArgs false

theorem mod17 (w : World) (a : Int) (ha : -9223372036854775808 ≤ a ∧ a < 9223372036854775808) (n : Int) (hn : 1 ≤ n ∧ n ≤ 1000) : Calls Tryz.prog 27 #[.int .i64 a, .int .i64 n] w fun r w' => r = .returned (.int .i64 (a % n)) ∧ w = w' := by
  obtain ⟨a1, a2⟩ := ha
  obtain ⟨n1, n2⟩ := hn
  have h1 : -n < a.tmod n := by have := Int.lt_tmod_of_pos a (show 0 < n by omega); omega
  have h2 : a.tmod n < n := Int.tmod_lt_of_pos a (by omega)
  have hw : IntKind.i64.wrap (a.tmod n + n) = a.tmod n + n := IntWalk.i64_in _ (by omega)
  have hr : (a.tmod n + n) % n = a % n := by
    rw [Int.add_emod_right]
    have := Int.tmod_add_mul_tdiv a n
    have h3 : a % n = (a.tmod n + n * a.tdiv n) % n := by rw [this]
    rw [h3, Int.add_mul_emod_self_left]
  have hn0 : (n == 0) = false := by simp; omega
  have hn0' : ¬ n = 0 := by omega
  have HR := Lib.hid hr
  clear hr
  go_enter Tryz.func27, Tryz.ntmps27
  go_wp2
  go_ret
  exact ⟨ret_int HR.out, rfl⟩
theorem off17 (w : World) (i : Nat) (hi : i < 8) : Calls Tryz.prog 26 #[.int .i64 (i : Int)] w fun r w' => r = .returned (.int .u64 (8 * ((288 + i : Nat) : Int))) ∧ w = w' := by
  have e1 : IntKind.i64.wrap (8 * (i : Int)) = 8 * (i : Int) := IntWalk.i64_in _ (by omega)
  have e2 : IntKind.i64.wrap (2304 + 8 * (i : Int)) = 2304 + 8 * (i : Int) := IntWalk.i64_in _ (by omega)
  have e3 : IntKind.u64.wrap (2304 + 8 * (i : Int)) = 2304 + 8 * (i : Int) := IntWalk.u64_in _ (by omega)
  have HE : Hid (8 * ((288 + i : Nat) : Int) = 2304 + 8 * (i : Int)) := by show _ = _; omega
  rw [HE.out]
  go_enter Tryz.func26, Tryz.ntmps26
  go_wp2
  go_ret
  exact ⟨rfl, rfl⟩
/-- Eight values below 256. -/
def vals17 (zs : List Int) : List Int := (List.range 8).map fun j => gt0 zs j % 256
def setW (vs : List Int) : List (Int × Int) := (List.range 8).map fun j => (8 * ((288 + j : Nat) : Int), gt0 vs j)
theorem setW_take (vs : List Int) {j : Nat} (hj : j < 8) : (setW vs).take (j + 1) = (setW vs).take j ++ [(8 * ((288 + j : Nat) : Int), gt0 vs j)] := by
  rw [List.take_succ_eq_append_getElem (by simp [setW]; exact hj)]
  congr 2
  simp [setW]
theorem length_setW (vs : List Int) : (setW vs).length = 8 := by simp [setW]
/-- The words of the law's device. -/
def xsS (vs : List Int) : List Int := applyW (applyW (List.replicate 320 0) (setW vs)) (fmt17 0 8)
/-- The law's pool: whatever was there is not its. -/
def SetPost (w : World) (vs : List Int) (e : Ending) (w' : World) : Prop :=
  ∃ (p d : Nat) (t : Nat → Nat) (S : DevS), e = .returned (.tuple #[.pointer (some ⟨d, 0, none⟩), .pointer (some ⟨p, 0, none⟩)]) ∧ PMx (fun b => b < w.heap.size) p d t 0 32 (40 * 64) w' { dev := S, busy := List.replicate 8 false, cur := none, ops := fun _ => none } ∧ Clean S 40 (xsS vs) 200 ∧ Below w.heap.size w w'
theorem setW_mem {vs : List Int} {q : Int × Int} (h : q ∈ setW vs) : ∃ j : Nat, j < 8 ∧ q = (8 * ((288 + j : Nat) : Int), gt0 vs j) := by
  obtain ⟨j, hj, rfl⟩ := List.mem_map.1 h
  exact ⟨j, by simpa using hj, rfl⟩
theorem applyW_fits17 (ws : List (Int × Int)) (hw : ∀ p ∈ ws, 0 ≤ p.2 ∧ p.2 < 18446744073709551616) : ∀ xs, Fits xs → Fits (applyW xs ws) := by
  induction ws with
  | nil => intro xs h; exact h
  | cons p ws ih =>
    intro xs h
    have e : applyW xs (p :: ws) = applyW (xs.set (p.1 / 8).toNat p.2) ws := rfl
    rw [e]
    refine ih (fun q hq => hw q (by simp [hq])) _ (fun x hx => ?_)
    rcases List.mem_or_eq_of_mem_set hx with hx | hx
    · exact h x hx
    · rw [hx]; exact hw p (by simp)
theorem new_clean17 (xs : List Int) (n : Nat) (hx : xs.length = 8 * n) : Clean (newS xs n) n xs 0 := by
  have h := new_on xs n hx
  refine ⟨h.good, h.nl, rfl, rfl, rfl, rfl, fun q l hl => ?_, fun _ => rfl, fun _ _ => rfl⟩
  simp only [newS, List.getElem?_replicate] at hl
  split at hl
  · injection hl with hl; rw [← hl]
  · cases hl
theorem applyW_idx (idx : Nat → Nat) (hinj : ∀ i j, idx i = idx j → i = j) (f : Nat → Int) (xs : List Int) : ∀ m j, j < m → idx j < xs.length → (applyW xs ((List.range m).map fun j => (8 * ((idx j : Nat) : Int), f j)))[idx j]? = some (f j)
  | 0, j, h, _ => by omega
  | m + 1, j, h, hl => by
    rw [List.range_succ, List.map_append, List.map_cons, List.map_nil, applyW_snoc]
    have e : (8 * ((idx m : Nat) : Int) / 8).toNat = idx m := by omega
    rw [e, List.getElem?_set]
    by_cases hj : j = m
    · subst hj
      rw [if_pos rfl, if_pos (by rw [length_applyW]; exact hl)]
    · rw [if_neg (fun he => hj (hinj _ _ he.symm))]
      exact applyW_idx idx hinj f xs m j (by omega) hl
theorem length_xsS (vs : List Int) : (xsS vs).length = 320 := by unfold xsS; rw [length_applyW, length_applyW, List.length_replicate]
theorem xsS_unused (vs : List Int) (k : Nat) (hk : k < 8) : (xsS vs)[8 * (0 + 4 * k)]? = some 1836515329 := by
  unfold xsS
  have := applyW_idx (fun k => 8 * (0 + 4 * k)) (fun i j h => by have h' : 8 * (0 + 4 * i) = 8 * (0 + 4 * j) := h; omega) (fun _ => 1836515329) (applyW (List.replicate 320 0) (setW vs)) 8 k hk (by rw [length_applyW, List.length_replicate]; show 8 * (0 + 4 * k) < 320; omega)
  exact this
theorem xsS_word (vs : List Int) (j : Nat) (hj : j < 8) : (xsS vs)[288 + j]? = some (gt0 vs j) := by
  unfold xsS
  rw [applyW_none _ _ (fun p hp => by
    obtain ⟨k, hk, hp1⟩ := fmt17_mem hp
    rw [hp1]; unfold atW; omega)]
  exact applyW_idx (fun j => 288 + j) (fun i j h => by have h' : 288 + i = 288 + j := h; omega) (fun j => gt0 vs j) (List.replicate 320 0) 8 j hj (by rw [List.length_replicate]; show 288 + j < 320; omega)
theorem xsS_fits (vs : List Int) (hv : ∀ j, 0 ≤ gt0 vs j ∧ gt0 vs j < 256) : Fits (xsS vs) := by
  unfold xsS
  refine applyW_fits17 _ (fun p hp => ?_) _ (applyW_fits17 _ (fun p hp => ?_) _ (fun x hx => ?_))
  · unfold fmt17 at hp
    obtain ⟨k, _, rfl⟩ := List.mem_map.1 hp
    exact ⟨by show (0 : Int) ≤ 1836515329; omega, by show (1836515329 : Int) < 18446744073709551616; omega⟩
  · obtain ⟨j, _, rfl⟩ := setW_mem hp
    have := hv j
    exact ⟨this.1, by show gt0 vs j < _; omega⟩
  · have := List.eq_of_mem_replicate hx
    rw [this]; exact ⟨by decide, by decide⟩
set_option maxRecDepth 100000 in
set_option maxHeartbeats 4000000 in
theorem setup17 (w : World) (A : Option Addr) (c : Nat) (vs : List Int) (hvl : vs.length = 8) (hR : Rd .u64 w A vs) (hv : ∀ j, 0 ≤ gt0 vs j ∧ gt0 vs j < 256) :
    Calls Tryz.prog 13 #[.slice A 8 c] w (SetPost w vs) := by
  have HR := Lib.hid hR
  have HVL := Lib.hid hvl
  have HV := Lib.hid hv
  clear hR hvl hv
  go_enter Tryz.func13, Tryz.ntmps13
  go_wp2_with (first
    | (go_at_call 38; refine (devNew _ 40 (by omega) (by omega)).mono ?_; rintro e w1 ⟨d, L, rfl, hD, hb, hF⟩; have HB := Lib.hid hb; have HV0 : Hid (DV (fun b => w.heap.size ≤ b) d L.t w1 (newS (List.replicate (8 * 40) 0) 40)) := ⟨(fun b hb' => by have h1 := hb.size; omega), L, rfl, hD, (fun b hb' => hF b hb')⟩; clear hb hD hF)
    | (go_at_call 24; refine (vThread HV0.out 0 (by omega)).mono ?_; rintro e w' ⟨rfl, rfl⟩))
  have HI0 : Hid (∃ S', DV (fun b => w.heap.size ≤ b) d L.t w1 S' ∧ Mid S' 0 40 (List.replicate 320 0) ((setW vs).take 0) [] 0 ∧ Below w.heap.size w w1) := ⟨_, HV0.out, (new_clean17 _ 40 (by simp)).mid 0, HB.out⟩
  obtain ⟨t, ht⟩ : ∃ t, L.t = t := ⟨_, rfl⟩
  rw [ht] at HI0 ⊢
  clear HV0 HB ht
  go_loopw [20, 7, 8, 21, 22, 23, 24, 25, 26, 27, 28, 29, 30] (fun i _ _ _ _ _ _ _ _ _ _ _ _ wr => ∃ j : Nat, j ≤ 8 ∧ i = .int .i64 j ∧ ∃ S', DV (fun b => w.heap.size ≤ b) d t wr S' ∧ Mid S' 0 40 (List.replicate 320 0) ((setW vs).take j) [] j ∧ Below w.heap.size w wr) (fun i _ _ _ _ _ _ _ _ _ _ _ _ _ => 8 - (intOf i).toNat)
  case atStart => exact ⟨0, by omega, rfl, HI0.out⟩
  case round =>
    clear HI0
    obtain ⟨j, hj, rfl, S1, hD, hM, hB⟩ := hrel
    have HD := Lib.hid hD
    have HM := Lib.hid hM
    have HB := Lib.hid hB
    by_cases hlt : j < 8
    · have hlt' : (j : Int) < 8 := by omega
      obtain ⟨g, off, hA, hl, hc⟩ := (HR.out.below hB).at_ (i := j) (by rw [HVL.out]; exact hlt)
      rw [← gt0_eq] at hc
      subst hA
      have HOF := Lib.hid (fun W => off17 W j hlt)
      have HST := Lib.hid (storeV hD 0 (by omega) hM.good (by omega) (8 * ((288 + j : Nat) : Int)) (gt0 vs j) (by omega))
      have HMS := Lib.hid (hM.store (k := 288 + j) (by omega) (gt0 vs j))
      obtain ⟨v, hv⟩ : ∃ v, gt0 vs j = v := ⟨_, rfl⟩
      have HVE := Lib.hid hv
      obtain ⟨of, hof⟩ : ∃ of, 8 * ((288 + j : Nat) : Int) = of := ⟨_, rfl⟩
      have HOE := Lib.hid hof
      rw [hv] at hc HST HMS
      rw [hof] at HOF HST HMS
      clear hD hM hB hv hof
      go_wp2_with (first | (go_at_call 26; refine (HOF.out _).mono ?_; rintro e w' ⟨rfl, rfl⟩) | (go_at_call 50; refine HST.out.mono ?_; rintro e w2 ⟨rfl, hD2, hC2⟩; have HD2 := Lib.hid hD2; have HC2 := Lib.hid hC2; clear hD2 hC2))
      refine ⟨⟨j + 1, by omega, by go_num, _, HD2.out, ?_, bl_ch HB.out HC2.out (fun b hb => hb)⟩, by simp [intOf]; omega⟩
      rw [setW_take vs hlt, HVE.out, HOE.out]
      exact HMS.out
    · obtain rfl : j = 8 := by omega
      have e8 : (setW vs).take 8 = setW vs := List.take_of_length_le (by rw [length_setW]; omega)
      rw [e8] at hM
      have HOF : Hid (∀ W, Calls Tryz.prog 26 #[.int .i64 0] W fun e w' => e = .returned (.int .u64 2304) ∧ W = w') := fun W => off17 W 0 (by omega)
      have HFL := Lib.hid (flushV hD 0 (by omega) hM.good (by omega) 2304 (by omega))
      have hM2 := hM.flush (q := 36) (by omega) (by omega)
      have HFE := Lib.hid (fun (W : World) (hD2 : DV (fun b => w.heap.size ≤ b) d t W (S1.flush 0 (64 * ((36 : Nat) : Int)))) => fenceV hD2 0 (by omega) hM2.good (by omega))
      have HCL := Lib.hid (hM2.fence (by omega) (by omega) (fun p hp => by
        obtain ⟨k, hk, rfl⟩ := setW_mem hp
        refine ⟨by dsimp only; omega, ?_⟩
        unfold startOf
        dsimp only
        simp
        omega))
      clear hD hM hB hM2 e8 HD HM
      go_wp2_with (first
        | (go_at_call 26; refine (HOF.out _).mono ?_; rintro e w' ⟨rfl, rfl⟩)
        | (go_at_call 51; refine HFL.out.mono ?_; rintro e w2 ⟨rfl, hD2, hC2⟩; have HD2 := Lib.hid hD2; have HC2 := Lib.hid hC2; clear hD2 hC2)
        | (go_at_call 52; refine (HFE.out _ HD2.out).mono ?_; rintro e w3 ⟨rfl, hD3, hC3⟩; have HD3 := Lib.hid hD3; have HC3 := Lib.hid hC3; clear hD3 hC3)
        | (go_at_call 39; refine (pwFormat HD3.out HCL.out 0 32 (by omega) (by omega) (by omega) 0 (by omega) (by omega)).mono ?_; rintro e w4 ⟨rfl, ⟨S4, hD4, hL4⟩, hC4⟩; have HD4 := Lib.hid hD4; have HL4 := Lib.hid hL4; have HC4 := Lib.hid hC4; clear hD4 hL4 hC4)
        | (go_at_call 40; refine (pwOpen HD4.out HL4.out.cur HL4.out.nl (length_xsS vs) (xsS_fits vs HV.out) 0 32 8 rfl (by omega) (by omega) (by omega) (xsS_unused vs)).mono ?_; rintro e w5 ⟨p, bb, rfl, hp, hbz, hpw, hbw, hne, hb5⟩; have HP5 := Lib.hid hp; have HZ5 := Lib.hid hbz; have HPW := Lib.hid hpw; have HBW := Lib.hid hbw; have HNE := Lib.hid hne; have HB5 := Lib.hid hb5; clear hp hbz hpw hbw hne hb5))
      have hb4 : Below w.heap.size w w4 := bl_ch (bl_ch (bl_ch HB.out HC2.out (fun b hb => hb)) HC3.out (fun b hb => hb)) HC4.out (fun b hb => hb)
      refine bodyPost_ret (v := .tuple #[.pointer (some ⟨d, 0, none⟩), .pointer (some ⟨p, 0, none⟩)]) (by simp [results, Tryz.results13, go_sem]) rfl ?_
      refine ⟨p, d, t, S4, rfl, PMx.new (F := fun b => w.heap.size ≤ b) HD4.out HB5.out HP5.out HZ5.out HPW.out HBW.out HNE.out (fun b hb => ⟨by have := hb4.size; omega, by omega⟩), ?_, hb4.trans (HB5.out.mono hb4.size)⟩
      exact ⟨HL4.out.good.mono (by omega), HL4.out.nl, HL4.out.cur, HL4.out.pers, HL4.out.off, HL4.out.armed, HL4.out.hist, HL4.out.err, HL4.out.notes⟩
end Go.Proofs.YtjaohgnloddgfaaGreatDoor

namespace Go.Proofs.YtjaohgnloddgfaaGreatDoor
open Go.RowKit
set_option linter.unusedVariables false
set_option linter.unusedSimpArgs false

theorem wb_255 (x : Int) (h : 0 ≤ x ∧ x < 18446744073709551616) : bits .and .u64 x 255 = x % 256 := by
  obtain ⟨n, rfl⟩ := Int.eq_ofNat_of_zero_le h.1
  have e := u64_and_nat n 255 (by omega) (by omega)
  rw [show n &&& 255 = n % 2 ^ 8 from Nat.and_two_pow_sub_one_eq_mod n 8] at e
  have e' : bits .and .u64 (n : Int) 255 = ((n % 2 ^ 8 : Nat) : Int) := e
  rw [e']; omega
theorem length_vals17 (zs : List Int) : (vals17 zs).length = 8 := by simp [vals17]
theorem vals17_get (zs : List Int) {j : Nat} (hj : j < 8) : gt0 (vals17 zs) j = gt0 zs j % 256 := by simp [gt0, vals17, hj]
theorem vals17_range (zs : List Int) (j : Nat) : 0 ≤ gt0 (vals17 zs) j ∧ gt0 (vals17 zs) j < 256 := by
  by_cases hj : j < 8
  · rw [vals17_get zs hj]; omega
  · have : gt0 (vals17 zs) j = 0 := by unfold gt0; rw [List.getD_eq_getElem?_getD, List.getElem?_eq_none (by rw [length_vals17]; omega)]; rfl
    rw [this]; omega
/-- The values so far. -/
def valPad (zs : List Int) (j : Nat) : List Int := (List.range 8).map fun i => if i < j then gt0 zs i % 256 else 0
theorem length_valPad (zs : List Int) (j : Nat) : (valPad zs j).length = 8 := by simp [valPad]
theorem valPad_set (zs : List Int) {j : Nat} (hj : j < 8) : (valPad zs j).set j (gt0 zs j % 256) = valPad zs (j + 1) := by
  apply List.ext_getElem
  · simp [valPad]
  · intro i h1 h2
    simp only [valPad, List.getElem_set, List.getElem_map, List.getElem_range]
    by_cases hij : j = i
    · subst hij; simp
    · rw [if_neg hij]
      by_cases hi : i < j
      · rw [if_pos hi, if_pos (by omega)]
      · rw [if_neg hi, if_neg (by omega)]
theorem valPad_skip (zs : List Int) {j : Nat} (hj : zs.length ≤ j) : valPad zs (j + 1) = valPad zs j := by
  unfold valPad
  refine List.map_congr_left (fun i hi => ?_)
  by_cases hij : i = j
  · subst hij
    rw [if_pos (by omega), if_neg (by omega)]
    have : gt0 zs i = 0 := by unfold gt0; rw [List.getD_eq_getElem?_getD, List.getElem?_eq_none (by omega)]; rfl
    rw [this]; rfl
  · by_cases hi2 : i < j
    · rw [if_pos hi2, if_pos (by omega)]
    · rw [if_neg hi2, if_neg (by omega)]
theorem valPad_all (zs : List Int) : valPad zs 8 = vals17 zs := by
  unfold valPad vals17
  refine List.map_congr_left (fun i hi => ?_)
  rw [if_pos (by simpa using hi)]
set_option maxRecDepth 100000 in
set_option maxHeartbeats 2000000 in
theorem values17 (w : World) (A : Option Addr) (n c : Nat) (zs : List Int) (hn : zs.length = n) (hn2 : n < 9223372036854775808) (hR : Rd .u64 w A zs) (hz : ∀ z ∈ zs, 0 ≤ z ∧ z < 18446744073709551616) :
    Calls Tryz.prog 14 #[.slice A n c] w fun e w' => ∃ g, e = .returned (.slice (some ⟨g, 0, none⟩) 8 8) ∧ IB .u64 23 w' g (vals17 zs) ∧ w.heap.size ≤ g ∧ Below w.heap.size w w' := by
  have HR := Lib.hid hR
  have HN := Lib.hid hn
  have HZ := Lib.hid hz
  have hmk := fun W => run_make_z (P := Tryz.prog) 28 23 .u64 .i64 .i64 8 8 rfl Tryz.underlying28 8 info_u64 (by omega) (by omega) W
  clear hR hn hz
  go_enter Tryz.func14, Tryz.ntmps14
  go_wp2
  have HI0 : Hid (IB .u64 23 (w.alloc (.cells (ia .u64 [0, 0, 0, 0, 0, 0, 0, 0]) 23)) w.heap.size (valPad zs 0)) := by
    have e : valPad zs 0 = [0, 0, 0, 0, 0, 0, 0, 0] := by simp [valPad, List.range_succ]
    rw [e]; exact IB.new _ _
  have HB0 : Hid (Below w.heap.size w (w.alloc (.cells (ia .u64 [0, 0, 0, 0, 0, 0, 0, 0]) 23))) := bl_alloc (Below.refl _ _) _
  obtain ⟨g, hg⟩ : ∃ g, w.heap.size = g := ⟨_, rfl⟩
  obtain ⟨W0, hW0⟩ : ∃ W0, w.alloc (.cells (ia .u64 [0, 0, 0, 0, 0, 0, 0, 0]) 23) = W0 := ⟨_, rfl⟩
  have HG : Hid (w.heap.size ≤ g) := by show _ ≤ _; omega
  rw [hW0] at HI0 HB0 ⊢
  rw [hg] at HI0
  rw [hg]
  clear hW0 hg hmk
  go_loopw [8, 4, 9, 10, 11, 12, 13, 14, 15, 16, 17, 18, 19, 20, 21, 22, 23] (fun i _ _ _ _ _ _ _ _ _ _ _ _ _ _ _ _ wr => ∃ j : Nat, j ≤ 8 ∧ i = .int .i64 j ∧ IB .u64 23 wr g (valPad zs j) ∧ Below w.heap.size w wr) (fun i _ _ _ _ _ _ _ _ _ _ _ _ _ _ _ _ _ => 8 - (intOf i).toNat)
  case atStart => exact ⟨0, by omega, rfl, HI0.out, HB0.out⟩
  case round =>
    clear HI0 HB0
    obtain ⟨j, hj, rfl, hI, hB⟩ := hrel
    have HI := Lib.hid hI
    have HB := Lib.hid hB
    have hgl := hI.lt
    have fz := hI.frozen j
    by_cases hlt : j < 8
    · have hlt' : (j : Int) < 8 := by omega
      obtain ⟨ov, hov⟩ : ∃ ov, wr.cell? ⟨g, j, none⟩ = some ov := ⟨_, hI.cell (by rw [length_valPad]; exact hlt)⟩
      by_cases hjn : j < n
      · have hjn' : (j : Int) < (n : Int) := by omega
        obtain ⟨g2, off, hA, hl, hc⟩ := (HR.out.below hB).at_ (i := j) (by rw [HN.out]; exact hjn)
        have hzr := HZ.out _ (List.getElem_mem (by rw [HN.out]; exact hjn : j < zs.length))
        rw [← gt0_eq] at hc hzr
        have e1 := wb_255 _ hzr
        have HVS := Lib.hid (valPad_set zs hlt)
        obtain ⟨z, hzz⟩ : ∃ z, gt0 zs j = z := ⟨_, rfl⟩
        rw [hzz] at hc e1 HVS
        obtain ⟨z2, hz2⟩ : ∃ z2, z % 256 = z2 := ⟨_, rfl⟩
        rw [hz2] at e1 HVS
        subst hA
        clear hI hB hzz hz2 hzr
        go_wp2
        exact ⟨⟨j + 1, by omega, by go_num, by rw [← HVS.out]; exact HI.out.set j z2, bl_set HB.out HG.out _⟩, by simp [intOf]; omega⟩
      · have hjn' : ¬ (j : Int) < (n : Int) := by omega
        have HVS := Lib.hid (valPad_skip zs (j := j) (by rw [HN.out]; omega))
        clear hI hB
        go_wp2
        exact ⟨⟨j + 1, by omega, by go_num, by rw [HVS.out]; exact HI.out, HB.out⟩, by simp [intOf]; omega⟩
    · obtain rfl : j = 8 := by omega
      go_wp2
      go_ret
      exact ⟨g, rfl, by rw [← valPad_all]; exact HI.out, HG.out, HB.out⟩
section
variable {K : Nat → Prop} {p d line lines : Nat} {t : Nat → Nat} {size : Int} {w w' : World} {σ : PwS} {n N : Nat} {xs : List Int} {L : Nat → Int}
def FndPost (w : World) (L : Nat → Int) (e : Ending) (w' : World) : Prop := ∃ A c, e = .returned (.tuple #[.slice A 8 c, .bool true]) ∧ Sl 23 1 w' A 8 c (uints (vsOf L)) ∧ Below w.heap.size w w' ∧ ∀ b, OwnB A b → w.heap.size ≤ b
theorem vsOf_take (L : Nat → Int) {j : Nat} (hj : j < 8) : uints ((vsOf L).take (j + 1)) = uints ((vsOf L).take j) ++ [.int .u64 (L (288 + j) % 1099511627776)] := by
  rw [List.take_succ_eq_append_getElem (by rw [length_vsOf]; exact hj)]
  simp [uints, vsOf]
set_option maxRecDepth 100000 in
set_option maxHeartbeats 2000000 in
theorem found17 (H : PMx K p d t line lines size w σ) (hon : On σ.dev n xs N) (hx : ∀ j, j < 8 → xs[288 + j]? = some (L (288 + j))) (hL : ∀ j, j < 8 → 0 ≤ L (288 + j) ∧ L (288 + j) < 4611686018427387904) :
    Calls Tryz.prog 29 #[.pointer (some ⟨d, 0, none⟩)] w (FndPost w L) := by
  have HX := Lib.hid hx
  have HLR := Lib.hid hL
  have HTH : Hid (∀ W, Below w.heap.size w W → Calls Tryz.prog 24 #[.pointer (some ⟨d, 0, none⟩), .int .i64 0] W fun e w' => e = .returned (.pointer (some ⟨t 0, 0, none⟩)) ∧ W = w') := fun W hW => by
    obtain ⟨role, bb, h, hK⟩ := H.bl0 hW
    exact vThread h.dv 0 (by omega)
  have HLD : Hid (∀ W, Below w.heap.size w W → ∀ j, j < 8 → Calls Tryz.prog 25 #[.pointer (some ⟨t 0, 0, none⟩), .int .u64 (8 * ((288 + j : Nat) : Int))] W fun e w' => e = .returned (.int .u64 (L (288 + j))) ∧ W = w') := fun W hW j hj => by
    obtain ⟨role, bb, h, hK⟩ := H.bl0 hW
    exact vLoad h.dv 0 (by omega) hon.off _ _ (by rw [hon.cur]; exact HX.out j hj)
  clear H hon hx hL
  go_enter Tryz.func29, Tryz.ntmps29
  go_wp2
  go_loopw [10, 4, 5, 6, 7, 8, 9, 11, 12, 13, 14, 15, 16, 17, 18, 19, 20, 21, 22, 23, 24, 25, 26, 27, 28, 29, 30, 31, 32, 33, 34, 35, 36] (fun i l b _ _ _ _ _ _ _ _ _ _ _ _ _ _ _ _ _ _ _ _ _ _ _ _ _ _ _ _ _ _ wr => ∃ (j : Nat) (A : Option Addr) (c : Nat), j ≤ 8 ∧ i = .int .i64 j ∧ l = .slice A j c ∧ b = .bool true ∧ Sl 23 1 wr A j c (uints ((vsOf L).take j)) ∧ Below w.heap.size w wr ∧ ∀ b, OwnB A b → w.heap.size ≤ b) (fun i _ _ _ _ _ _ _ _ _ _ _ _ _ _ _ _ _ _ _ _ _ _ _ _ _ _ _ _ _ _ _ _ _ => 8 - (intOf i).toNat)
  case atStart => exact ⟨0, none, 0, by omega, rfl, rfl, rfl, Sl.nil, Below.refl _ _, by simp [OwnB]⟩
  case round =>
    obtain ⟨j, A, c, hj, rfl, rfl, rfl, hS, hB, hO⟩ := hrel
    have HS := Lib.hid hS
    have HB := Lib.hid hB
    have HO := Lib.hid hO
    by_cases hlt : j < 8
    · have hlt' : (j : Int) < 8 := by omega
      have HOF := Lib.hid (fun W => off17 W j hlt)
      have HLJ := Lib.hid (fun W hW => HLD.out W hW j hlt)
      have hr := HLR.out j hlt
      have HTK := Lib.hid (vsOf_take L hlt)
      obtain ⟨v, hv⟩ : ∃ v, L (288 + j) = v := ⟨_, rfl⟩
      rw [hv] at HLJ hr HTK
      obtain ⟨of, hof⟩ : ∃ of, 8 * ((288 + j : Nat) : Int) = of := ⟨_, rfl⟩
      rw [hof] at HOF HLJ
      have HVA := Lib.hid (fun W => pwValue W v (by omega))
      have hsh : v / 4611686018427387904 = 0 := by omega
      obtain ⟨v2, hv2⟩ : ∃ v2, v % 1099511627776 = v2 := ⟨_, rfl⟩
      rw [hv2] at HVA HTK
      clear hS hB hO hv hof hv2
      go_wp2_with (first
        | (go_at_call 24; refine (HTH.out _ HB.out).mono ?_; rintro e w' ⟨rfl, rfl⟩)
        | (go_at_call 26; refine (HOF.out _).mono ?_; rintro e w' ⟨rfl, rfl⟩)
        | (go_at_call 25; refine (HLJ.out _ HB.out).mono ?_; rintro e w' ⟨rfl, rfl⟩)
        | (go_at_call 66; refine (HVA.out _).mono ?_; rintro e w' ⟨rfl, hb⟩; obtain ⟨x, rfl⟩ := bx_of hb; clear hb)
        | (at_builtin; refine wpList_append_sl rfl (.tmp 32) (.tmp 34) 28 rfl 23 (.int .u64 0) 1 8 rfl (by omega) Tryz.underlying28 info_u64 (by omega) A j c (uints ((vsOf L).take j)) ⟨x.w.heap.size, 0, none⟩ 1 1 [.int .u64 v2] rfl rfl (HS.out.keep (fun b hb => (bl_alloc x.below _).block b (HS.out.lt hb))) rfl (by omega) (cells_one17 x.w 23 _) (by simp; rfl) (by omega) ?_; intro A4 c4 w4 HO4 HC4 HW4 HG4))
      refine ⟨⟨j + 1, A4, c4, by omega, by go_num, rfl, rfl, ?_, bl_ch (HB.out.trans ((bl_alloc x.below _).mono HB.out.size)) HC4.out (fun b hb => HO.out b hb), fun b hb => ?_⟩, by simp [intOf]; omega⟩
      · rw [HTK.out]; exact HO4.out
      · have h1 := HB.out.size
        have h2 := x.size
        rcases HW4.out b hb with h | h
        · exact HO.out b h
        · rw [h]; simp; omega
    · obtain rfl : j = 8 := by omega
      have e8 : (vsOf L).take 8 = vsOf L := List.take_of_length_le (by rw [length_vsOf]; omega)
      rw [e8] at hS
      have HS8 := Lib.hid hS
      clear hS e8 HS
      go_wp2
      exact bodyPost_ret (v := .tuple #[.slice A 8 c, .bool true]) (by simp [results, Tryz.results29, go_sem]) rfl ⟨A, c, rfl, HS8.out, HB.out, HO.out⟩
end
end Go.Proofs.YtjaohgnloddgfaaGreatDoor

namespace Go.Proofs.YtjaohgnloddgfaaGreatDoor
open Go.RowKit
set_option linter.unusedVariables false
set_option linter.unusedSimpArgs false

theorem reg17 : RegOk 40 8 M17 (atW 0) := by
  refine ⟨fun k h => by unfold M17 at h; omega, fun k hk => ⟨8 * (0 + 4 * k), rfl, fun j hj => ⟨by omega, by unfold M17; omega⟩⟩⟩
theorem start17 {e : Ent} (h : EntOk 40 M17 e) : startOf e.off = 2304 := by
  obtain ⟨k, h1, h2, h3⟩ := h.wd
  unfold M17 at h1
  unfold startOf
  omega
/-- An operation that is stepped alone, i steps so far. -/
def Alone (K : Nat → Prop) (p d : Nat) (t : Nat → Nat) (es : List Ent) (L0 : Nat → Int) (a : Nat) (w0 : World) (i : Nat) (dn : Bool) (wr : World) : Prop :=
  ∃ (σ : PwS) (m : MaS) (N : Nat) (xs : List Int) (L : Nat → Int) (ord : List Nat), PMx K p d t 0 32 ((40 : Nat) * 64) wr σ ∧ Inv sumI (atW 0) 40 8 M17 N σ xs L ∧ Ls 40 M17 [.op es] L0 σ [m] i L ord ∧ m.kd = .op es ∧ m.blk = a ∧ m.done = dn ∧ N ≤ 1000 + i ∧ gSum σ [a] + i ≤ 2304 ∧ Ch (fun b => ¬ K b) w0 wr ∧ σ.busy.length = 8 ∧ (∀ b ob, σ.ops b = some ob → 3 * ob.es.length ≤ 18) ∧ (dn = true → ∃ o, σ.ops a = some o ∧ o.ended = true ∧ o.err = 0 ∧ o.changed = m.ok)
section
variable {K : Nat → Prop} {p d a : Nat} {t : Nat → Nat} {es : List Ent} {L0 : Nat → Int} {w0 wr : World} {i : Nat}
theorem aloneStep (h : Alone K p d t es L0 a w0 i false wr) (hK0 : K 0) (hT : Tab w0) :
    Calls Tryz.prog 33 #[.pointer (some ⟨a, 0, none⟩)] wr fun r w' => ∃ b, r = .returned (.bool b) ∧ Alone K p d t es L0 a w0 (i + 1) b w' := by
  obtain ⟨σ, m, N, xs, L, ord, hP, hI, hL, hk, hb, hd, hN, hg, hC, hbl, hes, _⟩ := h
  have hi : ([m] : List MaS)[0]? = some m := rfl
  obtain ⟨o, q1, q2, q3, q4, q5, q6, q7⟩ := (hL.ma 0 m hi).op es hk
  rw [hb] at q1
  have hN2 : N < 1000000 := by omega
  obtain ⟨σ', b, xs', L', ord', o0, o', r1, r2, r3, r4, r5, r6, r7, r8, r9, r10⟩ := hL.oper hI reg17 hN2 hi hk hd
  have heo : o.ended = false := by rw [q5]; exact hd
  have hdec := hI.step_dec reg17 hN2 q1 heo (al := [a]) (by simp) (by simp) (by simp)
  rw [hb] at r1 r2 r4
  rw [r2] at hdec
  have hE : EnvOk 0 40 8 2304 σ := ⟨by omega, by omega, hbl, fun x ox hx => ⟨hes x ox hx, fun e he => start17 ((hI.ok x ox hx).ent e he)⟩⟩
  have hT2 := hT.ch hC (fun h0 => h0 hK0)
  refine (opStep hP hK0 hT2 hI reg17 hN2 hE q1).mono ?_
  rintro r w' ⟨rfl, hP2, hC2⟩
  rw [r2] at hP2
  refine ⟨b, by rw [r2], σ', m.opd i b o'.changed, N + 1, xs', L', ord', hP2, r3, r10, ?_, ?_, ?_, by omega, ?_, hC.trans hC2 (fun _ hx _ => hx), ?_, fun x ox hx => ?_, fun hb1 => ⟨o', r4, r5.trans hb1, r6 hb1, ?_⟩⟩
  · show (m.now i).kd = _; rw [(m.now_same i).1]; exact hk
  · show (m.now i).blk = _; rw [(m.now_same i).2.1]; exact hb
  · rfl
  · have : gSum σ' [a] + 1 ≤ gSum σ [a] := hdec
    omega
  · rw [r8]; split
    · rw [List.length_set]; exact hbl
    · exact hbl
  · obtain ⟨ox0, y1, y2, _⟩ := r9 x ox hx
    rw [y2]; exact hes x ox0 y1
  · rw [hb1]; rfl
/-- When it has ended. -/
theorem Alone.done (h : Alone K p d t es L0 a w0 i true wr) : ∃ (σ : PwS) (N : Nat) (xs : List Int) (L : Nat → Int) (o : OpS), PMx K p d t 0 32 ((40 : Nat) * 64) wr σ ∧ Inv sumI (atW 0) 40 8 M17 N σ xs L ∧ σ.cur = none ∧ σ.ops a = some o ∧ o.ended = true ∧ o.err = 0 ∧ o.changed = satL L0 es ∧ L = (if satL L0 es then appL L0 es else L0) ∧ (∀ k, M17 k → xs[k]? = some (L k)) ∧ Ch (fun b => ¬ K b) w0 wr := by
  obtain ⟨σ, m, N, xs, L, ord, hP, hI, hL, hk, hb, hd, hN, hg, hC, hbl, hes, hde⟩ := h
  have hi : ([m] : List MaS)[0]? = some m := rfl
  obtain ⟨o, e1, e2, e3, e4⟩ := hde rfl
  obtain ⟨q, hq, hop, _⟩ := hL.told hI hi hd
  have hord : ord = [0] := by
    have h1 : ord.length ≤ 1 := by
      have := List.Nodup.length_le_of_subset hL.nd (l₂ := [0]) (fun x hx => by have := hL.mem x hx; simp at this; simp [this])
      simpa using this
    cases ord with
    | nil => simp at hq
    | cons x l =>
      have hl : l = [] := List.eq_nil_of_length_eq_zero (by simpa using h1)
      subst hl
      have := hL.mem x (by simp)
      simp at this
      rw [this]
  subst hord
  have hq0 : q = 0 := by
    have := (List.getElem?_eq_some_iff.1 hq).1
    simp at this; exact this
  subst hq0
  have hcur := hL.quiet hI (fun j mj hj => by
    have hjl := (List.getElem?_eq_some_iff.1 hj).1
    have : j = 0 := by simp at hjl; exact hjl
    subst this
    have : mj = m := by simpa using hj.symm
    rw [this]; exact hd)
  refine ⟨σ, N, xs, L, o, hP, hI, hcur, e1, e2, e3, ?_, ?_, hI.idle hcur, hC⟩
  · rw [e4]; exact hop es hk
  · rw [hL.hL]; rfl
end
end Go.Proofs.YtjaohgnloddgfaaGreatDoor

namespace Go.Proofs.YtjaohgnloddgfaaGreatDoor
open Go.RowKit
set_option linter.unusedVariables false
set_option linter.unusedSimpArgs false

def awV : List Int := [1, 2, 0, 0, 0, 0, 0, 0]
def awE : List Ent := [⟨2304, 1, 5, false⟩, ⟨2312, 2, 6, false⟩]
def awR : List REnt := [⟨0, 1, 5⟩, ⟨1, 2, 6⟩]
theorem awE_eq : awE = awR.map entOf := by simp [awE, awR, entOf]
theorem awR_ok : RIn awR := by
  refine ⟨fun e he => ?_, by simp [awR], by simp [awR]⟩
  simp only [awR, List.mem_cons, List.not_mem_nil, or_false] at he
  rcases he with rfl | rfl <;> simp
/-- The words as they are in the beginning. -/
def L17 (vs : List Int) : Nat → Int := fun k => gt0 (xsS vs) k
theorem L17_get (vs : List Int) {j : Nat} (hj : j < 8) : L17 vs (288 + j) = gt0 vs j := by
  unfold L17 gt0
  rw [List.getD_eq_getElem?_getD, xsS_word vs j hj]; rfl
theorem L17_ok (vs : List Int) (hv : ∀ j, 0 ≤ gt0 vs j ∧ gt0 vs j < 256) : (∀ k, M17 k → 0 ≤ L17 vs k ∧ L17 vs k < 4611686018427387904) ∧ ∀ k, M17 k → (xsS vs)[k]? = some (L17 vs k) := by
  have key : ∀ k, M17 k → ∃ j, j < 8 ∧ k = 288 + j := fun k hk => by unfold M17 at hk; exact ⟨k - 288, by omega, by omega⟩
  refine ⟨fun k hk => ?_, fun k hk => ?_⟩
  · obtain ⟨j, hj, rfl⟩ := key k hk
    rw [L17_get vs hj]
    have := hv j
    omega
  · obtain ⟨j, hj, rfl⟩ := key k hk
    rw [L17_get vs hj, xsS_word vs j hj]
theorem Clean.on17 {S : DevS} {n N : Nat} {xs : List Int} (h : Clean S n xs N) : On S n xs N := ⟨h.good, h.nl, h.cur, h.off, h.armed, h.err⟩
theorem vs17 (vs : List Int) (hl : vs.length = 8) (hv : ∀ j, 0 ≤ gt0 vs j ∧ gt0 vs j < 256) : vsOf (L17 vs) = vs := by
  apply List.ext_getElem
  · rw [length_vsOf, hl]
  · intro j h1 h2
    have hj : j < 8 := by rw [length_vsOf] at h1; exact h1
    rw [← gt0_eq h1, ← gt0_eq h2, vsOf_get hj, L17_get vs hj]
    have := hv j
    omega
/-- Entries of the reference are entries of the program. -/
theorem entOk17 {es : List REnt} (h : RIn es) : (∀ e ∈ es.map entOf, EntOk 40 M17 e) ∧ (∀ i j, i < (es.map entOf).length → j < (es.map entOf).length → ((es.map entOf).getD i E0).off = ((es.map entOf).getD j E0).off → i = j) := by
  refine ⟨fun e he => ?_, fun i j hi hj hij => ?_⟩
  · obtain ⟨r, hr, rfl⟩ := List.mem_map.1 he
    have := h.w r hr
    exact ⟨⟨288 + r.word, by unfold M17; omega, by omega, rfl⟩, ⟨this.2.1, by show r.old < _; omega⟩, ⟨this.2.2.2.1, by show r.new < _; omega⟩⟩
  · have hi' : i < es.length := by simpa using hi
    have hj' : j < es.length := by simpa using hj
    rw [entOf_get hi', entOf_get hj'] at hij
    unfold entOf at hij
    dsimp only at hij
    have hx : (es.map (·.word))[i]'(by simpa using hi') = (es.map (·.word))[j]'(by simpa using hj') := by
      simp [List.getD_eq_getElem?_getD, hi', hj'] at hij ⊢
      omega
    exact (List.getElem_inj h.nd).1 hx
theorem idxOff_take {es : List REnt} (h : RIn es) {q : Nat} (hq : q < es.length) : idxOff ((es.map entOf).take q) ((es.map entOf).getD q E0).off = none := by
  refine idxOff_none (fun i hi he => ?_)
  have hil : i < q := by simp at hi; omega
  have e : ((es.map entOf).take q).getD i E0 = (es.map entOf).getD i E0 := by
    rw [List.getD_eq_getElem?_getD, List.getD_eq_getElem?_getD, List.getElem?_take, if_pos hil]
  rw [e] at he
  have := (entOk17 h).2 i q (by simp; omega) (by simpa using hq) he
  omega
theorem entsB17 {es : List REnt} (h : RIn es) : entsB 0 32 40 (es.map entOf) (es.map entOf).length = true := by
  unfold entsB
  rw [List.all_eq_true]
  intro q hq
  have hq' : q < es.length := by simpa using hq
  rw [idxOff_take h hq', entOf_get hq']
  have hr := h.w (es.getD q RE0) (by rw [List.getD_eq_getElem?_getD, List.getElem?_eq_getElem hq']; exact List.getElem_mem hq')
  obtain ⟨r, hr0⟩ : ∃ r, es.getD q RE0 = r := ⟨_, rfl⟩
  rw [hr0] at hr ⊢
  unfold outB Ent.poss entOf
  simp
  omega
/-- A new operation of the law, alone on its pool. -/
theorem alone_start {K : Nat → Prop} {p d a : Nat} {t : Nat → Nat} {w0 : World} {S : DevS} {N th : Nat} {vs : List Int} {es : List REnt} {order : List Nat} {bs : List Bool} (hv : ∀ j, 0 ≤ gt0 vs j ∧ gt0 vs j < 256) (hcl : Clean S 40 (xsS vs) N) (hN : N ≤ 1000) (he : RIn es) (h1 : 1 ≤ es.length) (h4 : es.length ≤ 4) (hth : th < 8) (hp : order.Perm (List.range (es.map entOf).length))
    (hP : PMx K p d t 0 32 ((40 : Nat) * 64) w0 { ({ dev := S, busy := List.replicate 8 false, cur := none, ops := fun _ => none } : PwS).setOp a (newOp 0 th (es.map entOf) order) with busy := bs }) (hbs : bs.length = 8) :
    Alone K p d t (es.map entOf) (L17 vs) a w0 0 false w0 := by
  obtain ⟨l1, l2⟩ := L17_ok vs hv
  obtain ⟨e1, e2⟩ := entOk17 he
  have hok : OpOk 8 40 M17 (newOp 0 th (es.map entOf) order) := newOp_ok hth (by omega) (by simpa using h1) (by simp; have := he.l; omega) e1 e2 hp
  have hI := ((Inv.init (sum := sumI) (at0 := atW 0) (cnt := 8) (bs := List.replicate 8 false) hcl.on17 l1 l2).addOp (a := a) (bs := bs) rfl hok rfl rfl rfl rfl rfl)
  refine ⟨_, ⟨.op (es.map entOf), a, ⟨0, 0, 0, 0, false, 0⟩, 0, 0, false, false, false, false, 0⟩, N, xsS vs, L17 vs, [], hP, hI, ?_, rfl, rfl, rfl, by omega, ?_, Ch.refl _ _, hbs, fun b ob hb => ?_, fun h => by cases h⟩
  · refine Ls.start rfl rfl (fun i m h => ?_) (fun i j mi mj h1 h2 _ _ _ => ?_)
    · have hil := (List.getElem?_eq_some_iff.1 h).1
      have hi0 : i = 0 := by simp at hil; exact hil
      subst hi0
      have : m = _ := (Option.some.inj h).symm
      subst this
      refine ⟨rfl, rfl, fun es' he' => ⟨_, if_pos rfl, ?_, rfl, rfl⟩, fun k hk => by cases hk⟩
      injection he' with he'
    · have := (List.getElem?_eq_some_iff.1 h1).1
      have := (List.getElem?_eq_some_iff.1 h2).1
      simp at *
      omega
  · have := gSum_le hI (al := [a]) (by simp)
    omega
  · have hb2 : (if b = a then some (newOp 0 th (es.map entOf) order) else none) = some ob := hb
    split at hb2
    · injection hb2 with hb2
      rw [← hb2]
      show 3 * (es.map entOf).length ≤ 18
      simp; omega
    · cases hb2
theorem aw_sat : satL (L17 awV) (awR.map entOf) = true := by
  rw [sat_ref awR_ok]
  have : vsOf (L17 awV) = awV := vs17 awV rfl (fun j => by
    unfold awV gt0
    rcases (by omega : j = 0 ∨ j = 1 ∨ j = 2 ∨ j = 3 ∨ j = 4 ∨ j = 5 ∨ j = 6 ∨ j = 7 ∨ 8 ≤ j) with rfl | rfl | rfl | rfl | rfl | rfl | rfl | rfl | h <;> simp_all [List.getD_eq_getElem?_getD])
  rw [this]
  rfl
theorem awV_r : ∀ j, 0 ≤ gt0 awV j ∧ gt0 awV j < 256 := fun j => by
  unfold awV gt0
  rcases (by omega : j = 0 ∨ j = 1 ∨ j = 2 ∨ j = 3 ∨ j = 4 ∨ j = 5 ∨ j = 6 ∨ j = 7 ∨ 8 ≤ j) with rfl | rfl | rfl | rfl | rfl | rfl | rfl | rfl | h <;> simp_all [List.getD_eq_getElem?_getD]
theorem aw_app : vsOf (appL (L17 awV) (awR.map entOf)) = [5, 6, 0, 0, 0, 0, 0, 0] ∧ appL (L17 awV) (awR.map entOf) 288 = 1099511627781 := by
  refine ⟨?_, ?_⟩
  · rw [app_ref awR_ok, vs17 awV rfl awV_r]; rfl
  · unfold appL
    have hf : (List.range (awR.map entOf).length).find? (fun q => wdE (awR.map entOf) q == 288) = some 0 := by
      have : (List.range (awR.map entOf).length) = [0, 1] := rfl
      rw [this, List.find?_cons_of_pos]
      rw [wdE_ref (by simp [awR])]; rfl
    rw [hf]
    dsimp only
    rw [entOf_get (by simp [awR])]
    have h0 : L17 awV 288 = 1 := L17_get awV (j := 0) (by omega)
    rw [h0]
    rfl
end Go.Proofs.YtjaohgnloddgfaaGreatDoor

namespace Go.Proofs.YtjaohgnloddgfaaGreatDoor
open Go.RowKit
set_option linter.unusedVariables false
set_option linter.unusedSimpArgs false

theorem slEnts {w : World} {g : Nat} {es : List Ent} {m : Nat} (h : CB w g 33 (ecells es).toArray) (hl : es.length = m) (hm : m ≤ 1000) : Sl 33 4 w (some ⟨g, 0, none⟩) m m (ecells es) := by
  subst hl
  refine ⟨length_ecells es, .inr ⟨g, 0, _, rfl, h, Nat.le_refl _, by show es.length ≤ 9223372036854775807; omega, by simp [length_ecells], ?_⟩⟩
  simp only [List.drop_zero]
  exact List.take_of_length_le (by show (ecells es).length ≤ _; rw [length_ecells]; omega)
theorem Alone.bound {K : Nat → Prop} {p d a : Nat} {t : Nat → Nat} {es : List Ent} {L0 : Nat → Int} {w0 wr : World} {i : Nat} {b : Bool} (h : Alone K p d t es L0 a w0 i b wr) : i ≤ 2304 := by
  obtain ⟨σ, m, N, xs, L, ord, _, _, _, _, _, _, _, hg, _⟩ := h
  omega
theorem awE_r : ∀ e ∈ awE, 0 ≤ e.off ∧ e.off < 18446744073709551616 ∧ 0 ≤ e.old ∧ e.old < 18446744073709551616 := by
  intro e he
  simp only [awE, List.mem_cons, List.not_mem_nil, or_false] at he
  rcases he with rfl | rfl <;> simp
theorem awE_b : entsB 0 32 40 awE 2 = true := by
  have := entsB17 awR_ok
  rw [← awE_eq] at this
  exact this
theorem slw {w : World} {g off n c : Nat} {ys : List Int} (h : Sl 23 1 w (some ⟨g, off, none⟩) n c (uints ys)) (j : Nat) (hj : j < ys.length) : w.cell? ⟨g, off + j, none⟩ = some (.int .u64 (gt0 ys j)) := by
  obtain ⟨g', o', hA, _, hc⟩ := h.at_ (j := j) (by simpa [uints] using hj)
  injection hA with hA
  injection hA with e1 e2
  subst e1 e2
  rw [hc, gt0_eq hj]; simp [uints]
theorem idxB_8 : idxB (List.replicate 8 false) = some 0 := by decide
set_option maxRecDepth 100000 in
set_option maxHeartbeats 8000000 in
theorem awake17 (w : World) (hT : Tab w) : Calls Tryz.prog 15 #[] w fun e w' => e = .returned (.bool true) ∧ Below w.heap.size w w' := by
  have HT := Lib.hid hT
  have HSU : Hid (∀ (W : World) g, IB .u64 23 W g awV → Calls Tryz.prog 13 #[.slice (some ⟨g, 0, none⟩) 8 8] W (SetPost W awV)) := fun W g hI => setup17 W _ 8 awV rfl hI.rd0 awV_r
  have HO0 : Hid (∀ W, Calls Tryz.prog 26 #[.int .i64 0] W fun e w' => e = .returned (.int .u64 2304) ∧ W = w') := fun W => off17 W 0 (by omega)
  have HO1 : Hid (∀ W, Calls Tryz.prog 26 #[.int .i64 1] W fun e w' => e = .returned (.int .u64 2312) ∧ W = w') := fun W => off17 W 1 (by omega)
  clear hT
  go_enter Tryz.func15, Tryz.ntmps15
  go_wp2_with (first
    | (go_at_call 13; refine (HSU.out _ _ (CB.new _ _ _)).mono ?_; rintro e w1 ⟨p, d, t, S, rfl, hP, hcl, hb⟩; have HP := Lib.hid hP; have HCL := Lib.hid hcl; obtain ⟨x, rfl⟩ := bx_of hb; clear hP hcl hb)
    | (go_at_call 26; refine (HO0.out _).mono ?_; rintro e w' ⟨rfl, rfl⟩)
    | (go_at_call 26; refine (HO1.out _).mono ?_; rintro e w' ⟨rfl, rfl⟩)
    | (go_at_call 17; refine (pwBegin (n := 40) (HP.out.bl0 (bl_alloc (Below.refl _ _) _)) (by omega) (by omega) 0 (by omega) (HCL.out.err 0) x.w.heap.size 0 2 2 0 awE rfl (by omega) (by omega) (EsV.of (slEnts (CB.new _ _ _) rfl (by omega)) rfl) awE_r awE_b idxB_8 (by simp)).mono ?_; rintro e w2 ⟨a, order, rfl, ha, hp, hP2, hC2⟩; have HP2 := Lib.hid hP2; have HPM := Lib.hid hp; have HC2 := Lib.hid hC2; have HA2 := Lib.hid ha; clear hP2 hp hC2 ha))
  have hA0 : Alone (fun b => b < (w.alloc (.cells (ia .u64 awV) 23)).heap.size) p d t (awR.map entOf) (L17 awV) a w2 0 false w2 :=
    alone_start (th := 0) (order := order) (bs := (List.replicate 8 false).set 0 true) awV_r HCL.out (by omega) awR_ok (by simp [awR]) (by simp [awR]) (by omega) HPM.out (by have := HP2.out; rw [awE_eq] at this; exact this) (by simp)
  have HA0 := Lib.hid hA0
  have HBW : Hid (Below w.heap.size w w2) := bl_ch (bl_alloc (bl_bx (bl_alloc (Below.refl _ _) _) x) _) HC2.out (fun b hb => by simp at hb; omega)
  have HTW : Hid (Tab w2) := by
    have h1 : Tab (x.w.alloc (.cells (ecells awE).toArray 33)) := HT.out.ch (Ch.of_below (S := fun _ => False) (bl_alloc (bl_bx (bl_alloc (Below.refl _ _) _) x) _)) (fun h => h)
    exact h1.ch HC2.out (fun h => h (by have := HT.out.1; first | (simp; done) | (simp; omega)))
  obtain ⟨Kb, hKb⟩ : ∃ Kb : Nat → Prop, (fun b => b < (w.alloc (.cells (ia .u64 awV) 23)).heap.size) = Kb := ⟨_, rfl⟩
  have HKb : Hid (Kb 0 ∧ ∀ b, ¬ Kb b → w.heap.size ≤ b) := by
    rw [← hKb]
    exact ⟨by show 0 < _; rw [show (w.alloc (.cells (ia .u64 awV) 23)).heap.size = w.heap.size + 1 from by simp]; omega, fun b hb => by have hb : ¬ b < _ := hb; simp at hb; omega⟩
  rw [hKb] at HA0
  clear hA0 HP2 HC2 hKb HP HSU HCL HPM HA2
  go_loopw [5, 27, 28, 29, 30, 31, 32, 33, 34, 35] (fun i _ _ _ _ _ _ _ _ _ wr => ∃ q : Nat, i = .int .i64 q ∧ Alone Kb p d t (awR.map entOf) (L17 awV) a w2 q false wr) (fun i _ _ _ _ _ _ _ _ _ _ => 20000 - (intOf i).toNat)
  case atStart => exact ⟨0, rfl, HA0.out⟩
  case round =>
    clear HA0
    obtain ⟨q, rfl, hA⟩ := hrel
    have HA := Lib.hid hA
    have hqb := hA.bound
    have hlt : (q : Int) < 20000 := by omega
    clear hA
    go_wp2_with (go_at_call 33; refine (aloneStep HA.out HKb.out.1 HTW.out).mono ?_; rintro e w3 ⟨b, rfl, hA3⟩; have HA3 := Lib.hid hA3; clear hA3; cases b)
    · exact ⟨⟨q + 1, by go_num, HA3.out⟩, by simp [intOf]; omega⟩
    · obtain ⟨σ, N, xs, L, o, hP, hI, hcur, ho, he, h0, hch, hL, hx, hC⟩ := HA3.out.done
      rw [aw_sat] at hch hL
      simp only [if_true] at hL
      have hon := hI.on
      have HFD := Lib.hid (found17 hP hon (fun j hj => hx _ (by unfold M17; omega)) (fun j hj => hI.hL _ (by unfold M17; omega)))
      rw [hL] at HFD
      have HPH := Lib.hid hP
      have HHO := Lib.hid ho
      obtain ⟨role, bb, hPM, hK0⟩ := hP
      have hOM := hPM.op a o ho
      have HEN : Hid (∀ W, Below w3.heap.size w3 W → Calls Tryz.prog 21 #[.pointer (some ⟨a, 0, none⟩)] W fun e w' => e = .returned (.bool true) ∧ Below W.heap.size W w') := fun W hW => by
        have := opEnded (hOM.keep (w' := W) (fun b hb hr => hr) (fun b hb _ => hW.block b hb))
        rwa [he] at this
      have HOK : Hid (∀ W, Below w3.heap.size w3 W → Calls Tryz.prog 22 #[.pointer (some ⟨a, 0, none⟩)] W fun e w' => e = .returned (.bool true) ∧ Below W.heap.size W w') := fun W hW => by
        have := opOK (hOM.keep (w' := W) (fun b hb hr => hr) (fun b hb _ => hW.block b hb))
        rw [he, h0, hch] at this
        simpa using this
      have HTH : Hid (∀ W, Below w3.heap.size w3 W → Calls Tryz.prog 24 #[.pointer (some ⟨d, 0, none⟩), .int .i64 0] W fun e w' => e = .returned (.pointer (some ⟨t 0, 0, none⟩)) ∧ W = w') := fun W hW => by
        obtain ⟨role, bb, h, hK⟩ := HPH.out.bl0 hW
        exact vThread h.dv 0 (by omega)
      have HLD : Hid (∀ W, Below w3.heap.size w3 W → Calls Tryz.prog 25 #[.pointer (some ⟨t 0, 0, none⟩), .int .u64 2304] W fun e w' => e = .returned (.int .u64 1099511627781) ∧ W = w') := fun W hW => by
        obtain ⟨role, bb, h, hK⟩ := HPH.out.bl0 hW
        exact vLoad h.dv 0 (by omega) hon.off 288 _ (by rw [hon.cur, hx 288 (by unfold M17; omega), hL, aw_app.2])
      have HB3 : Hid (Below w.heap.size w w3) := bl_ch HBW.out hC HKb.out.2
      clear hPM hK0 hOM hI hcur ho he h0 hch hL hx hC hon HA3 HA
      go_wp2_with (first
        | (go_at_call 29; refine HFD.out.mono ?_; rintro e w5 ⟨A5, c5, rfl, hS5, hb5, hO5⟩; rw [aw_app.1] at hS5; have HS5 := Lib.hid hS5; have HB5 := Lib.hid hb5; obtain ⟨g5, o5, hA5⟩ := own_some hS5 (by omega); subst hA5; obtain ⟨y, rfl⟩ := bx_of hb5; have k0 : y.w.cell? ⟨g5, o5, none⟩ = some (.int .u64 5) := slw hS5 0 (by simp); have k1 : y.w.cell? ⟨g5, o5 + 1, none⟩ = some (.int .u64 6) := slw hS5 1 (by simp); have kl := hS5.lt (b := g5) (by simp [OwnB]); clear hS5 hb5 hO5)
        | (go_at_call 21; refine (HEN.out _ (by (repeat (first | with_reducible exact Below.refl _ _ | with_reducible refine bl_alloc ?_ _ | with_reducible refine bl_drew ?_ | with_reducible refine bl_drewN ?_ _ | with_reducible refine bl_bx ?_ _ | with_reducible exact BX.below _ | with_reducible refine bl_set ?_ (by first | (exact Nat.le_refl _) | (simp; done) | (simp; omega)) _ | assumption)))).mono ?_; rintro e w' ⟨rfl, hb⟩; obtain ⟨x2, rfl⟩ := bx_of hb; clear hb)
        | (go_at_call 22; refine (HOK.out _ (by (repeat (first | with_reducible exact Below.refl _ _ | with_reducible refine bl_alloc ?_ _ | with_reducible refine bl_drew ?_ | with_reducible refine bl_drewN ?_ _ | with_reducible refine bl_bx ?_ _ | with_reducible exact BX.below _ | with_reducible refine bl_set ?_ (by first | (exact Nat.le_refl _) | (simp; done) | (simp; omega)) _ | assumption)))).mono ?_; rintro e w' ⟨rfl, hb⟩; obtain ⟨x3, rfl⟩ := bx_of hb; clear hb; have m0 : x3.w.cell? ⟨g5, o5, none⟩ = some (.int .u64 5) := (x3.cell _ _ (x2.lt_size kl)).trans ((x2.cell _ _ kl).trans k0); have m1 : x3.w.cell? ⟨g5, o5 + 1, none⟩ = some (.int .u64 6) := (x3.cell _ _ (x2.lt_size kl)).trans ((x2.cell _ _ kl).trans k1))
        | (go_at_call 24; refine (HTH.out _ (by (repeat (first | with_reducible exact Below.refl _ _ | with_reducible refine bl_alloc ?_ _ | with_reducible refine bl_drew ?_ | with_reducible refine bl_drewN ?_ _ | with_reducible refine bl_bx ?_ _ | with_reducible exact BX.below _ | with_reducible refine bl_set ?_ (by first | (exact Nat.le_refl _) | (simp; done) | (simp; omega)) _ | assumption)))).mono ?_; rintro e w' ⟨rfl, rfl⟩)
        | (go_at_call 26; refine (HO0.out _).mono ?_; rintro e w' ⟨rfl, rfl⟩)
        | (go_at_call 25; refine (HLD.out _ (by (repeat (first | with_reducible exact Below.refl _ _ | with_reducible refine bl_alloc ?_ _ | with_reducible refine bl_drew ?_ | with_reducible refine bl_drewN ?_ _ | with_reducible refine bl_bx ?_ _ | with_reducible exact BX.below _ | with_reducible refine bl_set ?_ (by first | (exact Nat.le_refl _) | (simp; done) | (simp; omega)) _ | assumption)))).mono ?_; rintro e w' ⟨rfl, rfl⟩))
      go_ret
      exact ⟨rfl, HB3.out.trans ((by (repeat (first | with_reducible exact Below.refl _ _ | with_reducible refine bl_alloc ?_ _ | with_reducible refine bl_drew ?_ | with_reducible refine bl_drewN ?_ _ | with_reducible refine bl_bx ?_ _ | with_reducible exact BX.below _ | with_reducible refine bl_set ?_ (by first | (exact Nat.le_refl _) | (simp; done) | (simp; omega)) _ | assumption)) : Below w3.heap.size w3 x3.w).mono HB3.out.size)⟩
end Go.Proofs.YtjaohgnloddgfaaGreatDoor
