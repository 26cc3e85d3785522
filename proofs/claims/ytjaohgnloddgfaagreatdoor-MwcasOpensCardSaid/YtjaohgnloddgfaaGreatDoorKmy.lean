/- The law MwcasOpens (merged). -/
import Derived.Test.YtjaohgnloddgfaaGreatDoorKmw
import Derived.Test.YtjaohgnloddgfaaGreatDoorKmx
import Derived.Test.YtjaohgnloddgfaaGreatDoorKmi
namespace Go.Proofs.YtjaohgnloddgfaaGreatDoor
open Go.RowKit
set_option linter.unusedVariables false
set_option linter.unusedSimpArgs false

theorem info_status : (Tryz.prog.info? 99).map (fun i => (i.zero, i.size, i.bytes)) = some (some (.agg #[.int .u8 0, .slice none 0 0]), 2, 32) := by kernel_rfl
def stas (k : Nat) : List Value := (List.replicate k [Value.int .u8 1, .slice none 0 0]).flatten
theorem stas_succ (k : Nat) : stas (k + 1) = stas k ++ [.int .u8 1, .slice none 0 0] := by
  unfold stas
  rw [List.replicate_succ', List.flatten_append]
  simp
theorem recs_get (m : Nat) : ∀ j, j < m → (recs m)[j * 3]? = some (.int .u8 1) ∧ (recs m)[j * 3 + 1]? = some (.slice none 0 0) ∧ (recs m)[j * 3 + 2]? = some (.slice none 0 0) := by
  induction m with
  | zero => intro j hj; omega
  | succ m ih =>
    intro j hj
    rw [recs_succ]
    by_cases hjm : j < m
    · obtain ⟨h1, h2, h3⟩ := ih j hjm
      have hl := length_recs m
      rw [List.getElem?_append_left (by omega), List.getElem?_append_left (by omega), List.getElem?_append_left (by omega)]
      exact ⟨h1, h2, h3⟩
    · have hje : j = m := by omega
      subst hje
      have hl := length_recs j
      rw [List.getElem?_append_right (by omega), List.getElem?_append_right (by omega), List.getElem?_append_right (by omega), hl]
      refine ⟨?_, ?_, ?_⟩
      · rw [Nat.sub_self]; rfl
      · rw [show j * 3 + 1 - j * 3 = 1 by omega]; rfl
      · rw [show j * 3 + 2 - j * 3 = 2 by omega]; rfl
theorem sta_one : ∀ u ∈ ([.int .u8 1, .slice none 0 0] : List Value), u.oneCell' = true := by
  intro u hu
  simp only [List.mem_cons, List.not_mem_nil, or_false] at hu
  rcases hu with rfl | rfl <;> rfl
section
variable {F : Nat → Prop} {d n N : Nat} {t : Nat → Nat} {w : World} {S : DevS} {xs : List Int}
set_option maxRecDepth 100000 in
set_option maxHeartbeats 8000000 in
theorem pwLook_u (h : DV F d t w S) (hnl : S.lns.length = n) (hoff : S.off = false) (i : Nat) (hi : i < 8) (line lines m : Nat) (hm : lines / 4 = m) (h4 : 4 ≤ lines) (hl : line + lines ≤ n) (hn : n ≤ 900) (hu : ∀ k, k < m → S.cur[8 * (line + 4 * k)]? = some 1836515329) :
    Calls Tryz.prog 41 #[.iface 57 (.pointer (some ⟨t i, 0, none⟩)), .int .i64 (line : Int), .int .i64 (lines : Int)] w fun r w' => ∃ A c, r = .returned (.slice A m c) ∧ Below w.heap.size w w' := by
  have HSZ : Hid (∀ W, Below w.heap.size w W → Calls Tryz.prog 167 #[.pointer (some ⟨t i, 0, none⟩)] W fun e w' => e = .returned (.int .u64 ((n : Int) * 64)) ∧ W = w') := fun W hW => by
    have := vSize (h.below hW) i hi
    rwa [hnl] at this
  have hrb : rgB (line : Int) (lines : Int) (n : Int) = true := by unfold rgB; simp; omega
  have HVA : Hid (∀ W, Calls Tryz.prog 73 #[.agg #[.int .i64 (line : Int), .int .i64 (lines : Int), .int .u64 ((n : Int) * 64)]] W fun e w' => e = .returned (.bool true) ∧ Below W.heap.size W w') := fun W => by
    have := rgValid W line lines n (by omega) (by omega) (by omega)
    rwa [hrb] at this
  have HLD : Hid (∀ W, Below w.heap.size w W → ∀ k, k < m → Calls Tryz.prog 25 #[.pointer (some ⟨t i, 0, none⟩), .int .u64 (atW line k)] W fun e w' => e = .returned (.int .u64 1836515329) ∧ W = w') := fun W hW k hk => by
    have e : atW line k = 8 * ((8 * (line + 4 * k) : Nat) : Int) := by unfold atW; omega
    rw [e]
    exact vLoad (h.below hW) i hi hoff _ _ (hu k hk)
  have HAL : Hid (∀ W, Below w.heap.size w W → Calls Tryz.prog 80 #[.agg #[.int .i64 (line : Int), .int .i64 (lines : Int), .int .u64 ((n : Int) * 64)], .func (.method "Load") #[.iface 57 (.pointer (some ⟨t i, 0, none⟩))] #[]] W fun e w' => ∃ A c, e = .returned (.tuple #[.slice A m c, .bool true]) ∧ Sl 154 3 w' A m c (recs m) ∧ Below W.heap.size W w' ∧ ∀ b, OwnB A b → W.heap.size ≤ b) := fun W hW =>
    rgAll_m W line lines m ((n : Int) * 64) hm (by omega) (t i) (fun W2 hW2 k hk => HLD.out W2 (hW.trans (hW2.mono hW.size)) k hk)
  have hm2 : m ≤ 250 := by omega
  clear h hnl hoff hrb hu HLD hm h4 hl hn
  go_enter Tryz.func41, Tryz.ntmps41
  go_upto_region 6 with (first | (go_at_call 167; refine (HSZ.out _ (by (repeat (first | with_reducible exact Below.refl _ _ | with_reducible refine bl_alloc ?_ _ | with_reducible refine bl_drew ?_ | with_reducible refine bl_drewN ?_ _ | with_reducible refine bl_bx ?_ _ | with_reducible exact BX.below _ | with_reducible refine bl_set ?_ (by first | (exact Nat.le_refl _) | (simp; done) | (simp; omega)) _ | assumption)))).mono ?_; rintro e w' ⟨rfl, rfl⟩) | (go_at_call 73; refine (HVA.out _).mono ?_; rintro e w' ⟨rfl, hb⟩; obtain ⟨x, rfl⟩ := bx_of hb; clear hb))
  have hgx : w.heap.size < x.w.heap.size := x.lt_size (by simp)
  have z0 : x.w.cell? ⟨w.heap.size, 0, none⟩ = some (.int .i64 (line : Int)) := by go_simp
  have z1 : x.w.cell? ⟨w.heap.size, 1, none⟩ = some (.int .i64 (lines : Int)) := by go_simp
  have z2 : x.w.cell? ⟨w.heap.size, 2, none⟩ = some (.int .u64 ((n : Int) * 64)) := by go_simp
  have HBX : Hid (Below w.heap.size w x.w) := by show Below _ _ _; (repeat (first | with_reducible exact Below.refl _ _ | with_reducible refine bl_alloc ?_ _ | with_reducible refine bl_drew ?_ | with_reducible refine bl_drewN ?_ _ | with_reducible refine bl_bx ?_ _ | with_reducible exact BX.below _ | with_reducible refine bl_set ?_ (by first | (exact Nat.le_refl _) | (simp; done) | (simp; omega)) _ | assumption))
  refine ord_reads [0, 1, 2, 3] [.h [4, 5], .q [6, 7, 8, 9]] (by kernel_rfl) (fun _ _ d _ _ h => by cases d <;> exact h) (by kernel_rfl) ?_
  dsimp only [pick, List.filterMap, List.getElem?_cons_zero, List.getElem?_cons_succ]
  (repeat (go_big_quiet_step (fail))); refine wpQuiet_nil ?_
  rintro _ ⟨nq, rfl⟩
  with_reducible refine part_hard ?_
  dsimp only [pick, List.filterMap, List.getElem?_cons_zero, List.getElem?_cons_succ]
  go_wp2_with fail
  refine (HAL.out _ (bl_drewN HBX.out _)).mono ?_
  rintro e w2 ⟨A0, c0, rfl, hS0, hB0, hO0⟩
  have HS0 := Lib.hid hS0
  have HB0 : Hid (Below w.heap.size w w2) := HBX.out.trans ((bl_drewN (Below.refl _ _) _ |>.trans hB0).mono HBX.out.size)
  clear hS0 hB0 hO0
  go_wp2
  with_reducible refine segs_end ?_
  with_reducible refine part_reads ?_
  dsimp only [pick, List.filterMap, List.getElem?_cons_zero, List.getElem?_cons_succ]
  (repeat (go_big_quiet_step (fail))); refine wpQuiet_nil ?_
  rintro _ ⟨nq2, rfl⟩
  with_reducible refine part_nil ?_
  have HS1 : Hid (Sl 154 3 (w2.drewN nq2) A0 m c0 (recs m)) := HS0.out.keep (fun b hb => by simp)
  have HB1 : Hid (Below w.heap.size w (w2.drewN nq2)) := bl_drewN HB0.out _
  obtain ⟨W0, hW0⟩ : ∃ W0, w2.drewN nq2 = W0 := ⟨_, rfl⟩
  rw [hW0] at HS1 HB1 ⊢
  clear hW0 HS0 HB0 z0 z1 z2 hgx HAL
  go_wp2
  go_loopw [35, 10, 12, 36, 37, 38, 39, 40, 41, 42, 43, 44, 45, 46, 47] (fun i rc _ _ _ _ _ _ _ _ _ _ _ _ _ wr => ∃ (j : Nat) (A : Option Addr) (c : Nat), j ≤ m ∧ i = .int .i64 j ∧ rc = .slice A j c ∧ Sl 99 2 wr A j c (stas j) ∧ Below W0.heap.size W0 wr ∧ ∀ b, OwnB A b → W0.heap.size ≤ b) (fun i rc _ _ _ _ _ _ _ _ _ _ _ _ _ _ => m - (intOf i).toNat)
  case atStart => exact ⟨0, none, 0, by omega, rfl, rfl, Sl.nil, Below.refl _ _, by simp [OwnB]⟩
  case round =>
    obtain ⟨j, A, c, hj, rfl, rfl, hS, hB, hO⟩ := hrel
    have HS := Lib.hid hS
    have HB := Lib.hid hB
    have HO := Lib.hid hO
    clear hS hB hO
    by_cases hlt : j < m
    · have hlt' : (j : Int) < (m : Int) := by omega
      obtain ⟨r0, r1, r2⟩ := recs_get m j hlt
      have hlr := length_recs m
      obtain ⟨g, o, hA, hgl, y0⟩ := HS1.out.at_ (j := j * 3) (by omega)
      obtain ⟨g1, o1, hA1, _, y1⟩ := HS1.out.at_ (j := j * 3 + 1) (by omega)
      obtain ⟨g2, o2, hA2, _, y2⟩ := HS1.out.at_ (j := j * 3 + 2) (by omega)
      rw [hA] at hA1 hA2
      injection hA1 with hA1
      injection hA1 with e1 e2
      injection hA2 with hA2
      injection hA2 with e3 e4
      subst e1 e2 e3 e4
      have hx0 : (recs m)[j * 3] = .int .u8 1 := by rw [List.getElem?_eq_getElem (by omega)] at r0; exact Option.some.inj r0
      have hx1 : (recs m)[j * 3 + 1] = .slice none 0 0 := by rw [List.getElem?_eq_getElem (by omega)] at r1; exact Option.some.inj r1
      have hx2 : (recs m)[j * 3 + 2] = .slice none 0 0 := by rw [List.getElem?_eq_getElem (by omega)] at r2; exact Option.some.inj r2
      rw [hx0] at y0
      rw [hx1] at y1
      rw [hx2] at y2
      have q0 : wr.cell? ⟨g, o + j * 3, none⟩ = some (.int .u8 1) := (HB.out.cell (p := ⟨g, o + j * 3, none⟩) hgl).trans y0
      have q1 : wr.cell? ⟨g, o + j * 3 + 1, none⟩ = some (.slice none 0 0) := (HB.out.cell (p := ⟨g, o + (j * 3 + 1), none⟩) hgl).trans y1
      have q2 : wr.cell? ⟨g, o + j * 3 + 2, none⟩ = some (.slice none 0 0) := (HB.out.cell (p := ⟨g, o + (j * 3 + 2), none⟩) hgl).trans y2
      have hgw : g < wr.heap.size := Nat.lt_of_lt_of_le hgl HB.out.size
      subst hA
      clear y0 y1 y2 hx0 hx1 hx2 r0 r1 r2 hlr
      go_wp2_with (at_builtin; refine wpList_append_sl rfl (.tmp 39) (.tmp 45) 83 rfl 99 (.agg #[.int .u8 0, .slice none 0 0]) 2 32 rfl (by omega) Tryz.underlying83 info_status (by omega) A j c (stas j) ⟨wr.heap.size + 1, 0, none⟩ 1 1 [.int .u8 1, .slice none 0 0] rfl rfl (HS.out.keep (fun b hb => (bl_alloc (bl_alloc (Below.refl _ _) _) _).block b (HS.out.lt hb))) rfl (by omega) (by have := cells_two (wr.alloc (.cells #[.int .u8 1, .slice none 0 0, .slice none 0 0] 154)) 99 (.int .u8 1) (.slice none 0 0); simpa using this) sta_one (by omega) ?_; intro A4 c4 w4 HO4 HC4 HW4 HG4)
      go_roundw
      case rel =>
        refine ⟨j + 1, A4, c4, by omega, by go_num, rfl, ?_, ?_, fun b hb => ?_⟩
        · rw [stas_succ]; exact HO4.out
        · exact bl_ch (HB.out.trans ((bl_alloc (bl_alloc (Below.refl wr.heap.size wr) _) _).mono HB.out.size)) HC4.out (fun b hb => HO.out b hb)
        · have h1 := HB.out.size
          rcases HW4.out b hb with h | h
          · exact HO.out b h
          · rw [h]; simp; omega
      case measure => simp [intOf]; omega
    · obtain rfl : j = m := by omega
      have HBW : Hid (Below w.heap.size w wr) := HB1.out.trans (HB.out.mono HB1.out.size)
      go_wp2
      go_ret
      exact ⟨A, c, rfl, HBW.out⟩
end
end Go.Proofs.YtjaohgnloddgfaaGreatDoor

namespace Go.Proofs.YtjaohgnloddgfaaGreatDoor
open Go.RowKit
set_option linter.unusedVariables false
set_option linter.unusedSimpArgs false

/-- The words of a formatted device. -/
def fmtX (line m : Nat) : List Int := applyW (List.replicate 320 0) (fmt17 line m)
theorem length_fmtX (line m : Nat) : (fmtX line m).length = 320 := by unfold fmtX; rw [length_applyW, List.length_replicate]
theorem fits_fmtX (line m : Nat) : Fits (fmtX line m) := by
  refine applyW_fits17 _ (fun p hp => ?_) _ (Fits.zeros 320)
  unfold fmt17 at hp
  obtain ⟨k, _, rfl⟩ := List.mem_map.1 hp
  dsimp only
  omega
theorem fmtX_get (line m : Nat) (h : line + 4 * m ≤ 40) (k : Nat) (hk : k < m) : (fmtX line m)[8 * (line + 4 * k)]? = some 1836515329 := by
  have := applyW_idx (fun k => 8 * (line + 4 * k)) (fun i j h => by have h' : 8 * (line + 4 * i) = 8 * (line + 4 * j) := h; omega) (fun _ => 1836515329) (List.replicate 320 0) m k hk (by rw [List.length_replicate]; show 8 * (line + 4 * k) < 320; omega)
  have e : fmt17 line m = (List.range m).map fun j => (8 * ((8 * (line + 4 * j) : Nat) : Int), (1836515329 : Int)) := by
    unfold fmt17
    refine List.map_congr_left (fun j _ => ?_)
    unfold atW
    congr 1
  unfold fmtX
  rw [e]
  exact this
set_option maxRecDepth 100000 in
set_option maxHeartbeats 32000000 in
theorem walkOpens (w : World) (hT : Tab w) (f l : Int) (hf : -9223372036854775808 ≤ f ∧ f < 9223372036854775808) (hl : -9223372036854775808 ≤ l ∧ l < 9223372036854775808) :
    Calls Tryz.prog 9 #[.int .i64 f, .int .i64 l] w fun e w' => e = .returned (.bool true) ∧ Below w.heap.size w w' := by
  have HAW := Lib.hid (awake17 w hT)
  clear hT
  obtain ⟨hf1, hf2⟩ := hf
  obtain ⟨hl1, hl2⟩ := hl
  go_enter Tryz.func9, Tryz.ntmps9
  go_upto_region 7 with (first
    | (go_at_call 15; refine HAW.out.mono ?_; rintro e w1 ⟨rfl, hb⟩; obtain ⟨x, rfl⟩ := bx_of hb; clear hb)
    | (go_at_call 38; refine (devNew _ 40 (by omega) (by omega)).mono ?_; rintro e w1 ⟨d, L, rfl, hD, hb, hF⟩; have HB := Lib.hid hb; have HV0 : Hid (DV (fun b => x.w.heap.size ≤ b) d L.t w1 (newS (List.replicate (8 * 40) 0) 40)) := ⟨(fun b hb' => by have h1 := hb.size; omega), L, rfl, hD, (fun b hb' => hF b hb')⟩; clear hb hD hF))
  obtain ⟨t, ht⟩ : ∃ t, L.t = t := ⟨_, rfl⟩
  rw [ht] at HV0
  obtain ⟨fl, hfl, hfr⟩ : ∃ fl, imin (imax f (-3)) 50 = fl ∧ -3 ≤ fl ∧ fl ≤ 50 := ⟨_, rfl, by unfold imin imax; split <;> split <;> omega, by unfold imin; split <;> omega⟩
  obtain ⟨ll, hll, hlr⟩ : ∃ ll, imin (imax l (-3)) 50 = ll ∧ -3 ≤ ll ∧ ll ≤ 50 := ⟨_, rfl, by unfold imin imax; split <;> split <;> omega, by unfold imin; split <;> omega⟩
  rw [hfl, hll]
  obtain ⟨f3, f5⟩ := hfr
  obtain ⟨l3, l5⟩ := hlr
  have HBW : Hid (Below w.heap.size w w1) := (bl_bx (Below.refl _ _) x).trans (HB.out.mono x.size)
  have HTH : Hid (∀ W, Below w1.heap.size w1 W → Calls Tryz.prog 24 #[.pointer (some ⟨d, 0, none⟩), .int .i64 0] W fun e w' => e = .returned (.pointer (some ⟨t 0, 0, none⟩)) ∧ W = w') := fun W hW => vThread (HV0.out.below hW) 0 (by omega)
  have hnl0 : (newS (List.replicate (8 * 40) 0) 40).lns.length = 40 := (new_clean17 (List.replicate (8 * 40) 0) 40 (by simp)).nl
  have HNL0 := Lib.hid hnl0
  clear ht hfl hll HB HAW hnl0
  cases hb : rgB fl ll 40 with
  | false =>
    have HBAD := Lib.hid hb
    have HFM : Hid (∀ W, Below w1.heap.size w1 W → Calls Tryz.prog 39 #[.iface 57 (.pointer (some ⟨t 0, 0, none⟩)), .int .i64 fl, .int .i64 ll] W fun r w' => r = .returned (.int .i64 1) ∧ Below W.heap.size W w') := fun W hW => pwFormat_bad (HV0.out.below hW) HNL0.out (by omega) 0 (by omega) fl ll (by omega) (by omega) HBAD.out
    have HOP : Hid (∀ W, Below w1.heap.size w1 W → Calls Tryz.prog 40 #[.pointer (some ⟨d, 0, none⟩), .int .i64 fl, .int .i64 ll] W fun r w' => r = .returned (.tuple #[.pointer none, .int .i64 1]) ∧ Below W.heap.size W w') := fun W hW => pwOpen_bad (HV0.out.below hW) HNL0.out (by omega) fl ll (by omega) (by omega) HBAD.out
    have HLK : Hid (∀ W, Below w1.heap.size w1 W → Calls Tryz.prog 41 #[.iface 57 (.pointer (some ⟨t 0, 0, none⟩)), .int .i64 fl, .int .i64 ll] W fun r w' => r = .returned (.slice none 0 0) ∧ Below W.heap.size W w') := fun W hW => pwLook_bad (HV0.out.below hW) HNL0.out (by omega) 0 (by omega) fl ll (by omega) (by omega) HBAD.out
    have HON : Hid (∀ W, Calls Tryz.prog 40 #[.pointer none, .int .i64 0, .int .i64 8] W fun r w' => r = .returned (.tuple #[.pointer none, .int .i64 1]) ∧ W = w') := fun W => pwOpen_none W 0 8
    have hcase : fl < 0 ∨ (¬ fl < 0 ∧ ll < 4) ∨ (¬ fl < 0 ∧ ¬ ll < 4 ∧ 40 < fl + ll) := by
      unfold rgB at hb
      simp at hb
      omega
    clear hb
    rcases hcase with h1 | ⟨h1, h2⟩ | ⟨h1, h2, h3⟩
    all_goals
      go_wp2_with (first
        | (go_at_call 24; (with_reducible refine (HTH.out _ ?hbl).mono ?_); (case hbl => (repeat (first | with_reducible exact Below.refl _ _ | with_reducible refine bl_alloc ?_ _ | with_reducible refine bl_drew ?_ | with_reducible refine bl_drewN ?_ _ | with_reducible refine bl_bx ?_ _ | with_reducible exact BX.below _ | with_reducible refine bl_set ?_ (by first | (exact Nat.le_refl _) | (simp; done) | (simp; omega)) _ | assumption))); rintro e w' ⟨rfl, rfl⟩)
        | (go_at_call 39; (with_reducible refine (HFM.out _ ?hbl).mono ?_); (case hbl => (repeat (first | with_reducible exact Below.refl _ _ | with_reducible refine bl_alloc ?_ _ | with_reducible refine bl_drew ?_ | with_reducible refine bl_drewN ?_ _ | with_reducible refine bl_bx ?_ _ | with_reducible exact BX.below _ | with_reducible refine bl_set ?_ (by first | (exact Nat.le_refl _) | (simp; done) | (simp; omega)) _ | assumption))); rintro e w' ⟨rfl, hb⟩; obtain ⟨y1, rfl⟩ := bx_of hb; clear hb)
        | (go_at_call 40; (with_reducible refine (HON.out _).mono ?_); rintro e w' ⟨rfl, rfl⟩)
        | (go_at_call 40; (with_reducible refine (HOP.out _ ?hbl).mono ?_); (case hbl => (repeat (first | with_reducible exact Below.refl _ _ | with_reducible refine bl_alloc ?_ _ | with_reducible refine bl_drew ?_ | with_reducible refine bl_drewN ?_ _ | with_reducible refine bl_bx ?_ _ | with_reducible exact BX.below _ | with_reducible refine bl_set ?_ (by first | (exact Nat.le_refl _) | (simp; done) | (simp; omega)) _ | assumption))); rintro e w' ⟨rfl, hb⟩; obtain ⟨y2, rfl⟩ := bx_of hb; clear hb)
        | (go_at_call 41; (with_reducible refine (HLK.out _ ?hbl).mono ?_); (case hbl => (repeat (first | with_reducible exact Below.refl _ _ | with_reducible refine bl_alloc ?_ _ | with_reducible refine bl_drew ?_ | with_reducible refine bl_drewN ?_ _ | with_reducible refine bl_bx ?_ _ | with_reducible exact BX.below _ | with_reducible refine bl_set ?_ (by first | (exact Nat.le_refl _) | (simp; done) | (simp; omega)) _ | assumption))); rintro e w' ⟨rfl, hb⟩; obtain ⟨y3, rfl⟩ := bx_of hb; clear hb))
      exact bodyPost_ret (v := .bool true) (by simp [results, Tryz.results9, go_sem]) rfl ⟨rfl, bl_bx (bl_bx (bl_bx HBW.out y1) y2) y3⟩
  | true =>
    have hcase : 0 ≤ fl ∧ 4 ≤ ll ∧ fl + ll ≤ 40 := by
      unfold rgB at hb
      simp at hb
      omega
    clear hb
    obtain ⟨g1, g2, g3⟩ := hcase
    obtain ⟨line, rfl⟩ : ∃ n : Nat, fl = n := ⟨fl.toNat, by omega⟩
    obtain ⟨lines, rfl⟩ : ∃ n : Nat, ll = n := ⟨ll.toNat, by omega⟩
    have h4 : 4 ≤ lines := by omega
    have hl40 : line + lines ≤ 40 := by omega
    obtain ⟨m, hm⟩ : ∃ m, lines / 4 = m := ⟨_, rfl⟩
    have HM := Lib.hid hm
    have H4 := Lib.hid h4
    have H40 := Lib.hid hl40
    have n1 : ¬ (line : Int) < 0 := by omega
    have n2 : ¬ (lines : Int) < 4 := by omega
    have n3 : ¬ 40 < (line : Int) + (lines : Int) := by omega
    have hm1 : 1 ≤ m := by omega
    have hm8 : lines / 8 ≤ m := by omega
    have HFM : Hid (∀ W, Below w1.heap.size w1 W → Calls Tryz.prog 39 #[.iface 57 (.pointer (some ⟨t 0, 0, none⟩)), .int .i64 (line : Int), .int .i64 (lines : Int)] W fun r w' => r = .returned (.int .i64 0) ∧ (∃ S', DV (fun b => x.w.heap.size ≤ b) d t w' S' ∧ Clean S' 40 (fmtX line m) 100) ∧ Ch (fun b => x.w.heap.size ≤ b) W w') := fun W hW => by
      have := pwFormat (HV0.out.below hW) (new_clean17 (List.replicate (8 * 40) 0) 40 (by simp)) line lines H4.out H40.out (by omega) 0 (by omega) (by omega)
      rw [HM.out] at this
      exact this
    clear hm h4 hl40 f3 f5 l3 l5 g1 g2 g3
    go_upto_region 13 with (first
        | (go_at_call 24; (with_reducible refine (HTH.out _ ?hbl).mono ?_); (case hbl => (repeat (first | with_reducible exact Below.refl _ _ | with_reducible refine bl_alloc ?_ _ | with_reducible refine bl_drew ?_ | with_reducible refine bl_drewN ?_ _ | with_reducible refine bl_bx ?_ _ | with_reducible exact BX.below _ | with_reducible refine bl_set ?_ (by first | (exact Nat.le_refl _) | (simp; done) | (simp; omega)) _ | assumption))); rintro e w' ⟨rfl, rfl⟩)
        | (go_at_call 39; (with_reducible refine (HFM.out _ ?hbl).mono ?_); (case hbl => (repeat (first | with_reducible exact Below.refl _ _ | with_reducible refine bl_alloc ?_ _ | with_reducible refine bl_drew ?_ | with_reducible refine bl_drewN ?_ _ | with_reducible refine bl_bx ?_ _ | with_reducible exact BX.below _ | with_reducible refine bl_set ?_ (by first | (exact Nat.le_refl _) | (simp; done) | (simp; omega)) _ | assumption))); rintro e w2 ⟨rfl, ⟨S2, hD2, hC2⟩, hCh2⟩; have HD2 := Lib.hid hD2; have HC2 := Lib.hid hC2; have HCh2 := Lib.hid hCh2; clear hD2 hC2 hCh2))
    have HBW2 : Hid (Below w.heap.size w w2) := bl_ch HBW.out HCh2.out (fun b hb => Nat.le_trans x.size hb)
    have HTH2 : Hid (∀ W, Below w2.heap.size w2 W → Calls Tryz.prog 24 #[.pointer (some ⟨d, 0, none⟩), .int .i64 0] W fun e w' => e = .returned (.pointer (some ⟨t 0, 0, none⟩)) ∧ W = w') := fun W hW => vThread (HD2.out.below hW) 0 (by omega)
    have HUN : Hid (∀ k, k < m → (fmtX line m)[8 * (line + 4 * k)]? = some 1836515329) := fun k hk => fmtX_get line m (by have := HM.out; have := H40.out; omega) k hk
    have HOP : Hid (Calls Tryz.prog 40 #[.pointer (some ⟨d, 0, none⟩), .int .i64 (line : Int), .int .i64 (lines : Int)] w2 (OpnPost w2 d line lines m ((40 : Nat) * 64))) := pwOpen HD2.out HC2.out.cur HC2.out.nl (length_fmtX line m) (fits_fmtX line m) line lines m HM.out H4.out H40.out (by omega) HUN.out
    clear HFM HTH HBW HCh2
    go_upto_region 14 with (go_at_call 40; (with_reducible refine HOP.out.mono ?_); rintro e w3 ⟨p, bb, rfl, hp, hbz, hpw, hbw, hne, hb3⟩; have HP3 := Lib.hid hp; have HZ3 := Lib.hid hbz; have HB3 := Lib.hid hb3; clear hp hbz hpw hbw hne hb3)
    have HFR : Hid (∀ W, Below w3.heap.size w3 W → Calls Tryz.prog 35 #[.pointer (some ⟨p, 0, none⟩)] W fun e w' => e = .returned (.int .i64 (m : Int)) ∧ W = w') := fun W hW => by
      have hS := HZ3.out.keep (w' := W) (fun b hb => hW.block b (HZ3.out.lt hb))
      refine pwFreeA W p bb m (by have := HM.out; have := H40.out; omega) #[] ((HP3.out.below hW).cell 4) (HP3.out.below hW).lt (hS.lt (by simp [OwnB])) (fun k hk => ?_)
      obtain ⟨g, off, hA, _, hc⟩ := hS.at_ (j := k) (by simp [bools]; omega)
      injection hA with hA
      injection hA with e1 e2
      subst e1 e2
      rw [Nat.zero_add] at hc
      rw [hc]
      simp [bools]
    have HLK : Hid (∀ W, Below w3.heap.size w3 W → Calls Tryz.prog 41 #[.iface 57 (.pointer (some ⟨t 0, 0, none⟩)), .int .i64 (line : Int), .int .i64 (lines : Int)] W fun r w' => ∃ A c, r = .returned (.slice A m c) ∧ Below W.heap.size W w') := fun W hW => pwLook_u ((HD2.out.below HB3.out).below hW) HC2.out.nl HC2.out.off 0 (by omega) line lines m HM.out H4.out H40.out (by omega) (fun k hk => by rw [HC2.out.cur]; exact HUN.out k hk)
    have HCR : Hid (∀ W, Below w3.heap.size w3 W → Calls Tryz.prog 42 #[.pointer (some ⟨d, 0, none⟩), .slice none 0 0] W fun r w' => ∃ d' t', r = .returned (.pointer (some ⟨d', 0, none⟩)) ∧ DV (fun b => W.heap.size ≤ b) d' t' w' (newS (fmtX line m) 40) ∧ Below W.heap.size W w') := fun W hW => crashN ((HD2.out.below HB3.out).below hW) HC2.out (fits_fmtX line m) (by omega) (by omega)
    have HTH3 : Hid (∀ W, Below w3.heap.size w3 W → Calls Tryz.prog 24 #[.pointer (some ⟨d, 0, none⟩), .int .i64 0] W fun e w' => e = .returned (.pointer (some ⟨t 0, 0, none⟩)) ∧ W = w') := fun W hW => vThread ((HD2.out.below HB3.out).below hW) 0 (by omega)
    have n4 : ¬ (m : Int) < imax 1 ((lines : Int) / 8) := by unfold imax; split <;> omega
    clear HOP HTH2
    go_upto_region 17 with (first
        | (go_at_call 24; (with_reducible refine (HTH3.out _ ?hbl).mono ?_); (case hbl => (repeat (first | with_reducible exact Below.refl _ _ | with_reducible refine bl_alloc ?_ _ | with_reducible refine bl_drew ?_ | with_reducible refine bl_drewN ?_ _ | with_reducible refine bl_bx ?_ _ | with_reducible exact BX.below _ | with_reducible refine bl_set ?_ (by first | (exact Nat.le_refl _) | (simp; done) | (simp; omega)) _ | assumption))); rintro e w' ⟨rfl, rfl⟩)
        | (go_at_call 35; (with_reducible refine (HFR.out _ ?hbl).mono ?_); (case hbl => (repeat (first | with_reducible exact Below.refl _ _ | with_reducible refine bl_alloc ?_ _ | with_reducible refine bl_drew ?_ | with_reducible refine bl_drewN ?_ _ | with_reducible refine bl_bx ?_ _ | with_reducible exact BX.below _ | with_reducible refine bl_set ?_ (by first | (exact Nat.le_refl _) | (simp; done) | (simp; omega)) _ | assumption))); rintro e w' ⟨rfl, rfl⟩)
        | (go_at_call 41; (with_reducible refine (HLK.out _ ?hbl).mono ?_); (case hbl => (repeat (first | with_reducible exact Below.refl _ _ | with_reducible refine bl_alloc ?_ _ | with_reducible refine bl_drew ?_ | with_reducible refine bl_drewN ?_ _ | with_reducible refine bl_bx ?_ _ | with_reducible exact BX.below _ | with_reducible refine bl_set ?_ (by first | (exact Nat.le_refl _) | (simp; done) | (simp; omega)) _ | assumption))); rintro e w' ⟨A4, c4, rfl, hb⟩; obtain ⟨y4, rfl⟩ := bx_of hb; clear hb)
        | (go_at_call 42; (with_reducible refine (HCR.out _ ?hbl).mono ?_); (case hbl => (repeat (first | with_reducible exact Below.refl _ _ | with_reducible refine bl_alloc ?_ _ | with_reducible refine bl_drew ?_ | with_reducible refine bl_drewN ?_ _ | with_reducible refine bl_bx ?_ _ | with_reducible exact BX.below _ | with_reducible refine bl_set ?_ (by first | (exact Nat.le_refl _) | (simp; done) | (simp; omega)) _ | assumption))); rintro e w' ⟨d5, t5, rfl, hD5, hb⟩; have HD5 := Lib.hid hD5; obtain ⟨y5, rfl⟩ := bx_of hb; clear hb hD5))
    have HOP2 : Hid (Calls Tryz.prog 40 #[.pointer (some ⟨d5, 0, none⟩), .int .i64 (line : Int), .int .i64 (lines : Int)] y5.w (OpnPost y5.w d5 line lines m ((40 : Nat) * 64))) := pwOpen HD5.out rfl (new_clean17 (fmtX line m) 40 (length_fmtX line m)).nl (length_fmtX line m) (fits_fmtX line m) line lines m HM.out H4.out H40.out (by omega) HUN.out
    clear HLK HCR HTH3 n4
    go_upto_region 18 with (go_at_call 40; (with_reducible refine HOP2.out.mono ?_); rintro e w6 ⟨p6, bb6, rfl, hp, hbz, hpw, hbw, hne, hb6⟩; have HP6 := Lib.hid hp; have HZ6 := Lib.hid hbz; obtain ⟨y6, rfl⟩ := bx_of hb6; clear hp hbz hpw hbw hne hb6)
    have HFR6 : Hid (∀ W, Below y6.w.heap.size y6.w W → Calls Tryz.prog 35 #[.pointer (some ⟨p6, 0, none⟩)] W fun e w' => e = .returned (.int .i64 (m : Int)) ∧ W = w') := fun W hW => by
      have hS := HZ6.out.keep (w' := W) (fun b hb => hW.block b (HZ6.out.lt hb))
      refine pwFreeA W p6 bb6 m (by have := HM.out; have := H40.out; omega) #[] ((HP6.out.below hW).cell 4) (HP6.out.below hW).lt (hS.lt (by simp [OwnB])) (fun k hk => ?_)
      obtain ⟨g, off, hA, _, hc⟩ := hS.at_ (j := k) (by simp [bools]; omega)
      injection hA with hA
      injection hA with e1 e2
      subst e1 e2
      rw [Nat.zero_add] at hc
      rw [hc]
      simp [bools]
    go_wp2_with (first
        | (go_at_call 35; (with_reducible refine (HFR6.out _ ?hbl).mono ?_); (case hbl => (repeat (first | with_reducible exact Below.refl _ _ | with_reducible refine bl_alloc ?_ _ | with_reducible refine bl_drew ?_ | with_reducible refine bl_drewN ?_ _ | with_reducible refine bl_bx ?_ _ | with_reducible exact BX.below _ | with_reducible refine bl_set ?_ (by first | (exact Nat.le_refl _) | (simp; done) | (simp; omega)) _ | assumption))); rintro e w' ⟨rfl, rfl⟩)
        | (go_at_call 35; (with_reducible refine (HFR.out _ ?hbl).mono ?_); (case hbl => (repeat (first | with_reducible exact Below.refl _ _ | with_reducible refine bl_alloc ?_ _ | with_reducible refine bl_drew ?_ | with_reducible refine bl_drewN ?_ _ | with_reducible refine bl_bx ?_ _ | with_reducible exact BX.below _ | with_reducible refine bl_set ?_ (by first | (exact Nat.le_refl _) | (simp; done) | (simp; omega)) _ | assumption))); rintro e w' ⟨rfl, rfl⟩))
    exact bodyPost_ret (v := .bool true) (by simp [results, Tryz.results9, go_sem]) rfl ⟨rfl, (HBW2.out.trans (HB3.out.mono HBW2.out.size)).trans ((by (repeat (first | with_reducible exact Below.refl _ _ | with_reducible refine bl_alloc ?_ _ | with_reducible refine bl_drew ?_ | with_reducible refine bl_drewN ?_ _ | with_reducible refine bl_bx ?_ _ | with_reducible exact BX.below _ | with_reducible refine bl_set ?_ (by first | (exact Nat.le_refl _) | (simp; done) | (simp; omega)) _ | assumption)) : Below w3.heap.size w3 y6.w).mono (HBW2.out.trans (HB3.out.mono HBW2.out.size)).size)⟩
end Go.Proofs.YtjaohgnloddgfaaGreatDoor
