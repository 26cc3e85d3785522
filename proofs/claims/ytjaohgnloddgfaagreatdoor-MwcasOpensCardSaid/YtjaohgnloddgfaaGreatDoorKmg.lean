/- Format and Open of a pool (merged). -/
import Derived.Test.YtjaohgnloddgfaaGreatDoorKmc
import Derived.Test.YtjaohgnloddgfaaGreatDoorKma
import Derived.Test.YtjaohgnloddgfaaGreatDoorKmd
import Derived.Test.YtjaohgnloddgfaaGreatDoorBytes
import Derived.Deep.CutRange
import Derived.Deep.RegionHeld3
namespace Go.Proofs.YtjaohgnloddgfaaGreatDoor
open Go.RowKit
set_option linter.unusedVariables false
set_option linter.unusedSimpArgs false

section
variable {F : Nat → Prop} {d : Nat} {t : Nat → Nat} {w w0 : World} {S : DevS} {n N : Nat} {xs : List Int}
theorem runC (h : DV F d t w0 S) (hcl : Clean S n xs N) (hb : Below w0.heap.size w0 w) (A : Option Addr) (m cp : Nat) (ws : List (Int × Int)) (hm : (storesP ws).length = m) (hS : Sl 174 3 w A m cp (pcells (storesP ws))) (hA : ∀ b, OwnB A b → w0.heap.size ≤ b) (i : Nat) (hi : i < 8)
    (hv : ∀ p ∈ ws, ∃ k : Nat, p.1 = 8 * (k : Int) ∧ k < 8 * n) (hn : n ≤ 4096) (hN : N + m < 1000000) :
    Calls Tryz.prog 77 #[.slice A m cp, .iface 57 (.pointer (some ⟨t i, 0, none⟩))] w fun r w' => r = .returned (.int .i64 0) ∧ (∃ S', DV F d t w' S' ∧ Clean S' n (applyW xs ws) (N + m)) ∧ Ch F w0 w' := by
  subst hm
  have h2 := h.less hb (fun b => OwnB A b) (fun b hb' => ⟨hA b hb', hS.lt hb'⟩)
  have hc2 := hcl.stores hi ws hv hN
  refine (memRun w h2 i hi hcl.good A _ cp (storesP ws) rfl hS (fun b hb hf => hf.2 hb) hN (fun p hp => ?_)).mono ?_
  · unfold storesP at hp
    simp only [List.mem_append, List.mem_singleton] at hp
    rcases hp with (hp | hp) | hp
    · obtain ⟨p', hp', rfl⟩ := List.mem_map.1 hp
      obtain ⟨k, hk1, hk2⟩ := hv p' hp'
      exact ⟨rfl, by show 0 ≤ p'.1; omega, by show p'.1 < _; omega⟩
    · obtain ⟨l, hl, rfl⟩ := List.mem_map.1 hp
      rw [mem_cpt'] at hl
      obtain ⟨p', hp', rfl⟩ := List.mem_map.1 hl
      obtain ⟨k, hk1, hk2⟩ := hv p' hp'
      exact ⟨rfl, by show 0 ≤ startOf p'.1; unfold startOf; omega, by show startOf p'.1 < _; unfold startOf; omega⟩
    · subst hp
      exact ⟨rfl, Int.le_refl _, by show (0 : Int) < _; omega⟩
  · rintro r w' ⟨rfl, hD, hC⟩
    refine ⟨by rw [hc2.err i], ⟨_, hD.mono (fun b hb => hb.1), hc2⟩, ?_⟩
    exact (Ch.of_below hb).trans hC (fun b hb _ => hb.1)
/-- The writes of Format. -/
def fmt17 (line cnt : Nat) : List (Int × Int) := (List.range cnt).map fun k => (atW line k, 1836515329)
theorem length_fmt17 (line cnt : Nat) : (fmt17 line cnt).length = cnt := by simp [fmt17]
theorem fmt17_take (line cnt k : Nat) (hk : k < cnt) : (fmt17 line cnt).take (k + 1) = (fmt17 line cnt).take k ++ [(atW line k, 1836515329)] := by
  rw [List.take_succ_eq_append_getElem (by rw [length_fmt17]; exact hk)]
  congr 2
  simp [fmt17]
theorem fmt17_mem {line cnt : Nat} {p : Int × Int} (h : p ∈ fmt17 line cnt) : ∃ k, k < cnt ∧ p.1 = atW line k := by
  obtain ⟨k, hk, rfl⟩ := List.mem_map.1 h
  exact ⟨k, by simpa using hk, rfl⟩
theorem starts_fmt17 (line cnt : Nat) : (starts (fmt17 line cnt)).Pairwise (· ≤ ·) := by
  rw [List.pairwise_iff_getElem]
  intro i j hi hj hij
  simp only [starts, fmt17, List.getElem_map, List.getElem_range]
  unfold startOf atW
  omega
/-- Format's loop. -/
def Fm17 (w : World) (line cnt k : Nat) (A : Option Addr) (cp : Nat) (wr : World) : Prop :=
  Sl 147 2 wr A k cp (wcells ((fmt17 line cnt).take k)) ∧ Below w.heap.size w wr ∧ ∀ b, OwnB A b → w.heap.size ≤ b
set_option maxRecDepth 100000 in
set_option maxHeartbeats 4000000 in
theorem pwFormat (h : DV F d t w S) (hcl : Clean S n xs N) (line lines : Nat) (h4 : 4 ≤ lines) (hl : line + lines ≤ n) (hn : n ≤ 48) (i : Nat) (hi : i < 8) (hN : N + 100 < 1000000) :
    Calls Tryz.prog 39 #[.iface 57 (.pointer (some ⟨t i, 0, none⟩)), .int .i64 (line : Int), .int .i64 (lines : Int)] w fun r w' => r = .returned (.int .i64 0) ∧ (∃ S', DV F d t w' S' ∧ Clean S' n (applyW xs (fmt17 line (lines / 4))) (N + 100)) ∧ Ch F w w' := by
  have H := Lib.hid h
  have HCL := Lib.hid hcl
  have HSZ : Hid (∀ W, Below w.heap.size w W → Calls Tryz.prog 167 #[.pointer (some ⟨t i, 0, none⟩)] W fun e w' => e = .returned (.int .u64 ((n : Int) * 64)) ∧ W = w') := fun W hW => by
    have := vSize (h.below hW) i hi
    rwa [hcl.nl] at this
  have HER : Hid (∀ W, Below w.heap.size w W → Calls Tryz.prog 57 #[.pointer (some ⟨t i, 0, none⟩)] W fun e w' => e = .returned (.int .i64 0) ∧ W = w') := fun W hW => by
    have := vErr (h.below hW) i hi
    rwa [hcl.err i] at this
  have hrb : rgB (line : Int) (lines : Int) (n : Int) = true := by unfold rgB; simp; omega
  have HVA : Hid (∀ W, Calls Tryz.prog 73 #[.agg #[.int .i64 (line : Int), .int .i64 (lines : Int), .int .u64 ((n : Int) * 64)]] W fun e w' => e = .returned (.bool true) ∧ Below W.heap.size W w') := fun W => by
    have := rgValid W line lines n (by omega) (by omega) (by omega)
    rwa [hrb] at this
  obtain ⟨m, hm⟩ : ∃ m, lines / 4 = m := ⟨_, rfl⟩
  have HCO : Hid (∀ W, Calls Tryz.prog 74 #[.agg #[.int .i64 (line : Int), .int .i64 (lines : Int), .int .u64 ((n : Int) * 64)]] W fun e w' => e = .returned (.int .i64 (m : Int)) ∧ Below W.heap.size W w') := fun W => by
    have := rgCount W line lines ((n : Int) * 64) (by omega)
    rwa [hm] at this
  have HAT : Hid (∀ W k, k < m → Calls Tryz.prog 75 #[.agg #[.int .i64 (line : Int), .int .i64 (lines : Int), .int .u64 ((n : Int) * 64)], .int .i64 (k : Int)] W fun e w' => e = .returned (.int .u64 (atW line k)) ∧ Below W.heap.size W w') := fun W k hk => rgAt W line lines ((n : Int) * 64) k (by omega)
  have hm1 : 1 ≤ m ∧ m ≤ 12 ∧ line + 4 * m ≤ n := by omega
  obtain ⟨m1, m2, m3⟩ := hm1
  rw [hm]
  clear h hcl hrb hm
  go_enter Tryz.func39, Tryz.ntmps39
  go_wp2_with (first | (go_at_call 167; refine (HSZ.out _ (by (repeat (first | with_reducible exact Below.refl _ _ | with_reducible refine bl_alloc ?_ _ | with_reducible refine bl_drew ?_ | with_reducible refine bl_drewN ?_ _ | with_reducible refine bl_bx ?_ _ | with_reducible exact BX.below _ | with_reducible refine bl_set ?_ (by first | (exact Nat.le_refl _) | (simp; done) | (simp; omega)) _ | assumption)))).mono ?_; rintro e w' ⟨rfl, rfl⟩) | (go_at_call 73; refine (HVA.out _).mono ?_; rintro e w' ⟨rfl, hb⟩; obtain ⟨x, rfl⟩ := bx_of hb; clear hb) | (go_at_call 57; refine (HER.out _ (by (repeat (first | with_reducible exact Below.refl _ _ | with_reducible refine bl_alloc ?_ _ | with_reducible refine bl_drew ?_ | with_reducible refine bl_drewN ?_ _ | with_reducible refine bl_bx ?_ _ | with_reducible exact BX.below _ | with_reducible refine bl_set ?_ (by first | (exact Nat.le_refl _) | (simp; done) | (simp; omega)) _ | assumption)))).mono ?_; rintro e w' ⟨rfl, rfl⟩) | (go_at_call 74; refine (HCO.out _).mono ?_; rintro e w' ⟨rfl, hb⟩; obtain ⟨z, rfl⟩ := bx_of hb; clear hb))
  have HI0 : Hid (Fm17 w line m 0 none 0 z.w) := ⟨Sl.nil, by (repeat (first | with_reducible exact Below.refl _ _ | with_reducible refine bl_alloc ?_ _ | with_reducible refine bl_drew ?_ | with_reducible refine bl_drewN ?_ _ | with_reducible refine bl_bx ?_ _ | with_reducible exact BX.below _ | with_reducible refine bl_set ?_ (by first | (exact Nat.le_refl _) | (simp; done) | (simp; omega)) _ | assumption)), by simp [OwnB]⟩
  have hgx : w.heap.size < x.w.heap.size := x.lt_size (by simp)
  have hgz : w.heap.size < z.w.heap.size := z.lt_size hgx
  have z0 : z.w.cell? ⟨w.heap.size, 0, none⟩ = some (.int .i64 (line : Int)) := by go_simp
  have z1 : z.w.cell? ⟨w.heap.size, 1, none⟩ = some (.int .i64 (lines : Int)) := by go_simp
  have z2 : z.w.cell? ⟨w.heap.size, 2, none⟩ = some (.int .u64 ((n : Int) * 64)) := by go_simp
  obtain ⟨W0, hW0⟩ : ∃ W0, z.w = W0 := ⟨_, rfl⟩
  obtain ⟨gr, hgr⟩ : ∃ gr, w.heap.size = gr := ⟨_, rfl⟩
  have HGR := Lib.hid hgr
  have HBW0 : Hid (Below w.heap.size w W0) := by rw [← hW0]; show Below _ _ _; (repeat (first | with_reducible exact Below.refl _ _ | with_reducible refine bl_alloc ?_ _ | with_reducible refine bl_drew ?_ | with_reducible refine bl_drewN ?_ _ | with_reducible refine bl_bx ?_ _ | with_reducible exact BX.below _ | with_reducible refine bl_set ?_ (by first | (exact Nat.le_refl _) | (simp; done) | (simp; omega)) _ | assumption))
  rw [hW0] at HI0 hgz z0 z1 z2
  rw [hgr] at hgz z0 z1 z2
  rw [hW0, hgr]
  have HI1 : Hid (Fm17 W0 line m 0 none 0 W0) := ⟨Sl.nil, Below.refl _ _, by simp [OwnB]⟩
  clear hW0 hgr HI0 hgx
  go_loopw [28, 9, 10, 29, 30, 31, 32, 33, 34, 35, 36, 37, 38] (fun i' rc _ _ _ _ _ _ _ _ _ _ _ wr => ∃ (j : Nat) (A : Option Addr) (c : Nat), j ≤ m ∧ i' = .int .i64 j ∧ rc = .slice A j c ∧ Fm17 W0 line m j A c wr) (fun i' _ _ _ _ _ _ _ _ _ _ _ _ _ => m - (intOf i').toNat)
  case atStart => exact ⟨0, none, 0, by omega, rfl, rfl, HI1.out⟩
  case round =>
    clear HI1
    obtain ⟨j, A, c, hj, rfl, rfl, hS, hB, hO⟩ := hrel
    have HS := Lib.hid hS
    have HB := Lib.hid hB
    have HO := Lib.hid hO
    have y0 := (hB.cell (p := ⟨gr, 0, none⟩) hgz).trans z0
    have y1 := (hB.cell (p := ⟨gr, 1, none⟩) hgz).trans z1
    have y2 := (hB.cell (p := ⟨gr, 2, none⟩) hgz).trans z2
    have hgw : gr < wr.heap.size := Nat.lt_of_lt_of_le hgz hB.size
    clear hS hB hO
    by_cases hlt : j < m
    · have hlt' : (j : Int) < (m : Int) := by omega
      obtain ⟨q, hq⟩ : ∃ q, atW line j = q := ⟨_, rfl⟩
      have HATJ := Lib.hid (fun W => HAT.out W j hlt)
      have HFT := Lib.hid (fmt17_take line m j hlt)
      rw [hq] at HATJ HFT
      clear hq
      go_wp2_with (first | (go_at_call 75; refine (HATJ.out _).mono ?_; rintro e w' ⟨rfl, hb⟩; obtain ⟨y, rfl⟩ := bx_of hb; clear hb) | (at_builtin; refine wpList_append_sl rfl (.tmp 31) (.tmp 36) 145 rfl 147 (.agg #[.int .u64 0, .int .u64 0]) 2 16 rfl (by omega) Tryz.underlying145 info_write (by omega) A j c (wcells ((fmt17 line m).take j)) ⟨y.w.heap.size, 0, none⟩ 1 1 [.int .u64 q, .int .u64 1836515329] rfl rfl (HS.out.keep (fun b hb => (bl_alloc y.below _).block b (HS.out.lt hb))) rfl (by omega) (cells_two y.w 147 _ _) (u64_two _ _) (by omega) ?_; intro A4 c4 w4 HO4 HC4 HW4 HG4))
      go_roundw
      case rel =>
        refine ⟨j + 1, A4, c4, by omega, by go_num, rfl, ?_, ?_, fun b hb => ?_⟩
        · rw [HFT.out, wcells_snoc]; exact HO4.out
        · exact bl_ch (HB.out.trans ((bl_alloc y.below _).mono HB.out.size)) HC4.out (fun b hb => HO.out b hb)
        · have h1 := HB.out.size
          have h2 := y.size
          rcases HW4.out b hb with h | h
          · exact HO.out b h
          · rw [h]; simp; omega
      case measure => simp [intOf]; omega
    · obtain rfl : j = m := by omega
      have hft : (fmt17 line j).take j = fmt17 line j := List.take_of_length_le (by rw [length_fmt17]; omega)
      have hS := HS.out
      rw [hft] at hS
      have HS2 := Lib.hid hS
      have HBW : Hid (Below w.heap.size w wr) := HBW0.out.trans (HB.out.mono HBW0.out.size)
      have HST : Hid (Calls Tryz.prog 76 #[.slice A j c] wr (StoPost wr (storesP (fmt17 line j)))) := by
        refine memStores wr A j c (fmt17 line j) (length_fmt17 _ _) m1 m2 HS2.out (fun p hp => ?_) (starts_fmt17 _ _)
        obtain ⟨k, hk, hp1⟩ := fmt17_mem hp
        rw [hp1]; unfold atW; omega
      have hln : (storesP (fmt17 line j)).length ≤ 100 := by
        have h1 := length_storesP (ws := fmt17 line j)
        have h2 := cpt_le (starts (fmt17 line j))
        have h3 : (starts (fmt17 line j)).length = j := by simp [starts, length_fmt17]
        rw [length_fmt17] at h1
        omega
      clear hft hS
      go_wp2_with (first | (go_at_call 76; refine HST.out.mono ?_; rintro r w2 ⟨A2, cp2, rfl, hS2, hB2, hO2⟩; have HS3 := Lib.hid hS2; have HB2 : Hid (Below w.heap.size w w2) := HBW.out.trans (hB2.mono HBW.out.size); have HO2 : Hid (∀ b, OwnB A2 b → w.heap.size ≤ b) := (fun b hb => by have h1 := hO2 b hb; have h3 := HBW.out.size; omega); clear hS2 hB2 hO2) | (go_at_call 77; refine (runC H.out HCL.out HB2.out A2 _ cp2 (fmt17 line j) rfl HS3.out HO2.out i hi (fun p hp => by obtain ⟨k, hk, hp1⟩ := fmt17_mem hp; exact ⟨8 * (line + 4 * k), by rw [hp1]; rfl, by omega⟩) (by omega) (by omega)).mono ?_; rintro r w3 ⟨rfl, ⟨S3, hD3, hC3⟩, hCh3⟩; have HD3 := Lib.hid hD3; have HC3 := Lib.hid hC3; have HCh3 := Lib.hid hCh3; clear hD3 hC3 hCh3))
      go_ret
      exact ⟨rfl, ⟨S3, HD3.out, ⟨HC3.out.good.mono (by omega), HC3.out.nl, HC3.out.cur, HC3.out.pers, HC3.out.off, HC3.out.armed, HC3.out.hist, HC3.out.err, HC3.out.notes⟩⟩, HCh3.out⟩
end
end Go.Proofs.YtjaohgnloddgfaaGreatDoor

namespace Go.Proofs.YtjaohgnloddgfaaGreatDoor
open Go.RowKit
set_option linter.unusedVariables false
set_option linter.unusedSimpArgs false

set_option maxRecDepth 100000 in
set_option maxHeartbeats 2000000 in
theorem pwOpenLoad (w : World) (gc gb cl m : Nat) (ws : List Int) (hf : Fits ws) (hc : w.cell? ⟨gc, 0, none⟩ = some (.slice (some ⟨gb, 0, none⟩) m cl)) (hI : IB .u8 5 w gb (bytesL ws)) (hm : 8 * ws.length = m) (hm2 : m ≤ 1000000) (k : Nat) (hk : k < ws.length) (v : Int) (hv : ws[k]? = some v) :
    Calls Tryz.prog 79 #[.int .u64 (8 * (k : Int)), .pointer (some ⟨gc, 0, none⟩)] w fun e w' => e = .returned (.int .u64 v) ∧ w = w' := by
  have HI := Lib.hid hI
  have HM := Lib.hid hm
  have hgl : gb < w.heap.size := hI.lt
  have hcl : gc < w.heap.size := World.block_lt_of_cell? w _ hc
  obtain ⟨hkl, hkv⟩ := List.getElem?_eq_some_iff.1 hv
  have hvr := hf _ (List.getElem_mem hkl)
  rw [hkv] at hvr
  have HV := Lib.hid hv
  have HVR := Lib.hid hvr
  have hk8 : 8 * k + 8 ≤ 1000000 := by omega
  clear hI hm hf hv hkv
  go_enter Tryz.func79, Tryz.ntmps79
  go_wp2
  go_loopw [6, 4, 5, 7, 8, 9, 10, 11, 12, 13, 14, 15, 16, 17, 18, 19, 20, 21] (fun i a _ _ _ _ _ _ _ _ _ _ _ _ _ _ _ _ wr => ∃ s : Nat, s ≤ 8 ∧ i = .int .u64 s ∧ a = .int .u64 (v % 2 ^ (s * 8)) ∧ w = wr) (fun i _ _ _ _ _ _ _ _ _ _ _ _ _ _ _ _ _ _ => 8 - (intOf i).toNat)
  case atStart => exact ⟨0, by omega, rfl, by simp, rfl⟩
  case round =>
    obtain ⟨s, hs, rfl, rfl, rfl⟩ := hrel
    by_cases hlt : s < 8
    · have hlt' : (s : Int) < 8 := by omega
      have hj : 8 * k + s < (bytesL ws).length := by rw [length_bytesL]; omega
      have hby := HI.out.cell hj
      have hq : byteAt ws (8 * k + s) = v / 2 ^ (s * 8) % 256 := by
        unfold byteAt
        rw [show (8 * k + s) / 8 = k by omega, HV.out, show (8 * k + s) % 8 = s by omega]
        rfl
      rw [bytesL_get, hq] at hby
      have hor := or_byte v HVR.out s hlt
      obtain ⟨bt, hbt⟩ : ∃ bt, v / 2 ^ (s * 8) % 256 = bt := ⟨_, rfl⟩
      have hbr : 0 ≤ bt ∧ bt < 256 := by omega
      obtain ⟨ac, hac⟩ : ∃ ac, v % 2 ^ (s * 8) = ac := ⟨_, rfl⟩
      obtain ⟨nx, hnx⟩ : ∃ nx, v % 2 ^ ((s + 1) * 8) = nx := ⟨_, rfl⟩
      have HNX := Lib.hid hnx
      rw [hbt] at hby hor
      rw [hac, hnx] at hor
      rw [hac]
      have e1 : IntKind.u64.wrap (8 * (k : Int) + (s : Int)) = 8 * (k : Int) + (s : Int) := IntWalk.u64_in _ (by omega)
      have e2 : IntKind.u64.wrap (8 * (s : Int)) = 8 * (s : Int) := IntWalk.u64_in _ (by omega)
      have e3 : IntKind.u64.wrap bt = bt := IntWalk.u64_in _ (by omega)
      have e4 : (8 * (k : Int) + (s : Int)).toNat = 8 * k + s := by omega
      have e5 : (8 * (s : Int)).toNat = s * 8 := by omega
      have e6 : IntKind.u64.wrap ((s : Int) + 1) = (s : Int) + 1 := IntWalk.u64_in _ (by omega)
      have e7 : 8 * (k : Int) + (s : Int) < (m : Int) := by have := HM.out; omega
      have e8 : ¬ 64 ≤ s * 8 := by omega
      clear hbt hac hnx hq hj
      go_wp2
      exact ⟨⟨s + 1, by omega, by go_num, by rw [HNX.out], trivial⟩, by simp [intOf]; omega⟩
    · obtain rfl : s = 8 := by omega
      have hv8 : v % 2 ^ (8 * 8) = v := by have := HVR.out; omega
      rw [hv8]
      clear hv8
      go_wp2
      go_ret
      exact ⟨rfl, rfl⟩
/-- What a descriptor that is not used reads as. -/
def recU : Value := .agg #[.int .u8 1, .slice none 0 0, .slice none 0 0]
set_option maxRecDepth 100000 in
set_option maxHeartbeats 2000000 in
theorem rgRead_u (w : World) (line lines size : Int) (gc : Nat) (off : Int) (HL : ∀ W, Below w.heap.size w W → Calls Tryz.prog 79 #[.int .u64 off, .pointer (some ⟨gc, 0, none⟩)] W fun e w' => e = .returned (.int .u64 1836515329) ∧ W = w') :
    Calls Tryz.prog 107 #[.agg #[.int .i64 line, .int .i64 lines, .int .u64 size], .func (.func 79) #[] #[.pointer (some ⟨gc, 0, none⟩)], .int .u64 off] w fun e w' => e = .returned (.tuple #[.agg #[.int .u8 1, .slice none 0 0, .slice none 0 0], .bool true]) ∧ Below w.heap.size w w' := by
  have HL := Lib.hid HL
  go_enter Tryz.func107, Tryz.ntmps107
  go_wp2_with (go_at_call 79; refine (HL.out _ (by (repeat (first | with_reducible exact Below.refl _ _ | with_reducible refine bl_alloc ?_ _ | with_reducible refine bl_drew ?_ | with_reducible refine bl_drewN ?_ _ | with_reducible refine bl_bx ?_ _ | with_reducible exact BX.below _ | with_reducible refine bl_set ?_ (by first | (exact Nat.le_refl _) | (simp; done) | (simp; omega)) _ | assumption)))).mono ?_; rintro e w' ⟨rfl, rfl⟩)
  exact bodyPost_ret (v := .tuple #[.agg #[.int .u8 1, .slice none 0 0, .slice none 0 0], .bool true]) (by simp [results, Tryz.results107, go_sem]) rfl ⟨rfl, (by repeat (first | with_reducible exact Below.refl _ _ | with_reducible refine bl_alloc ?_ _ | with_reducible refine bl_drew ?_ | with_reducible refine bl_drewN ?_ _ | with_reducible refine bl_bx ?_ _ | with_reducible exact BX.below _ | with_reducible refine bl_set ?_ (by first | (exact Nat.le_refl _) | (simp; done) | (simp; omega)) _ | assumption))⟩
def RecRel (wr : World) (s8 s9 : Value) (wx : World) : Prop := ∃ gd, s8 = .pointer (some ⟨gd, 0, none⟩) ∧ s9 = .bool true ∧ CB wx gd 154 #[.int .u8 1, .slice none 0 0, .slice none 0 0] ∧ Below wr.heap.size wr wx
theorem recRelA {wr X : World} (h : Below wr.heap.size wr X) : RecRel wr (.pointer (some ⟨X.heap.size, 0, none⟩)) (.bool true) (X.alloc (.cells #[.int .u8 1, .slice none 0 0, .slice none 0 0] 154)) := ⟨_, rfl, rfl, CB.new _ _ _, bl_alloc h _⟩
theorem recRelB {wr X : World} {g : Nat} {a b c : Value} (hc : CB X g 154 #[a, b, c]) (h : Below wr.heap.size wr X) (hg : wr.heap.size ≤ g) : RecRel wr (.pointer (some ⟨g, 0, none⟩)) (.bool true) (((X.setCell ⟨g, 0, none⟩ (.int .u8 1)).setCell ⟨g, 1, none⟩ (.slice none 0 0)).setCell ⟨g, 2, none⟩ (.slice none 0 0)) :=
  ⟨_, rfl, rfl, ((hc.set 0 _).set 1 _).set 2 _, bl_set (bl_set (bl_set h hg _) hg _) hg _⟩
theorem info_rec : (Tryz.prog.info? 154).map (fun i => (i.zero, i.size, i.bytes)) = some (some (.agg #[.int .u8 0, .slice none 0 0, .slice none 0 0]), 3, 56) := by kernel_rfl
def recs (k : Nat) : List Value := (List.replicate k [Value.int .u8 1, .slice none 0 0, .slice none 0 0]).flatten
theorem recs_succ (k : Nat) : recs (k + 1) = recs k ++ [.int .u8 1, .slice none 0 0, .slice none 0 0] := by
  unfold recs
  rw [List.replicate_succ', List.flatten_append]
  simp
theorem length_recs (k : Nat) : (recs k).length = k * 3 := by induction k with
  | zero => rfl
  | succ k ih => rw [recs_succ, List.length_append, ih]; simp; omega
theorem rec_one : ∀ u ∈ ([.int .u8 1, .slice none 0 0, .slice none 0 0] : List Value), u.oneCell' = true := by
  intro u hu
  simp only [List.mem_cons, List.not_mem_nil, or_false] at hu
  rcases hu with rfl | rfl | rfl <;> rfl
set_option maxRecDepth 100000 in
set_option maxHeartbeats 16000000 in
theorem rgAll_u (w : World) (line lines m : Nat) (size : Int) (hm : lines / 4 = m) (hl : line + lines < 1000) (gc : Nat) (HL : ∀ W, Below w.heap.size w W → ∀ k, k < m → Calls Tryz.prog 79 #[.int .u64 (atW line k), .pointer (some ⟨gc, 0, none⟩)] W fun e w' => e = .returned (.int .u64 1836515329) ∧ W = w') :
    Calls Tryz.prog 80 #[.agg #[.int .i64 (line : Int), .int .i64 (lines : Int), .int .u64 size], .func (.func 79) #[] #[.pointer (some ⟨gc, 0, none⟩)]] w fun e w' => ∃ A c, e = .returned (.tuple #[.slice A m c, .bool true]) ∧ Sl 154 3 w' A m c (recs m) ∧ Below w.heap.size w w' ∧ ∀ b, OwnB A b → w.heap.size ≤ b := by
  have HL := Lib.hid HL
  have HCO : Hid (∀ W, Calls Tryz.prog 74 #[.agg #[.int .i64 (line : Int), .int .i64 (lines : Int), .int .u64 size]] W fun e w' => e = .returned (.int .i64 (m : Int)) ∧ Below W.heap.size W w') := fun W => by
    have := rgCount W line lines size (by omega)
    rwa [hm] at this
  have HAT : Hid (∀ W k, k < m → Calls Tryz.prog 75 #[.agg #[.int .i64 (line : Int), .int .i64 (lines : Int), .int .u64 size], .int .i64 (k : Int)] W fun e w' => e = .returned (.int .u64 (atW line k)) ∧ Below W.heap.size W w') := fun W k hk => rgAt W line lines size k (by omega)
  have hm2 : m ≤ 250 := by omega
  clear hm hl
  go_enter Tryz.func80, Tryz.ntmps80
  go_wp2_with (go_at_call 74; refine (HCO.out _).mono ?_; rintro e w' ⟨rfl, hb⟩; obtain ⟨x, rfl⟩ := bx_of hb; clear hb)
  have hgx : w.heap.size < x.w.heap.size := x.lt_size (by simp)
  have z0 : x.w.cell? ⟨w.heap.size, 0, none⟩ = some (.int .i64 (line : Int)) := by go_simp
  have z1 : x.w.cell? ⟨w.heap.size, 1, none⟩ = some (.int .i64 (lines : Int)) := by go_simp
  have z2 : x.w.cell? ⟨w.heap.size, 2, none⟩ = some (.int .u64 size) := by go_simp
  have HBW0 : Hid (Below w.heap.size w x.w) := by show Below _ _ _; (repeat (first | with_reducible exact Below.refl _ _ | with_reducible refine bl_alloc ?_ _ | with_reducible refine bl_drew ?_ | with_reducible refine bl_drewN ?_ _ | with_reducible refine bl_bx ?_ _ | with_reducible exact BX.below _ | with_reducible refine bl_set ?_ (by first | (exact Nat.le_refl _) | (simp; done) | (simp; omega)) _ | assumption))
  obtain ⟨W0, hW0⟩ : ∃ W0, x.w = W0 := ⟨_, rfl⟩
  obtain ⟨gr, hgr⟩ : ∃ gr, w.heap.size = gr := ⟨_, rfl⟩
  have HGR := Lib.hid hgr
  rw [hW0] at hgx z0 z1 z2 HBW0
  rw [hgr] at hgx z0 z1 z2
  rw [hW0, hgr]
  clear hW0 hgr
  go_loopw [12, 6, 7, 8, 9, 13, 14, 15, 16, 17, 18, 19, 20, 21, 22, 23, 24, 25, 26, 27, 28, 29, 30] (fun i' rc _ _ _ _ _ _ _ _ _ _ _ _ _ _ _ _ _ _ _ _ _ wr => ∃ (j : Nat) (A : Option Addr) (c : Nat), j ≤ m ∧ i' = .int .i64 j ∧ rc = .slice A j c ∧ Sl 154 3 wr A j c (recs j) ∧ Below W0.heap.size W0 wr ∧ ∀ b, OwnB A b → W0.heap.size ≤ b) (fun i' _ _ _ _ _ _ _ _ _ _ _ _ _ _ _ _ _ _ _ _ _ _ _ => m - (intOf i').toNat)
  case atStart => exact ⟨0, none, 0, by omega, rfl, rfl, Sl.nil, Below.refl _ _, by simp [OwnB]⟩
  case round =>
    obtain ⟨j, A, c, hj, rfl, rfl, hS, hB, hO⟩ := hrel
    have HS := Lib.hid hS
    have HB := Lib.hid hB
    have HO := Lib.hid hO
    have y0 := (hB.cell (p := ⟨gr, 0, none⟩) hgx).trans z0
    have y1 := (hB.cell (p := ⟨gr, 1, none⟩) hgx).trans z1
    have y2 := (hB.cell (p := ⟨gr, 2, none⟩) hgx).trans z2
    have hgw : gr < wr.heap.size := Nat.lt_of_lt_of_le hgx hB.size
    have HBA : Hid (Below w.heap.size w wr) := HBW0.out.trans (hB.mono HBW0.out.size)
    clear hS hB hO
    by_cases hlt : j < m
    · have hlt' : (j : Int) < (m : Int) := by omega
      have HATJ := Lib.hid (fun W => HAT.out W j hlt)
      have HLJ : Hid (∀ W, Below wr.heap.size wr W → ∀ W2, Below W.heap.size W W2 → Calls Tryz.prog 79 #[.int .u64 (atW line j), .pointer (some ⟨gc, 0, none⟩)] W2 fun e w' => e = .returned (.int .u64 1836515329) ∧ W2 = w') := fun W hW W2 hW2 => HL.out W2 ((HBA.out.trans (hW.mono HBA.out.size)).trans (hW2.mono (Nat.le_trans HBA.out.size hW.size))) j hlt
      obtain ⟨q, hq⟩ : ∃ q, atW line j = q := ⟨_, rfl⟩
      rw [hq] at HATJ HLJ
      clear hq
      go_wp2
      go_cut [8, 9] from 15 to 30 (fun s8 s9 wx => RecRel wr s8 s9 wx)
      case first =>
        go_region_held3 (fun w' => w'.cell? ⟨gr, 0, none⟩ = some (.int .i64 (line : Int)) ∧ w'.cell? ⟨gr, 1, none⟩ = some (.int .i64 (lines : Int)) ∧ w'.cell? ⟨gr, 2, none⟩ = some (.int .u64 size) ∧ gr < w'.heap.size ∧ Below wr.heap.size wr w')
          ((refine ⟨?_, ?_, ?_, ?_, ?_⟩ <;> first | assumption | ((repeat (first | with_reducible exact Below.refl _ _ | with_reducible refine bl_alloc ?_ _ | with_reducible refine bl_drew ?_ | with_reducible refine bl_drewN ?_ _ | with_reducible refine bl_bx ?_ _ | with_reducible exact BX.below _ | with_reducible refine bl_set ?_ (by first | (exact Nat.le_refl _) | (simp; done) | (simp; omega)) _ | assumption)); done) | (refine bl_set (bl_set (bl_set ?_ hys _) hys _) hys _; (repeat (first | with_reducible exact Below.refl _ _ | with_reducible refine bl_alloc ?_ _ | with_reducible refine bl_drew ?_ | with_reducible refine bl_drewN ?_ _ | with_reducible refine bl_bx ?_ _ | with_reducible exact BX.below _ | with_reducible refine bl_set ?_ (by first | (exact Nat.le_refl _) | (simp; done) | (simp; omega)) _ | assumption)); done) | (go_simp; done) | (simp; omega)))
          (first | (go_at_call 75; refine (HATJ.out _).mono ?_; rintro e w' ⟨rfl, hb⟩; obtain ⟨y, rfl⟩ := bx_of hb; clear hb; have hys : wr.heap.size ≤ y.w.heap.size := (by have h9 := y.size; first | exact h9 | (simp at h9; omega)); have hgy : gr < y.w.heap.size := y.lt_size (by first | exact hgw | (simp; omega)); have k0 : y.w.cell? ⟨gr, 0, none⟩ = some (.int .i64 (line : Int)) := (y.cell gr 0 (by first | exact hgw | (simp; omega))).trans (by first | exact y0 | go_simp); have k1 : y.w.cell? ⟨gr, 1, none⟩ = some (.int .i64 (lines : Int)) := (y.cell gr 1 (by first | exact hgw | (simp; omega))).trans (by first | exact y1 | go_simp); have k2 : y.w.cell? ⟨gr, 2, none⟩ = some (.int .u64 size) := (y.cell gr 2 (by first | exact hgw | (simp; omega))).trans (by first | exact y2 | go_simp)) | (go_at_call 107; refine (rgRead_u _ (line : Int) (lines : Int) size gc q (HLJ.out _ (by (repeat (first | with_reducible exact Below.refl _ _ | with_reducible refine bl_alloc ?_ _ | with_reducible refine bl_drew ?_ | with_reducible refine bl_drewN ?_ _ | with_reducible refine bl_bx ?_ _ | with_reducible exact BX.below _ | with_reducible refine bl_set ?_ (by first | (exact Nat.le_refl _) | (simp; done) | (simp; omega)) _ | assumption))))).mono ?_; rintro e w' ⟨rfl, hb⟩; obtain ⟨yy, rfl⟩ := bx_of hb; clear hb; have hgz2 : gr < yy.w.heap.size := yy.lt_size (by first | exact hgy | (simp; omega)); have r0 : yy.w.cell? ⟨gr, 0, none⟩ = some (.int .i64 (line : Int)) := (yy.cell gr 0 (by first | exact hgy | (simp; omega))).trans (by first | exact k0 | go_simp); have r1 : yy.w.cell? ⟨gr, 1, none⟩ = some (.int .i64 (lines : Int)) := (yy.cell gr 1 (by first | exact hgy | (simp; omega))).trans (by first | exact k1 | go_simp); have r2 : yy.w.cell? ⟨gr, 2, none⟩ = some (.int .u64 size) := (yy.cell gr 2 (by first | exact hgy | (simp; omega))).trans (by first | exact k2 | go_simp)))
        all_goals go_wp2
        all_goals go_meet
        all_goals first
          | exact recRelA (by (repeat (first | with_reducible exact Below.refl _ _ | with_reducible refine bl_alloc ?_ _ | with_reducible refine bl_drew ?_ | with_reducible refine bl_drewN ?_ _ | with_reducible refine bl_bx ?_ _ | with_reducible exact BX.below _ | with_reducible refine bl_set ?_ (by first | (exact Nat.le_refl _) | (simp; done) | (simp; omega)) _ | assumption)))
          | exact recRelB (by first | with_reducible exact (CB.new_at _ _ _ rfl).bx yy | with_reducible exact ((CB.new_at _ _ _ rfl).bx y).bx yy | exact (((CB.new_at _ _ _ rfl).drew).bx y).bx yy) (by (repeat (first | with_reducible exact Below.refl _ _ | with_reducible refine bl_alloc ?_ _ | with_reducible refine bl_drew ?_ | with_reducible refine bl_drewN ?_ _ | with_reducible refine bl_bx ?_ _ | with_reducible exact BX.below _ | with_reducible refine bl_set ?_ (by first | (exact Nat.le_refl _) | (simp; done) | (simp; omega)) _ | assumption))) (by first | exact Nat.le_refl _ | exact hys | (simp; omega))
      case rest =>
        obtain ⟨gd, rfl, rfl, hCd, hBd⟩ := hcut
        have d0 : wc.cell? ⟨gd, 0, none⟩ = some (.int .u8 1) := hCd.cell 0
        have d1 : wc.cell? ⟨gd, 1, none⟩ = some (.slice none 0 0) := hCd.cell 1
        have d2 : wc.cell? ⟨gd, 2, none⟩ = some (.slice none 0 0) := hCd.cell 2
        have hgd : gd < wc.heap.size := hCd.lt
        have HBd := Lib.hid hBd
        clear hCd hBd y0 y1 y2
        go_wp2_with (at_builtin; refine wpList_append_sl rfl (.tmp 26) (.tmp 28) 150 rfl 154 (.agg #[.int .u8 0, .slice none 0 0, .slice none 0 0]) 3 56 rfl (by omega) Tryz.underlying150 info_rec (by omega) A j c (recs j) ⟨wc.heap.size, 0, none⟩ 1 1 [.int .u8 1, .slice none 0 0, .slice none 0 0] rfl rfl (HS.out.keep (fun b hb => (bl_alloc HBd.out _).block b (HS.out.lt hb))) rfl (by omega) (cells_three wc 154 _ _ _) rec_one (by omega) ?_; intro A4 c4 w4 HO4 HC4 HW4 HG4)
        go_roundw
        case rel =>
          refine ⟨j + 1, A4, c4, by omega, by go_num, rfl, ?_, ?_, fun b hb => ?_⟩
          · rw [recs_succ]; exact HO4.out
          · exact bl_ch (HB.out.trans ((bl_alloc HBd.out _).mono HB.out.size)) HC4.out (fun b hb => HO.out b hb)
          · have h1 := HB.out.size
            have h2 := HBd.out.size
            rcases HW4.out b hb with h | h
            · exact HO.out b h
            · rw [h]; simp; omega
        case measure => simp [intOf]; omega
    · obtain rfl : j = m := by omega
      clear y0 y1 y2
      go_wp2
      refine bodyPost_ret (v := .tuple #[.slice A j c, .bool true]) (by simp [results, Tryz.results80, go_sem]) rfl ⟨A, c, rfl, HS.out, HBA.out, fun b hb => by have := HO.out b hb; have := HBW0.out.size; omega⟩
end Go.Proofs.YtjaohgnloddgfaaGreatDoor

namespace Go.Proofs.YtjaohgnloddgfaaGreatDoor
open Go.RowKit
set_option linter.unusedVariables false
set_option linter.unusedSimpArgs false

section
variable {K F : Nat → Prop} {d : Nat} {t : Nat → Nat} {w w' : World} {S : DevS} {n N : Nat} {xs : List Int}
/-- The bytes of words, in a block of the call's own. -/
def BytesP17 (w : World) (ws : List Int) (n : Nat) (e : Ending) (w' : World) : Prop := ∃ g, e = .returned (.slice (some ⟨g, 0, none⟩) n n) ∧ IB .u8 5 w' g (bytesL ws) ∧ w.heap.size ≤ g ∧ Below w.heap.size w w'
set_option maxHeartbeats 1000000 in
theorem devCur17 (w : World) {L : Lay} (h : Dev w d L S) (hf : Fits S.cur) (n m : Nat) (hn : S.cur.length = n) (hm : 8 * n = m) : Calls Tryz.prog 44 #[.pointer (some ⟨d, 0, none⟩)] w (BytesP17 w S.cur m) := by
  have h0 := h.ccell
  have hl := h.lt
  have hnl : n ≤ 32768 := by have := h.np; have := h.nc; have := h.nl; omega
  have hB := fun c => bytesOfD w (some ⟨L.cb, 0, none⟩) n c S.cur hn hnl hf h.cur.rdW
  rw [hn] at h0
  rw [hm] at hB
  have HB := Lib.hid hB
  clear h hf hB
  go_enter Tryz.func44, Tryz.ntmps44
  go_wp2_with (go_at_call 83; refine (HB.out _).mono ?_; rintro e w' ⟨g, rfl, hI, hg, hb⟩; have HI := Lib.hid hI; have HG := Lib.hid hg; have HBB := Lib.hid hb; clear hI hg hb)
  go_ret
  exact ⟨g, rfl, HI.out, HG.out, HBB.out⟩
theorem vCur17 (h : DV F d t w S) (hf : Fits S.cur) (n m : Nat) (hn : S.cur.length = n) (hm : 8 * n = m) : Calls Tryz.prog 44 #[.pointer (some ⟨d, 0, none⟩)] w (BytesP17 w S.cur m) := by
  obtain ⟨_, L, rfl, h3, _⟩ := h
  exact devCur17 w h3 hf n m hn hm
theorem vDevSize (h : DV F d t w S) : Calls Tryz.prog 78 #[.pointer (some ⟨d, 0, none⟩)] w fun e w' => e = .returned (.int .u64 ((S.lns.length : Int) * 64)) ∧ w = w' := by
  obtain ⟨_, L, rfl, h3, _⟩ := h
  exact devSize w d L S h3
/-- A new pool. -/
theorem PMx.new {p bb m line lines : Nat} {size : Int} (hD : DV F d t w S) (hB : Below w.heap.size w w')
    (hp : CB w' p 117 #[.pointer (some ⟨d, 0, none⟩), .int .i64 line, .int .i64 lines, .int .u64 size, .slice (some ⟨bb, 0, none⟩) m m, .pointer none])
    (hb : Sl 4 1 w' (some ⟨bb, 0, none⟩) m m (bools (List.replicate m false))) (hpw : w.heap.size ≤ p) (hbw : w.heap.size ≤ bb) (hne : p ≠ bb) (hK : ∀ b, K b → b < w.heap.size ∧ ¬ F b) :
    PMx K p d t line lines size w' { dev := S, busy := List.replicate m false, cur := none, ops := fun _ => none } := by
  have hs := hB.size
  classical
  refine ⟨fun b => if b = p ∨ b = bb then 2 else if F b then 1 else 0, bb, ⟨?_, ?_, ?_, by simp, by simp, hne, fun a o ho => by cases ho⟩, fun b hb' => ?_⟩
  · refine (hD.less hB (fun b => b = p ∨ b = bb) (fun b hx => ?_)).mono (fun b hf => ?_)
    · rcases hx with rfl | rfl
      · exact ⟨hpw, hp.lt⟩
      · exact ⟨hbw, hb.lt (by simp [OwnB])⟩
    · left
      show (if _ then _ else if _ then _ else _) = 1
      rw [if_neg hf.2, if_pos hf.1]
  · show CB w' p _ #[_, _, _, _, .slice _ (List.replicate m false).length (List.replicate m false).length, optP none]
    rw [List.length_replicate]; exact hp
  · show Sl _ _ _ _ (List.replicate m false).length (List.replicate m false).length _
    rw [List.length_replicate]; exact hb
  · obtain ⟨h1, h2⟩ := hK b hb'
    refine ⟨?_, by omega⟩
    show (if _ then _ else if _ then _ else _) = 0
    rw [if_neg (by omega), if_neg h2]
def OpnPost (w : World) (d line lines m : Nat) (size : Int) (e : Ending) (w' : World) : Prop :=
  ∃ p bb, e = .returned (.tuple #[.pointer (some ⟨p, 0, none⟩), .int .i64 0]) ∧ CB w' p 117 #[.pointer (some ⟨d, 0, none⟩), .int .i64 line, .int .i64 lines, .int .u64 size, .slice (some ⟨bb, 0, none⟩) m m, .pointer none] ∧
    Sl 4 1 w' (some ⟨bb, 0, none⟩) m m (bools (List.replicate m false)) ∧ w.heap.size ≤ p ∧ w.heap.size ≤ bb ∧ p ≠ bb ∧ Below w.heap.size w w'
theorem info_bool : (Tryz.prog.info? 4).map (fun i => (i.zero, i.size, i.bytes)) = some (some (.bool false), 1, 1) := by kernel_rfl
theorem slBools {w : World} {g : Nat} {bs : List Bool} {m : Nat} (h : CB w g 4 (bools bs).toArray) (hl : bs.length = m) (hm : m ≤ 1000) : Sl 4 1 w (some ⟨g, 0, none⟩) m m (bools bs) := by
  subst hl
  refine ⟨by simp [bools], .inr ⟨g, 0, _, rfl, h, Nat.le_refl _, by show bs.length ≤ 9223372036854775807; omega, by simp [bools], ?_⟩⟩
  simp only [List.drop_zero, Nat.mul_one]
  rw [List.take_of_length_le (by simp [bools])]
set_option maxRecDepth 100000 in
theorem run_make_bools (W : World) (m : Nat) (hm : m ≤ 1000) : (Instr.makeSlice 115 (.int .i64 (m : Int)) (.int .i64 (m : Int))).run Tryz.prog W = .ok (.slice (some ⟨W.heap.size, 0, none⟩) m m) (W.alloc (.cells (bools (List.replicate m false)).toArray 4)) := by
  cases hi : Tryz.prog.info? 4 with
  | none => have := info_bool; rw [hi] at this; cases this
  | some i =>
    have hinfo := info_bool
    rw [hi] at hinfo
    simp only [Option.map_some, Option.some.injEq, Prod.mk.injEq] at hinfo
    obtain ⟨hz, hs, hb⟩ := hinfo
    have hr := run_make (P := Tryz.prog) W 115 4 i (.bool false) Tryz.underlying115 hi hz .i64 .i64 m m (by omega) (by omega) (by rw [hb]; omega) (by omega)
    rw [hr, hs]
    simp only [Int.toNat_natCast, Nat.mul_one]
    congr 3
    congr 1
    simp only [madeCells, Value.cells, bools, List.map_replicate]
    apply Array.ext
    · simp
    · intro i h1 h2
      simp [Nat.mod_one]
set_option maxRecDepth 100000 in
set_option maxHeartbeats 4000000 in
theorem pwOpen (h : DV F d t w S) (hx : S.cur = xs) (hnl : S.lns.length = n) (hlx : xs.length = 8 * n) (hf : Fits xs) (line lines m : Nat) (hm : lines / 4 = m) (h4 : 4 ≤ lines) (hl : line + lines ≤ n) (hn : n ≤ 999) (hu : ∀ k, k < m → xs[8 * (line + 4 * k)]? = some 1836515329) :
    Calls Tryz.prog 40 #[.pointer (some ⟨d, 0, none⟩), .int .i64 (line : Int), .int .i64 (lines : Int)] w (OpnPost w d line lines m ((n : Int) * 64)) := by
  have HSZ : Hid (∀ W, Below w.heap.size w W → Calls Tryz.prog 78 #[.pointer (some ⟨d, 0, none⟩)] W fun e w' => e = .returned (.int .u64 ((n : Int) * 64)) ∧ W = w') := fun W hW => by
    have := vDevSize (h.below hW)
    rwa [hnl] at this
  have HCU : Hid (∀ W, Below w.heap.size w W → Calls Tryz.prog 44 #[.pointer (some ⟨d, 0, none⟩)] W (BytesP17 W xs (64 * n))) := fun W hW => by
    have := vCur17 (h.below hW) (by rw [hx]; exact hf) (8 * n) (64 * n) (by rw [hx]; exact hlx) (by omega)
    rwa [hx] at this
  have hrb : rgB (line : Int) (lines : Int) (n : Int) = true := by unfold rgB; simp; omega
  have HVA : Hid (∀ W, Calls Tryz.prog 73 #[.agg #[.int .i64 (line : Int), .int .i64 (lines : Int), .int .u64 ((n : Int) * 64)]] W fun e w' => e = .returned (.bool true) ∧ Below W.heap.size W w') := fun W => by
    have := rgValid W line lines n (by omega) (by omega) (by omega)
    rwa [hrb] at this
  have HCO : Hid (∀ W, Calls Tryz.prog 74 #[.agg #[.int .i64 (line : Int), .int .i64 (lines : Int), .int .u64 ((n : Int) * 64)]] W fun e w' => e = .returned (.int .i64 (m : Int)) ∧ Below W.heap.size W w') := fun W => by
    have := rgCount W line lines ((n : Int) * 64) (by omega)
    rwa [hm] at this
  have HALL : Hid (∀ (W : World) (gc gb : Nat), W.cell? ⟨gc, 0, none⟩ = some (.slice (some ⟨gb, 0, none⟩) (64 * n) (64 * n)) → IB .u8 5 W gb (bytesL xs) → Calls Tryz.prog 80 #[.agg #[.int .i64 (line : Int), .int .i64 (lines : Int), .int .u64 ((n : Int) * 64)], .func (.func 79) #[] #[.pointer (some ⟨gc, 0, none⟩)]] W fun e w' => ∃ A c, e = .returned (.tuple #[.slice A m c, .bool true]) ∧ Sl 154 3 w' A m c (recs m) ∧ Below W.heap.size W w' ∧ ∀ b, OwnB A b → W.heap.size ≤ b) := fun W gc gb hc hI =>
    rgAll_u W line lines m ((n : Int) * 64) hm (by omega) gc (fun W2 hW2 k hk => by
      have hgl : gc < W.heap.size := World.block_lt_of_cell? W _ hc
      exact pwOpenLoad W2 gc gb (64 * n) (64 * n) xs hf ((hW2.cell (p := ⟨gc, 0, none⟩) hgl).trans hc) (hI.below hW2 hI.lt) (by omega) (by omega) (8 * (line + 4 * k)) (by omega) _ (hu k hk))
  have hm2 : m ≤ 1000 := by omega
  clear h hx hnl hlx hf hu hrb hm
  have hmk := fun (W : World) => run_make_bools W m hm2
  go_enter Tryz.func40, Tryz.ntmps40
  go_wp2_with (first
    | (go_at_call 78; refine (HSZ.out _ (by (repeat (first | with_reducible exact Below.refl _ _ | with_reducible refine bl_alloc ?_ _ | with_reducible refine bl_drew ?_ | with_reducible refine bl_drewN ?_ _ | with_reducible refine bl_bx ?_ _ | with_reducible exact BX.below _ | with_reducible refine bl_set ?_ (by first | (exact Nat.le_refl _) | (simp; done) | (simp; omega)) _ | assumption)))).mono ?_; rintro e w' ⟨rfl, rfl⟩)
    | (go_at_call 73; refine (HVA.out _).mono ?_; rintro e w' ⟨rfl, hb⟩; obtain ⟨x, rfl⟩ := bx_of hb; clear hb; have hgx : w.heap.size < x.w.heap.size := x.lt_size (by simp); have x0 : x.w.cell? ⟨w.heap.size, 0, none⟩ = some (.int .i64 (line : Int)) := (by go_simp); have x1 : x.w.cell? ⟨w.heap.size, 1, none⟩ = some (.int .i64 (lines : Int)) := (by go_simp); have x2 : x.w.cell? ⟨w.heap.size, 2, none⟩ = some (.int .u64 ((n : Int) * 64)) := (by go_simp))
    | (go_at_call 44; refine (HCU.out _ (by (repeat (first | with_reducible exact Below.refl _ _ | with_reducible refine bl_alloc ?_ _ | with_reducible refine bl_drew ?_ | with_reducible refine bl_drewN ?_ _ | with_reducible refine bl_bx ?_ _ | with_reducible exact BX.below _ | with_reducible refine bl_set ?_ (by first | (exact Nat.le_refl _) | (simp; done) | (simp; omega)) _ | assumption)))).mono ?_; rintro e w' ⟨gb, rfl, hI, hg, hb⟩; have HI := Lib.hid hI; have HG := Lib.hid hg; have hgl := hI.lt; obtain ⟨y, rfl⟩ := bx_of hb; clear hb hI hg; have hgy : w.heap.size < y.w.heap.size := y.lt_size hgx; have y0 : y.w.cell? ⟨w.heap.size, 0, none⟩ = some (.int .i64 (line : Int)) := (y.cell _ _ hgx).trans x0; have y1 : y.w.cell? ⟨w.heap.size, 1, none⟩ = some (.int .i64 (lines : Int)) := (y.cell _ _ hgx).trans x1; have y2 : y.w.cell? ⟨w.heap.size, 2, none⟩ = some (.int .u64 ((n : Int) * 64)) := (y.cell _ _ hgx).trans x2)
    | (go_at_call 80; refine (HALL.out _ y.w.heap.size gb (by go_simp) (HI.out.alloc _)).mono ?_; rintro e w' ⟨A, c, rfl, hS, hb, hO⟩; obtain ⟨z, rfl⟩ := bx_of hb; clear hb hS hO; have hgz : w.heap.size < z.w.heap.size := z.lt_size (by simp; omega); have z0 : z.w.cell? ⟨w.heap.size, 0, none⟩ = some (.int .i64 (line : Int)) := (by go_simp); have z1 : z.w.cell? ⟨w.heap.size, 1, none⟩ = some (.int .i64 (lines : Int)) := (by go_simp); have z2 : z.w.cell? ⟨w.heap.size, 2, none⟩ = some (.int .u64 ((n : Int) * 64)) := (by go_simp)))
  go_region_with (go_at_call 74; refine (HCO.out _).mono ?_; rintro e w' ⟨rfl, hb⟩; obtain ⟨u, rfl⟩ := bx_of hb; clear hb; have hgu : w.heap.size < u.w.heap.size := u.lt_size (by first | exact hgz | (simp; omega)); have u0 : u.w.cell? ⟨w.heap.size, 0, none⟩ = some (.int .i64 (line : Int)) := (u.cell _ _ (by first | exact hgz | (simp; omega))).trans (by first | exact z0 | go_simp); have u1 : u.w.cell? ⟨w.heap.size, 1, none⟩ = some (.int .i64 (lines : Int)) := (u.cell _ _ (by first | exact hgz | (simp; omega))).trans (by first | exact z1 | go_simp); have u2 : u.w.cell? ⟨w.heap.size, 2, none⟩ = some (.int .u64 ((n : Int) * 64)) := (u.cell _ _ (by first | exact hgz | (simp; omega))).trans (by first | exact z2 | go_simp))
  all_goals go_wp2
  all_goals refine bodyPost_ret (v := .tuple #[.pointer (some ⟨u.w.heap.size + 1, 0, none⟩), .int .i64 0]) (by simp [results, Tryz.results40, go_sem]) rfl ?_
  all_goals refine ⟨u.w.heap.size + 1, u.w.heap.size, rfl, ?_, ?_, ?_, ?_, by omega, (by repeat (first | with_reducible exact Below.refl _ _ | with_reducible refine bl_alloc ?_ _ | with_reducible refine bl_drew ?_ | with_reducible refine bl_drewN ?_ _ | with_reducible refine bl_bx ?_ _ | with_reducible exact BX.below _ | with_reducible refine bl_set ?_ (by first | (exact Nat.le_refl _) | (simp; done) | (simp; omega)) _ | assumption))⟩
  all_goals first
    | exact CB.new_at _ _ _ (by simp)
    | exact slBools (CB.alloc (CB.new_at _ _ _ rfl) _) (by simp) hm2
    | omega
end
end Go.Proofs.YtjaohgnloddgfaaGreatDoor
