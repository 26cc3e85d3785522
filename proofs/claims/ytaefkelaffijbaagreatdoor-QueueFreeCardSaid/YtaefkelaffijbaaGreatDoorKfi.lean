/- Format and Open of a pool, Format of a queue (merged). -/
import Derived.Test.YtaefkelaffijbaaGreatDoorKfd
import Derived.Test.YtaefkelaffijbaaGreatDoorKfb
import Derived.Test.YtaefkelaffijbaaGreatDoorKff
import Derived.Test.YtaefkelaffijbaaGreatDoorKfa
import Derived.Deep.CutRange
import Derived.Deep.RegionHeld3
import Derived.Test.YtaefkelaffijbaaGreatDoorKfs
namespace Go.Proofs.YtaefkelaffijbaaGreatDoor
open Go.RowKit
set_option linter.unusedVariables false
set_option linter.unusedSimpArgs false
section
variable {F : Nat → Prop} {d : Nat} {t : Nat → Nat} {w w0 : World} {S : DevS} {n N : Nat} {xs : List Int}
theorem runC (h : DV F d t w0 S) (hcl : Clean S n xs N) (hb : Below w0.heap.size w0 w) (A : Option Addr) (m cp : Nat) (ws : List (Int × Int)) (hm : (storesP ws).length = m) (hS : Sl 144 3 w A m cp (pcells (storesP ws))) (hA : ∀ b, OwnB A b → w0.heap.size ≤ b) (i : Nat) (hi : i < 8)
 (hv : ∀ p ∈ ws, ∃ k : Nat, p.1 = 8 * (k : Int) ∧ k < 8 * n) (hn : n ≤ 4096) (hN : N + m < 1000000) :
 Calls Tryz.prog 55 #[.slice A m cp, .iface 84 (.pointer (some ⟨t i, 0, none⟩))] w fun r w' => r = .returned (.int .i64 0) ∧ (∃ S', DV F d t w' S' ∧ Clean S' n (applyW xs ws) (N + m)) ∧ Ch F w0 w' := by
 subst hm
 have h2 := h.less hb (fun b => OwnB A b) (fun b hb' => ⟨hA b hb', hS.lt hb'⟩)
 have hc2 := hcl.stores hi ws hv hN
 refine (memRun w h2 i hi hcl.good A _ cp (storesP ws) rfl hS (fun b hb hf => hf.2 hb) hN (fun p hp => ?_)).mono ?_
 · unfold storesP at hp
   simp only [List.mem_append, List.mem_singleton] at hp
   rcases hp with (hp | hp) | hp
   · obtain ⟨p', hp', rfl⟩ := List.mem_map.1 hp
     obtain ⟨k, hk1, hk2⟩ := hv p' hp'
     exact ⟨rfl, by show 0 ≤ p'.1; omega, by show p'.1 < _; omega⟩
   · obtain ⟨l, hl, rfl⟩ := List.mem_map.1 hp
     rw [mem_cpt'] at hl
     obtain ⟨p', hp', rfl⟩ := List.mem_map.1 hl
     obtain ⟨k, hk1, hk2⟩ := hv p' hp'
     exact ⟨rfl, by show 0 ≤ startOf p'.1; unfold startOf; omega, by show startOf p'.1 < _; unfold startOf; omega⟩
   · subst hp
     exact ⟨rfl, Int.le_refl _, by show (0 : Int) < _; omega⟩
 · rintro r w' ⟨rfl, hD, hC⟩
   refine ⟨by rw [hc2.err i], ⟨_, hD.mono (fun b hb => hb.1), hc2⟩, ?_⟩
   exact (Ch.of_below hb).trans hC (fun b hb _ => hb.1)
/-- The writes of Format. -/
def fmt17 (line cnt : Nat) : List (Int × Int) := (List.range cnt).map fun k => (atW line k, 1836515329)
theorem length_fmt17 (line cnt : Nat) : (fmt17 line cnt).length = cnt := by simp [fmt17]
theorem fmt17_take (line cnt k : Nat) (hk : k < cnt) : (fmt17 line cnt).take (k + 1) = (fmt17 line cnt).take k ++ [(atW line k, 1836515329)] := by
 rw [List.take_succ_eq_append_getElem (by rw [length_fmt17]; exact hk)]
 congr 2
 simp [fmt17]
theorem fmt17_mem {line cnt : Nat} {p : Int × Int} (h : p ∈ fmt17 line cnt) : ∃ k, k < cnt ∧ p.1 = atW line k := by
 obtain ⟨k, hk, rfl⟩ := List.mem_map.1 h
 exact ⟨k, by simpa using hk, rfl⟩
theorem starts_fmt17 (line cnt : Nat) : (starts (fmt17 line cnt)).Pairwise (· ≤ ·) := by
 rw [List.pairwise_iff_getElem]
 intro i j hi hj hij
 simp only [starts, fmt17, List.getElem_map, List.getElem_range]
 unfold startOf atW
 omega
/-- Format's loop. -/
def Fm17 (w : World) (line cnt k : Nat) (A : Option Addr) (cp : Nat) (wr : World) : Prop :=
 Sl 122 2 wr A k cp (wcells ((fmt17 line cnt).take k)) ∧ Below w.heap.size w wr ∧ ∀ b, OwnB A b → w.heap.size ≤ b
set_option maxRecDepth 100000 in
set_option maxHeartbeats 4000000 in
theorem pwFormat (h : DV F d t w S) (hcl : Clean S n xs N) (line lines : Nat) (h4 : 4 ≤ lines) (hl : line + lines ≤ n) (hn : n ≤ 48) (i : Nat) (hi : i < 8) (hN : N + 100 < 1000000) :
 Calls Tryz.prog 34 #[.iface 84 (.pointer (some ⟨t i, 0, none⟩)), .int .i64 (line : Int), .int .i64 (lines : Int)] w fun r w' => r = .returned (.int .i64 0) ∧ (∃ S', DV F d t w' S' ∧ Clean S' n (applyW xs (fmt17 line (lines / 4))) (N + 100)) ∧ Ch F w w' := by
 have H := Lib.hid h
 have HCL := Lib.hid hcl
 have HSZ : Hid (∀ W, Below w.heap.size w W → Calls Tryz.prog 182 #[.pointer (some ⟨t i, 0, none⟩)] W fun e w' => e = .returned (.int .u64 ((n : Int) * 64)) ∧ W = w') := fun W hW => by
  have := vSize (h.below hW) i hi
  rwa [hcl.nl] at this
 have HER : Hid (∀ W, Below w.heap.size w W → Calls Tryz.prog 62 #[.pointer (some ⟨t i, 0, none⟩)] W fun e w' => e = .returned (.int .i64 0) ∧ W = w') := fun W hW => by
  have := vErr (h.below hW) i hi
  rwa [hcl.err i] at this
 have hrb : rgB (line : Int) (lines : Int) (n : Int) = true := by unfold rgB; simp; omega
 have HVA : Hid (∀ W, Calls Tryz.prog 51 #[.agg #[.int .i64 (line : Int), .int .i64 (lines : Int), .int .u64 ((n : Int) * 64)]] W fun e w' => e = .returned (.bool true) ∧ Below W.heap.size W w') := fun W => by
  have := rgValid W line lines n (by omega) (by omega) (by omega)
  rwa [hrb] at this
 obtain ⟨m, hm⟩ : ∃ m, lines / 4 = m := ⟨_, rfl⟩
 have HCO : Hid (∀ W, Calls Tryz.prog 52 #[.agg #[.int .i64 (line : Int), .int .i64 (lines : Int), .int .u64 ((n : Int) * 64)]] W fun e w' => e = .returned (.int .i64 (m : Int)) ∧ Below W.heap.size W w') := fun W => by
  have := rgCount W line lines ((n : Int) * 64) (by omega)
  rwa [hm] at this
 have HAT : Hid (∀ W k, k < m → Calls Tryz.prog 53 #[.agg #[.int .i64 (line : Int), .int .i64 (lines : Int), .int .u64 ((n : Int) * 64)], .int .i64 (k : Int)] W fun e w' => e = .returned (.int .u64 (atW line k)) ∧ Below W.heap.size W w') := fun W k hk => rgAt W line lines ((n : Int) * 64) k (by omega)
 have hm1 : 1 ≤ m ∧ m ≤ 12 ∧ line + 4 * m ≤ n := by omega
 obtain ⟨m1, m2, m3⟩ := hm1
 rw [hm]
 clear h hcl hrb hm
 go_enter Tryz.func34, Tryz.ntmps34
 go_wp2_with (first | (go_at_call 182; refine (HSZ.out _ (by (repeat (first | with_reducible (first | exact Below.refl _ _ | refine bl_alloc ?_ _ | refine bl_drew ?_ | refine bl_drewN ?_ _ | refine bl_bx ?_ _ | exact BX.below _ | refine bl_set ?_ (by first | (exact Nat.le_refl _) | (simp; done) | (simp; omega)) _) | assumption)))).mono ?_; rintro e w' ⟨rfl, rfl⟩) | (go_at_call 51; refine (HVA.out _).mono ?_; rintro e w' ⟨rfl, hb⟩; obtain ⟨x, rfl⟩ := bx_of hb; clear hb) | (go_at_call 62; refine (HER.out _ (by (repeat (first | with_reducible (first | exact Below.refl _ _ | refine bl_alloc ?_ _ | refine bl_drew ?_ | refine bl_drewN ?_ _ | refine bl_bx ?_ _ | exact BX.below _ | refine bl_set ?_ (by first | (exact Nat.le_refl _) | (simp; done) | (simp; omega)) _) | assumption)))).mono ?_; rintro e w' ⟨rfl, rfl⟩) | (go_at_call 52; refine (HCO.out _).mono ?_; rintro e w' ⟨rfl, hb⟩; obtain ⟨z, rfl⟩ := bx_of hb; clear hb))
 have HI0 : Hid (Fm17 w line m 0 none 0 z.w) := ⟨Sl.nil, by (repeat (first | with_reducible (first | exact Below.refl _ _ | refine bl_alloc ?_ _ | refine bl_drew ?_ | refine bl_drewN ?_ _ | refine bl_bx ?_ _ | exact BX.below _ | refine bl_set ?_ (by first | (exact Nat.le_refl _) | (simp; done) | (simp; omega)) _) | assumption)), by simp [OwnB]⟩
 have hgx : w.heap.size < x.w.heap.size := x.lt_size (by simp)
 have hgz : w.heap.size < z.w.heap.size := z.lt_size hgx
 have z0 : z.w.cell? ⟨w.heap.size, 0, none⟩ = some (.int .i64 (line : Int)) := by go_simp
 have z1 : z.w.cell? ⟨w.heap.size, 1, none⟩ = some (.int .i64 (lines : Int)) := by go_simp
 have z2 : z.w.cell? ⟨w.heap.size, 2, none⟩ = some (.int .u64 ((n : Int) * 64)) := by go_simp
 obtain ⟨W0, hW0⟩ : ∃ W0, z.w = W0 := ⟨_, rfl⟩
 obtain ⟨gr, hgr⟩ : ∃ gr, w.heap.size = gr := ⟨_, rfl⟩
 have HGR := Lib.hid hgr
 have HBW0 : Hid (Below w.heap.size w W0) := by rw [← hW0]; show Below _ _ _; (repeat (first | with_reducible (first | exact Below.refl _ _ | refine bl_alloc ?_ _ | refine bl_drew ?_ | refine bl_drewN ?_ _ | refine bl_bx ?_ _ | exact BX.below _ | refine bl_set ?_ (by first | (exact Nat.le_refl _) | (simp; done) | (simp; omega)) _) | assumption))
 rw [hW0] at HI0 hgz z0 z1 z2
 rw [hgr] at hgz z0 z1 z2
 rw [hW0, hgr]
 have HI1 : Hid (Fm17 W0 line m 0 none 0 W0) := ⟨Sl.nil, Below.refl _ _, by simp [OwnB]⟩
 clear hW0 hgr HI0 hgx
 go_loopw [28, 9, 10, 29, 30, 31, 32, 33, 34, 35, 36, 37, 38] (fun i' rc _ _ _ _ _ _ _ _ _ _ _ wr => ∃ (j : Nat) (A : Option Addr) (c : Nat), j ≤ m ∧ i' = .int .i64 j ∧ rc = .slice A j c ∧ Fm17 W0 line m j A c wr) (fun i' _ _ _ _ _ _ _ _ _ _ _ _ _ => m - (intOf i').toNat)
 case atStart => exact ⟨0, none, 0, by omega, rfl, rfl, HI1.out⟩
 case round =>
  clear HI1
  obtain ⟨j, A, c, hj, rfl, rfl, hS, hB, hO⟩ := hrel
  have HS := Lib.hid hS
  have HB := Lib.hid hB
  have HO := Lib.hid hO
  have y0 := (hB.cell (p := ⟨gr, 0, none⟩) hgz).trans z0
  have y1 := (hB.cell (p := ⟨gr, 1, none⟩) hgz).trans z1
  have y2 := (hB.cell (p := ⟨gr, 2, none⟩) hgz).trans z2
  have hgw : gr < wr.heap.size := Nat.lt_of_lt_of_le hgz hB.size
  clear hS hB hO
  by_cases hlt : j < m
  · have hlt' : (j : Int) < (m : Int) := by omega
    obtain ⟨q, hq⟩ : ∃ q, atW line j = q := ⟨_, rfl⟩
    have HATJ := Lib.hid (fun W => HAT.out W j hlt)
    have HFT := Lib.hid (fmt17_take line m j hlt)
    rw [hq] at HATJ HFT
    clear hq
    go_wp2_with (first | (go_at_call 53; refine (HATJ.out _).mono ?_; rintro e w' ⟨rfl, hb⟩; obtain ⟨y, rfl⟩ := bx_of hb; clear hb) | (at_builtin; refine wpList_append_sl rfl (.tmp 31) (.tmp 36) 119 rfl 122 (.agg #[.int .u64 0, .int .u64 0]) 2 16 rfl (by omega) Tryz.underlying119 info_write (by omega) A j c (wcells ((fmt17 line m).take j)) ⟨y.w.heap.size, 0, none⟩ 1 1 [.int .u64 q, .int .u64 1836515329] rfl rfl (HS.out.keep (fun b hb => (bl_alloc y.below _).block b (HS.out.lt hb))) rfl (by omega) (cells_two y.w 122 _ _) (u64_two _ _) (by omega) ?_; intro A4 c4 w4 HO4 HC4 HW4 HG4))
    go_roundw
    case rel =>
     refine ⟨j + 1, A4, c4, by omega, by go_num, rfl, ?_, ?_, fun b hb => ?_⟩
     · rw [HFT.out, wcells_snoc]; exact HO4.out
     · exact bl_ch (HB.out.trans ((bl_alloc y.below _).mono HB.out.size)) HC4.out (fun b hb => HO.out b hb)
     · have h1 := HB.out.size
       have h2 := y.size
       rcases HW4.out b hb with h | h
       · exact HO.out b h
       · rw [h]; simp; omega
    case measure => simp [intOf]; omega
  · obtain rfl : j = m := by omega
    have hft : (fmt17 line j).take j = fmt17 line j := List.take_of_length_le (by rw [length_fmt17]; omega)
    have hS := HS.out
    rw [hft] at hS
    have HS2 := Lib.hid hS
    have HBW : Hid (Below w.heap.size w wr) := HBW0.out.trans (HB.out.mono HBW0.out.size)
    have HST : Hid (Calls Tryz.prog 54 #[.slice A j c] wr (StoPost wr (storesP (fmt17 line j)))) := by
     refine memStores wr A j c (fmt17 line j) (length_fmt17 _ _) m1 m2 HS2.out (fun p hp => ?_) (starts_fmt17 _ _)
     obtain ⟨k, hk, hp1⟩ := fmt17_mem hp
     rw [hp1]; unfold atW; omega
    have hln : (storesP (fmt17 line j)).length ≤ 100 := by
     have h1 := length_storesP (ws := fmt17 line j)
     have h2 := cpt_le (starts (fmt17 line j))
     have h3 : (starts (fmt17 line j)).length = j := by simp [starts, length_fmt17]
     rw [length_fmt17] at h1
     omega
    clear hft hS
    go_wp2_with (first | (go_at_call 54; refine HST.out.mono ?_; rintro r w2 ⟨A2, cp2, rfl, hS2, hB2, hO2⟩; have HS3 := Lib.hid hS2; have HB2 : Hid (Below w.heap.size w w2) := HBW.out.trans (hB2.mono HBW.out.size); have HO2 : Hid (∀ b, OwnB A2 b → w.heap.size ≤ b) := (fun b hb => by have h1 := hO2 b hb; have h3 := HBW.out.size; omega); clear hS2 hB2 hO2) | (go_at_call 55; refine (runC H.out HCL.out HB2.out A2 _ cp2 (fmt17 line j) rfl HS3.out HO2.out i hi (fun p hp => by obtain ⟨k, hk, hp1⟩ := fmt17_mem hp; exact ⟨8 * (line + 4 * k), by rw [hp1]; rfl, by omega⟩) (by omega) (by omega)).mono ?_; rintro r w3 ⟨rfl, ⟨S3, hD3, hC3⟩, hCh3⟩; have HD3 := Lib.hid hD3; have HC3 := Lib.hid hC3; have HCh3 := Lib.hid hCh3; clear hD3 hC3 hCh3))
    go_ret
    exact ⟨rfl, ⟨S3, HD3.out, ⟨HC3.out.good.mono (by omega), HC3.out.nl, HC3.out.cur, HC3.out.pers, HC3.out.off, HC3.out.armed, HC3.out.hist, HC3.out.err, HC3.out.notes⟩⟩, HCh3.out⟩
end
set_option maxRecDepth 100000 in
set_option maxHeartbeats 2000000 in
theorem pwOpenLoad (w : World) (gc gb cl m : Nat) (ws : List Int) (hf : Fits ws) (hc : w.cell? ⟨gc, 0, none⟩ = some (.slice (some ⟨gb, 0, none⟩) m cl)) (hI : IB .u8 5 w gb (bytesL ws)) (hm : 8 * ws.length = m) (hm2 : m ≤ 1000000) (k : Nat) (hk : k < ws.length) (v : Int) (hv : ws[k]? = some v) :
 Calls Tryz.prog 79 #[.int .u64 (8 * (k : Int)), .pointer (some ⟨gc, 0, none⟩)] w fun e w' => e = .returned (.int .u64 v) ∧ w = w' := by
 have HI := Lib.hid hI
 have HM := Lib.hid hm
 have hgl : gb < w.heap.size := hI.lt
 have hcl : gc < w.heap.size := World.block_lt_of_cell? w _ hc
 obtain ⟨hkl, hkv⟩ := List.getElem?_eq_some_iff.1 hv
 have hvr := hf _ (List.getElem_mem hkl)
 rw [hkv] at hvr
 have HV := Lib.hid hv
 have HVR := Lib.hid hvr
 have hk8 : 8 * k + 8 ≤ 1000000 := by omega
 clear hI hm hf hv hkv
 go_enter Tryz.func79, Tryz.ntmps79
 go_wp2
 go_loopw [6, 4, 5, 7, 8, 9, 10, 11, 12, 13, 14, 15, 16, 17, 18, 19, 20, 21] (fun i a _ _ _ _ _ _ _ _ _ _ _ _ _ _ _ _ wr => ∃ s : Nat, s ≤ 8 ∧ i = .int .u64 s ∧ a = .int .u64 (v % 2 ^ (s * 8)) ∧ w = wr) (fun i _ _ _ _ _ _ _ _ _ _ _ _ _ _ _ _ _ _ => 8 - (intOf i).toNat)
 case atStart => exact ⟨0, by omega, rfl, by simp, rfl⟩
 case round =>
  obtain ⟨s, hs, rfl, rfl, rfl⟩ := hrel
  by_cases hlt : s < 8
  · have hlt' : (s : Int) < 8 := by omega
    have hj : 8 * k + s < (bytesL ws).length := by rw [length_bytesL]; omega
    have hby := HI.out.cell hj
    have hq : byteAt ws (8 * k + s) = v / 2 ^ (s * 8) % 256 := by
     unfold byteAt
     rw [show (8 * k + s) / 8 = k by omega, HV.out, show (8 * k + s) % 8 = s by omega]
     rfl
    rw [bytesL_get, hq] at hby
    have hor := or_byte v HVR.out s hlt
    obtain ⟨bt, hbt⟩ : ∃ bt, v / 2 ^ (s * 8) % 256 = bt := ⟨_, rfl⟩
    have hbr : 0 ≤ bt ∧ bt < 256 := by omega
    obtain ⟨ac, hac⟩ : ∃ ac, v % 2 ^ (s * 8) = ac := ⟨_, rfl⟩
    obtain ⟨nx, hnx⟩ : ∃ nx, v % 2 ^ ((s + 1) * 8) = nx := ⟨_, rfl⟩
    have HNX := Lib.hid hnx
    rw [hbt] at hby hor
    rw [hac, hnx] at hor
    rw [hac]
    have e1 : IntKind.u64.wrap (8 * (k : Int) + (s : Int)) = 8 * (k : Int) + (s : Int) := IntWalk.u64_in _ (by omega)
    have e2 : IntKind.u64.wrap (8 * (s : Int)) = 8 * (s : Int) := IntWalk.u64_in _ (by omega)
    have e3 : IntKind.u64.wrap bt = bt := IntWalk.u64_in _ (by omega)
    have e4 : (8 * (k : Int) + (s : Int)).toNat = 8 * k + s := by omega
    have e5 : (8 * (s : Int)).toNat = s * 8 := by omega
    have e6 : IntKind.u64.wrap ((s : Int) + 1) = (s : Int) + 1 := IntWalk.u64_in _ (by omega)
    have e7 : 8 * (k : Int) + (s : Int) < (m : Int) := by have := HM.out; omega
    have e8 : ¬ 64 ≤ s * 8 := by omega
    clear hbt hac hnx hq hj
    go_wp2
    exact ⟨⟨s + 1, by omega, by go_num, by rw [HNX.out], trivial⟩, by simp [intOf]; omega⟩
  · obtain rfl : s = 8 := by omega
    have hv8 : v % 2 ^ (8 * 8) = v := by have := HVR.out; omega
    rw [hv8]
    clear hv8
    go_wp2
    go_ret
    exact ⟨rfl, rfl⟩
set_option maxRecDepth 100000 in
set_option maxHeartbeats 2000000 in
theorem rgRead_u (w : World) (line lines size : Int) (gc : Nat) (off : Int) (HL : ∀ W, Below w.heap.size w W → Calls Tryz.prog 79 #[.int .u64 off, .pointer (some ⟨gc, 0, none⟩)] W fun e w' => e = .returned (.int .u64 1836515329) ∧ W = w') :
 Calls Tryz.prog 104 #[.agg #[.int .i64 line, .int .i64 lines, .int .u64 size], .func (.func 79) #[] #[.pointer (some ⟨gc, 0, none⟩)], .int .u64 off] w fun e w' => e = .returned (.tuple #[.agg #[.int .u8 1, .slice none 0 0, .slice none 0 0], .bool true]) ∧ Below w.heap.size w w' := by
 have HL := Lib.hid HL
 go_enter Tryz.func104, Tryz.ntmps104
 go_wp2_with (go_at_call 79; refine (HL.out _ (by (repeat (first | with_reducible (first | exact Below.refl _ _ | refine bl_alloc ?_ _ | refine bl_drew ?_ | refine bl_drewN ?_ _ | refine bl_bx ?_ _ | exact BX.below _ | refine bl_set ?_ (by first | (exact Nat.le_refl _) | (simp; done) | (simp; omega)) _) | assumption)))).mono ?_; rintro e w' ⟨rfl, rfl⟩)
 exact bodyPost_ret (v := .tuple #[.agg #[.int .u8 1, .slice none 0 0, .slice none 0 0], .bool true]) (by simp [results, Tryz.results104, go_sem]) rfl ⟨rfl, (by (repeat (first | with_reducible (first | exact Below.refl _ _ | refine bl_alloc ?_ _ | refine bl_drew ?_ | refine bl_drewN ?_ _ | refine bl_bx ?_ _ | exact BX.below _ | refine bl_set ?_ (by first | (exact Nat.le_refl _) | (simp; done) | (simp; omega)) _) | assumption)))⟩
def RecRel (wr : World) (s8 s9 : Value) (wx : World) : Prop := ∃ gd, s8 = .pointer (some ⟨gd, 0, none⟩) ∧ s9 = .bool true ∧ CB wx gd 156 #[.int .u8 1, .slice none 0 0, .slice none 0 0] ∧ Below wr.heap.size wr wx
theorem recRelA {wr X : World} (h : Below wr.heap.size wr X) : RecRel wr (.pointer (some ⟨X.heap.size, 0, none⟩)) (.bool true) (X.alloc (.cells #[.int .u8 1, .slice none 0 0, .slice none 0 0] 156)) := ⟨_, rfl, rfl, CB.new _ _ _, bl_alloc h _⟩
theorem recRelB {wr X : World} {g : Nat} {a b c : Value} (hc : CB X g 156 #[a, b, c]) (h : Below wr.heap.size wr X) (hg : wr.heap.size ≤ g) : RecRel wr (.pointer (some ⟨g, 0, none⟩)) (.bool true) (((X.setCell ⟨g, 0, none⟩ (.int .u8 1)).setCell ⟨g, 1, none⟩ (.slice none 0 0)).setCell ⟨g, 2, none⟩ (.slice none 0 0)) :=
 ⟨_, rfl, rfl, ((hc.set 0 _).set 1 _).set 2 _, bl_set (bl_set (bl_set h hg _) hg _) hg _⟩
theorem info_rec : (Tryz.prog.info? 156).map (fun i => (i.zero, i.size, i.bytes)) = some (some (.agg #[.int .u8 0, .slice none 0 0, .slice none 0 0]), 3, 56) := by kernel_rfl
def recs (k : Nat) : List Value := (List.replicate k [Value.int .u8 1, .slice none 0 0, .slice none 0 0]).flatten
theorem recs_succ (k : Nat) : recs (k + 1) = recs k ++ [.int .u8 1, .slice none 0 0, .slice none 0 0] := by
 unfold recs
 rw [List.replicate_succ', List.flatten_append]
 simp
theorem length_recs (k : Nat) : (recs k).length = k * 3 := by induction k with
 | zero => rfl
 | succ k ih => rw [recs_succ, List.length_append, ih]; simp; omega
theorem rec_one : ∀ u ∈ ([.int .u8 1, .slice none 0 0, .slice none 0 0] : List Value), u.oneCell' = true := by
 intro u hu
 simp only [List.mem_cons, List.not_mem_nil, or_false] at hu
 rcases hu with rfl | rfl | rfl <;> rfl
set_option maxRecDepth 100000 in
set_option maxHeartbeats 16000000 in
theorem rgAll_u (w : World) (line lines m : Nat) (size : Int) (hm : lines / 4 = m) (hl : line + lines < 1000) (gc : Nat) (HL : ∀ W, Below w.heap.size w W → ∀ k, k < m → Calls Tryz.prog 79 #[.int .u64 (atW line k), .pointer (some ⟨gc, 0, none⟩)] W fun e w' => e = .returned (.int .u64 1836515329) ∧ W = w') :
 Calls Tryz.prog 80 #[.agg #[.int .i64 (line : Int), .int .i64 (lines : Int), .int .u64 size], .func (.func 79) #[] #[.pointer (some ⟨gc, 0, none⟩)]] w fun e w' => ∃ A c, e = .returned (.tuple #[.slice A m c, .bool true]) ∧ Sl 156 3 w' A m c (recs m) ∧ Below w.heap.size w w' ∧ ∀ b, OwnB A b → w.heap.size ≤ b := by
 have HL := Lib.hid HL
 have HCO : Hid (∀ W, Calls Tryz.prog 52 #[.agg #[.int .i64 (line : Int), .int .i64 (lines : Int), .int .u64 size]] W fun e w' => e = .returned (.int .i64 (m : Int)) ∧ Below W.heap.size W w') := fun W => by
  have := rgCount W line lines size (by omega)
  rwa [hm] at this
 have HAT : Hid (∀ W k, k < m → Calls Tryz.prog 53 #[.agg #[.int .i64 (line : Int), .int .i64 (lines : Int), .int .u64 size], .int .i64 (k : Int)] W fun e w' => e = .returned (.int .u64 (atW line k)) ∧ Below W.heap.size W w') := fun W k hk => rgAt W line lines size k (by omega)
 have hm2 : m ≤ 250 := by omega
 clear hm hl
 go_enter Tryz.func80, Tryz.ntmps80
 go_wp2_with (go_at_call 52; refine (HCO.out _).mono ?_; rintro e w' ⟨rfl, hb⟩; obtain ⟨x, rfl⟩ := bx_of hb; clear hb)
 have hgx : w.heap.size < x.w.heap.size := x.lt_size (by simp)
 have z0 : x.w.cell? ⟨w.heap.size, 0, none⟩ = some (.int .i64 (line : Int)) := by go_simp
 have z1 : x.w.cell? ⟨w.heap.size, 1, none⟩ = some (.int .i64 (lines : Int)) := by go_simp
 have z2 : x.w.cell? ⟨w.heap.size, 2, none⟩ = some (.int .u64 size) := by go_simp
 have HBW0 : Hid (Below w.heap.size w x.w) := by show Below _ _ _; (repeat (first | with_reducible (first | exact Below.refl _ _ | refine bl_alloc ?_ _ | refine bl_drew ?_ | refine bl_drewN ?_ _ | refine bl_bx ?_ _ | exact BX.below _ | refine bl_set ?_ (by first | (exact Nat.le_refl _) | (simp; done) | (simp; omega)) _) | assumption))
 obtain ⟨W0, hW0⟩ : ∃ W0, x.w = W0 := ⟨_, rfl⟩
 obtain ⟨gr, hgr⟩ : ∃ gr, w.heap.size = gr := ⟨_, rfl⟩
 have HGR := Lib.hid hgr
 rw [hW0] at hgx z0 z1 z2 HBW0
 rw [hgr] at hgx z0 z1 z2
 rw [hW0, hgr]
 clear hW0 hgr
 go_loopw [12, 6, 7, 8, 9, 13, 14, 15, 16, 17, 18, 19, 20, 21, 22, 23, 24, 25, 26, 27, 28, 29, 30] (fun i' rc _ _ _ _ _ _ _ _ _ _ _ _ _ _ _ _ _ _ _ _ _ wr => ∃ (j : Nat) (A : Option Addr) (c : Nat), j ≤ m ∧ i' = .int .i64 j ∧ rc = .slice A j c ∧ Sl 156 3 wr A j c (recs j) ∧ Below W0.heap.size W0 wr ∧ ∀ b, OwnB A b → W0.heap.size ≤ b) (fun i' _ _ _ _ _ _ _ _ _ _ _ _ _ _ _ _ _ _ _ _ _ _ _ => m - (intOf i').toNat)
 case atStart => exact ⟨0, none, 0, by omega, rfl, rfl, Sl.nil, Below.refl _ _, by simp [OwnB]⟩
 case round =>
  obtain ⟨j, A, c, hj, rfl, rfl, hS, hB, hO⟩ := hrel
  have HS := Lib.hid hS
  have HB := Lib.hid hB
  have HO := Lib.hid hO
  have y0 := (hB.cell (p := ⟨gr, 0, none⟩) hgx).trans z0
  have y1 := (hB.cell (p := ⟨gr, 1, none⟩) hgx).trans z1
  have y2 := (hB.cell (p := ⟨gr, 2, none⟩) hgx).trans z2
  have hgw : gr < wr.heap.size := Nat.lt_of_lt_of_le hgx hB.size
  have HBA : Hid (Below w.heap.size w wr) := HBW0.out.trans (hB.mono HBW0.out.size)
  clear hS hB hO
  by_cases hlt : j < m
  · have hlt' : (j : Int) < (m : Int) := by omega
    have HATJ := Lib.hid (fun W => HAT.out W j hlt)
    have HLJ : Hid (∀ W, Below wr.heap.size wr W → ∀ W2, Below W.heap.size W W2 → Calls Tryz.prog 79 #[.int .u64 (atW line j), .pointer (some ⟨gc, 0, none⟩)] W2 fun e w' => e = .returned (.int .u64 1836515329) ∧ W2 = w') := fun W hW W2 hW2 => HL.out W2 ((HBA.out.trans (hW.mono HBA.out.size)).trans (hW2.mono (Nat.le_trans HBA.out.size hW.size))) j hlt
    obtain ⟨q, hq⟩ : ∃ q, atW line j = q := ⟨_, rfl⟩
    rw [hq] at HATJ HLJ
    clear hq
    go_wp2
    go_cut [8, 9] from 15 to 30 (fun s8 s9 wx => RecRel wr s8 s9 wx)
    case first =>
     go_region_held3 (fun w' => w'.cell? ⟨gr, 0, none⟩ = some (.int .i64 (line : Int)) ∧ w'.cell? ⟨gr, 1, none⟩ = some (.int .i64 (lines : Int)) ∧ w'.cell? ⟨gr, 2, none⟩ = some (.int .u64 size) ∧ gr < w'.heap.size ∧ Below wr.heap.size wr w')
      ((refine ⟨?_, ?_, ?_, ?_, ?_⟩ <;> first | assumption | ((repeat (first | with_reducible (first | exact Below.refl _ _ | refine bl_alloc ?_ _ | refine bl_drew ?_ | refine bl_drewN ?_ _ | refine bl_bx ?_ _ | exact BX.below _ | refine bl_set ?_ (by first | (exact Nat.le_refl _) | (simp; done) | (simp; omega)) _) | assumption)); done) | (refine bl_set (bl_set (bl_set ?_ hys _) hys _) hys _; (repeat (first | with_reducible (first | exact Below.refl _ _ | refine bl_alloc ?_ _ | refine bl_drew ?_ | refine bl_drewN ?_ _ | refine bl_bx ?_ _ | exact BX.below _ | refine bl_set ?_ (by first | (exact Nat.le_refl _) | (simp; done) | (simp; omega)) _) | assumption)); done) | (go_simp; done) | (simp; omega)))
      (first | (go_at_call 53; refine (HATJ.out _).mono ?_; rintro e w' ⟨rfl, hb⟩; obtain ⟨y, rfl⟩ := bx_of hb; clear hb; have hys : wr.heap.size ≤ y.w.heap.size := (by have h9 := y.size; first | exact h9 | (simp at h9; omega)); have hgy : gr < y.w.heap.size := y.lt_size (by first | exact hgw | (simp; omega)); have k0 : y.w.cell? ⟨gr, 0, none⟩ = some (.int .i64 (line : Int)) := (y.cell gr 0 (by first | exact hgw | (simp; omega))).trans (by first | exact y0 | go_simp); have k1 : y.w.cell? ⟨gr, 1, none⟩ = some (.int .i64 (lines : Int)) := (y.cell gr 1 (by first | exact hgw | (simp; omega))).trans (by first | exact y1 | go_simp); have k2 : y.w.cell? ⟨gr, 2, none⟩ = some (.int .u64 size) := (y.cell gr 2 (by first | exact hgw | (simp; omega))).trans (by first | exact y2 | go_simp)) | (go_at_call 104; refine (rgRead_u _ (line : Int) (lines : Int) size gc q (HLJ.out _ (by (repeat (first | with_reducible (first | exact Below.refl _ _ | refine bl_alloc ?_ _ | refine bl_drew ?_ | refine bl_drewN ?_ _ | refine bl_bx ?_ _ | exact BX.below _ | refine bl_set ?_ (by first | (exact Nat.le_refl _) | (simp; done) | (simp; omega)) _) | assumption))))).mono ?_; rintro e w' ⟨rfl, hb⟩; obtain ⟨yy, rfl⟩ := bx_of hb; clear hb; have hgz2 : gr < yy.w.heap.size := yy.lt_size (by first | exact hgy | (simp; omega)); have r0 : yy.w.cell? ⟨gr, 0, none⟩ = some (.int .i64 (line : Int)) := (yy.cell gr 0 (by first | exact hgy | (simp; omega))).trans (by first | exact k0 | go_simp); have r1 : yy.w.cell? ⟨gr, 1, none⟩ = some (.int .i64 (lines : Int)) := (yy.cell gr 1 (by first | exact hgy | (simp; omega))).trans (by first | exact k1 | go_simp); have r2 : yy.w.cell? ⟨gr, 2, none⟩ = some (.int .u64 size) := (yy.cell gr 2 (by first | exact hgy | (simp; omega))).trans (by first | exact k2 | go_simp)))
     all_goals go_wp2
     all_goals go_meet
     all_goals first
      | exact recRelA (by (repeat (first | with_reducible (first | exact Below.refl _ _ | refine bl_alloc ?_ _ | refine bl_drew ?_ | refine bl_drewN ?_ _ | refine bl_bx ?_ _ | exact BX.below _ | refine bl_set ?_ (by first | (exact Nat.le_refl _) | (simp; done) | (simp; omega)) _) | assumption)))
      | exact recRelB (by first | with_reducible exact (CB.new_at _ _ _ rfl).bx yy | with_reducible exact ((CB.new_at _ _ _ rfl).bx y).bx yy | exact (((CB.new_at _ _ _ rfl).drew).bx y).bx yy) (by (repeat (first | with_reducible (first | exact Below.refl _ _ | refine bl_alloc ?_ _ | refine bl_drew ?_ | refine bl_drewN ?_ _ | refine bl_bx ?_ _ | exact BX.below _ | refine bl_set ?_ (by first | (exact Nat.le_refl _) | (simp; done) | (simp; omega)) _) | assumption))) (by first | exact Nat.le_refl _ | exact hys | (simp; omega))
    case rest =>
     obtain ⟨gd, rfl, rfl, hCd, hBd⟩ := hcut
     have d0 : wc.cell? ⟨gd, 0, none⟩ = some (.int .u8 1) := hCd.cell 0
     have d1 : wc.cell? ⟨gd, 1, none⟩ = some (.slice none 0 0) := hCd.cell 1
     have d2 : wc.cell? ⟨gd, 2, none⟩ = some (.slice none 0 0) := hCd.cell 2
     have hgd : gd < wc.heap.size := hCd.lt
     have HBd := Lib.hid hBd
     clear hCd hBd y0 y1 y2
     go_wp2_with (at_builtin; refine wpList_append_sl rfl (.tmp 26) (.tmp 28) 148 rfl 156 (.agg #[.int .u8 0, .slice none 0 0, .slice none 0 0]) 3 56 rfl (by omega) Tryz.underlying148 info_rec (by omega) A j c (recs j) ⟨wc.heap.size, 0, none⟩ 1 1 [.int .u8 1, .slice none 0 0, .slice none 0 0] rfl rfl (HS.out.keep (fun b hb => (bl_alloc HBd.out _).block b (HS.out.lt hb))) rfl (by omega) (cells_three wc 156 _ _ _) rec_one (by omega) ?_; intro A4 c4 w4 HO4 HC4 HW4 HG4)
     go_roundw
     case rel =>
      refine ⟨j + 1, A4, c4, by omega, by go_num, rfl, ?_, ?_, fun b hb => ?_⟩
      · rw [recs_succ]; exact HO4.out
      · exact bl_ch (HB.out.trans ((bl_alloc HBd.out _).mono HB.out.size)) HC4.out (fun b hb => HO.out b hb)
      · have h1 := HB.out.size
        have h2 := HBd.out.size
        rcases HW4.out b hb with h | h
        · exact HO.out b h
        · rw [h]; simp; omega
     case measure => simp [intOf]; omega
  · obtain rfl : j = m := by omega
    clear y0 y1 y2
    go_wp2
    refine bodyPost_ret (v := .tuple #[.slice A j c, .bool true]) (by simp [results, Tryz.results80, go_sem]) rfl ⟨A, c, rfl, HS.out, HBA.out, fun b hb => by have := HO.out b hb; have := HBW0.out.size; omega⟩
section
variable {K F : Nat → Prop} {d : Nat} {t : Nat → Nat} {w w' : World} {S : DevS} {n N : Nat} {xs : List Int}
/-- The bytes of words, in a block of the call's own. -/
def BytesP17 (w : World) (ws : List Int) (n : Nat) (e : Ending) (w' : World) : Prop := ∃ g, e = .returned (.slice (some ⟨g, 0, none⟩) n n) ∧ IB .u8 5 w' g (bytesL ws) ∧ w.heap.size ≤ g ∧ Below w.heap.size w w'
set_option maxHeartbeats 1000000 in
theorem devCur17 (w : World) {L : Lay} (h : Dev w d L S) (hf : Fits S.cur) (n m : Nat) (hn : S.cur.length = n) (hm : 8 * n = m) : Calls Tryz.prog 78 #[.pointer (some ⟨d, 0, none⟩)] w (BytesP17 w S.cur m) := by
 have h0 := h.ccell
 have hl := h.lt
 have hnl : n ≤ 32768 := by have := h.np; have := h.nc; have := h.nl; omega
 have hB := fun c => bytesOfD w (some ⟨L.cb, 0, none⟩) n c S.cur hn hnl hf h.cur.rdW
 rw [hn] at h0
 rw [hm] at hB
 have HB := Lib.hid hB
 clear h hf hB
 go_enter Tryz.func78, Tryz.ntmps78
 go_wp2_with (go_at_call 100; refine (HB.out _).mono ?_; rintro e w' ⟨g, rfl, hI, hg, hb⟩; have HI := Lib.hid hI; have HG := Lib.hid hg; have HBB := Lib.hid hb; clear hI hg hb)
 go_ret
 exact ⟨g, rfl, HI.out, HG.out, HBB.out⟩
theorem vCur17 (h : DV F d t w S) (hf : Fits S.cur) (n m : Nat) (hn : S.cur.length = n) (hm : 8 * n = m) : Calls Tryz.prog 78 #[.pointer (some ⟨d, 0, none⟩)] w (BytesP17 w S.cur m) := by
 obtain ⟨_, L, rfl, h3, _⟩ := h
 exact devCur17 w h3 hf n m hn hm
theorem vDevSize (h : DV F d t w S) : Calls Tryz.prog 77 #[.pointer (some ⟨d, 0, none⟩)] w fun e w' => e = .returned (.int .u64 ((S.lns.length : Int) * 64)) ∧ w = w' := by
 obtain ⟨_, L, rfl, h3, _⟩ := h
 exact devSize w d L S h3
/-- A new pool. -/
theorem PMx.new {p bb m line lines : Nat} {size : Int} (hD : DV F d t w S) (hB : Below w.heap.size w w')
 (hp : CB w' p 152 #[.pointer (some ⟨d, 0, none⟩), .int .i64 line, .int .i64 lines, .int .u64 size, .slice (some ⟨bb, 0, none⟩) m m, .pointer none])
 (hb : Sl 4 1 w' (some ⟨bb, 0, none⟩) m m (bools (List.replicate m false))) (hpw : w.heap.size ≤ p) (hbw : w.heap.size ≤ bb) (hne : p ≠ bb) (hK : ∀ b, K b → b < w.heap.size ∧ ¬ F b) :
 PMx K p d t line lines size w' { dev := S, busy := List.replicate m false, cur := none, ops := fun _ => none } := by
 have hs := hB.size
 classical
 refine ⟨fun b => if b = p ∨ b = bb then 2 else if F b then 1 else 0, bb, ⟨?_, ?_, ?_, by simp, by simp, hne, fun a o ho => by cases ho⟩, fun b hb' => ?_⟩
 · refine (hD.less hB (fun b => b = p ∨ b = bb) (fun b hx => ?_)).mono (fun b hf => ?_)
   · rcases hx with rfl | rfl
     · exact ⟨hpw, hp.lt⟩
     · exact ⟨hbw, hb.lt (by simp [OwnB])⟩
   · left
     show (if _ then _ else if _ then _ else _) = 1
     rw [if_neg hf.2, if_pos hf.1]
 · show CB w' p _ #[_, _, _, _, .slice _ (List.replicate m false).length (List.replicate m false).length, optP none]
   rw [List.length_replicate]; exact hp
 · show Sl _ _ _ _ (List.replicate m false).length (List.replicate m false).length _
   rw [List.length_replicate]; exact hb
 · obtain ⟨h1, h2⟩ := hK b hb'
   refine ⟨?_, by omega⟩
   show (if _ then _ else if _ then _ else _) = 0
   rw [if_neg (by omega), if_neg h2]
def OpnPost (w : World) (d line lines m : Nat) (size : Int) (e : Ending) (w' : World) : Prop :=
 ∃ p bb, e = .returned (.tuple #[.pointer (some ⟨p, 0, none⟩), .int .i64 0]) ∧ CB w' p 152 #[.pointer (some ⟨d, 0, none⟩), .int .i64 line, .int .i64 lines, .int .u64 size, .slice (some ⟨bb, 0, none⟩) m m, .pointer none] ∧
  Sl 4 1 w' (some ⟨bb, 0, none⟩) m m (bools (List.replicate m false)) ∧ w.heap.size ≤ p ∧ w.heap.size ≤ bb ∧ p ≠ bb ∧ Below w.heap.size w w'
theorem info_bool : (Tryz.prog.info? 4).map (fun i => (i.zero, i.size, i.bytes)) = some (some (.bool false), 1, 1) := by kernel_rfl
theorem slBools {w : World} {g : Nat} {bs : List Bool} {m : Nat} (h : CB w g 4 (bools bs).toArray) (hl : bs.length = m) (hm : m ≤ 1000) : Sl 4 1 w (some ⟨g, 0, none⟩) m m (bools bs) := by
 subst hl
 refine ⟨by simp [bools], .inr ⟨g, 0, _, rfl, h, Nat.le_refl _, by show bs.length ≤ 9223372036854775807; omega, by simp [bools], ?_⟩⟩
 simp only [List.drop_zero, Nat.mul_one]
 rw [List.take_of_length_le (by simp [bools])]
set_option maxRecDepth 100000 in
theorem run_make_bools (W : World) (m : Nat) (hm : m ≤ 1000) : (Instr.makeSlice 110 (.int .i64 (m : Int)) (.int .i64 (m : Int))).run Tryz.prog W = .ok (.slice (some ⟨W.heap.size, 0, none⟩) m m) (W.alloc (.cells (bools (List.replicate m false)).toArray 4)) := by
 cases hi : Tryz.prog.info? 4 with
 | none => have := info_bool; rw [hi] at this; cases this
 | some i =>
  have hinfo := info_bool
  rw [hi] at hinfo
  simp only [Option.map_some, Option.some.injEq, Prod.mk.injEq] at hinfo
  obtain ⟨hz, hs, hb⟩ := hinfo
  have hr := run_make (P := Tryz.prog) W 110 4 i (.bool false) Tryz.underlying110 hi hz .i64 .i64 m m (by omega) (by omega) (by rw [hb]; omega) (by omega)
  rw [hr, hs]
  simp only [Int.toNat_natCast, Nat.mul_one]
  congr 3
  congr 1
  simp only [madeCells, Value.cells, bools, List.map_replicate]
  apply Array.ext
  · simp
  · intro i h1 h2
    simp [Nat.mod_one]
set_option maxRecDepth 100000 in
set_option maxHeartbeats 4000000 in
theorem pwOpen (h : DV F d t w S) (hx : S.cur = xs) (hnl : S.lns.length = n) (hlx : xs.length = 8 * n) (hf : Fits xs) (line lines m : Nat) (hm : lines / 4 = m) (h4 : 4 ≤ lines) (hl : line + lines ≤ n) (hn : n ≤ 999) (hu : ∀ k, k < m → xs[8 * (line + 4 * k)]? = some 1836515329) :
 Calls Tryz.prog 57 #[.pointer (some ⟨d, 0, none⟩), .int .i64 (line : Int), .int .i64 (lines : Int)] w (OpnPost w d line lines m ((n : Int) * 64)) := by
 have HSZ : Hid (∀ W, Below w.heap.size w W → Calls Tryz.prog 77 #[.pointer (some ⟨d, 0, none⟩)] W fun e w' => e = .returned (.int .u64 ((n : Int) * 64)) ∧ W = w') := fun W hW => by
  have := vDevSize (h.below hW)
  rwa [hnl] at this
 have HCU : Hid (∀ W, Below w.heap.size w W → Calls Tryz.prog 78 #[.pointer (some ⟨d, 0, none⟩)] W (BytesP17 W xs (64 * n))) := fun W hW => by
  have := vCur17 (h.below hW) (by rw [hx]; exact hf) (8 * n) (64 * n) (by rw [hx]; exact hlx) (by omega)
  rwa [hx] at this
 have hrb : rgB (line : Int) (lines : Int) (n : Int) = true := by unfold rgB; simp; omega
 have HVA : Hid (∀ W, Calls Tryz.prog 51 #[.agg #[.int .i64 (line : Int), .int .i64 (lines : Int), .int .u64 ((n : Int) * 64)]] W fun e w' => e = .returned (.bool true) ∧ Below W.heap.size W w') := fun W => by
  have := rgValid W line lines n (by omega) (by omega) (by omega)
  rwa [hrb] at this
 have HCO : Hid (∀ W, Calls Tryz.prog 52 #[.agg #[.int .i64 (line : Int), .int .i64 (lines : Int), .int .u64 ((n : Int) * 64)]] W fun e w' => e = .returned (.int .i64 (m : Int)) ∧ Below W.heap.size W w') := fun W => by
  have := rgCount W line lines ((n : Int) * 64) (by omega)
  rwa [hm] at this
 have HALL : Hid (∀ (W : World) (gc gb : Nat), W.cell? ⟨gc, 0, none⟩ = some (.slice (some ⟨gb, 0, none⟩) (64 * n) (64 * n)) → IB .u8 5 W gb (bytesL xs) → Calls Tryz.prog 80 #[.agg #[.int .i64 (line : Int), .int .i64 (lines : Int), .int .u64 ((n : Int) * 64)], .func (.func 79) #[] #[.pointer (some ⟨gc, 0, none⟩)]] W fun e w' => ∃ A c, e = .returned (.tuple #[.slice A m c, .bool true]) ∧ Sl 156 3 w' A m c (recs m) ∧ Below W.heap.size W w' ∧ ∀ b, OwnB A b → W.heap.size ≤ b) := fun W gc gb hc hI =>
  rgAll_u W line lines m ((n : Int) * 64) hm (by omega) gc (fun W2 hW2 k hk => by
   have hgl : gc < W.heap.size := World.block_lt_of_cell? W _ hc
   exact pwOpenLoad W2 gc gb (64 * n) (64 * n) xs hf ((hW2.cell (p := ⟨gc, 0, none⟩) hgl).trans hc) (hI.below hW2 hI.lt) (by omega) (by omega) (8 * (line + 4 * k)) (by omega) _ (hu k hk))
 have hm2 : m ≤ 1000 := by omega
 clear h hx hnl hlx hf hu hrb hm
 have hmk := fun (W : World) => run_make_bools W m hm2
 go_enter Tryz.func57, Tryz.ntmps57
 go_wp2_with (first
  | (go_at_call 77; refine (HSZ.out _ (by (repeat (first | with_reducible (first | exact Below.refl _ _ | refine bl_alloc ?_ _ | refine bl_drew ?_ | refine bl_drewN ?_ _ | refine bl_bx ?_ _ | exact BX.below _ | refine bl_set ?_ (by first | (exact Nat.le_refl _) | (simp; done) | (simp; omega)) _) | assumption)))).mono ?_; rintro e w' ⟨rfl, rfl⟩)
  | (go_at_call 51; refine (HVA.out _).mono ?_; rintro e w' ⟨rfl, hb⟩; obtain ⟨x, rfl⟩ := bx_of hb; clear hb; have hgx : w.heap.size < x.w.heap.size := x.lt_size (by simp); have x0 : x.w.cell? ⟨w.heap.size, 0, none⟩ = some (.int .i64 (line : Int)) := (by go_simp); have x1 : x.w.cell? ⟨w.heap.size, 1, none⟩ = some (.int .i64 (lines : Int)) := (by go_simp); have x2 : x.w.cell? ⟨w.heap.size, 2, none⟩ = some (.int .u64 ((n : Int) * 64)) := (by go_simp))
  | (go_at_call 78; refine (HCU.out _ (by (repeat (first | with_reducible (first | exact Below.refl _ _ | refine bl_alloc ?_ _ | refine bl_drew ?_ | refine bl_drewN ?_ _ | refine bl_bx ?_ _ | exact BX.below _ | refine bl_set ?_ (by first | (exact Nat.le_refl _) | (simp; done) | (simp; omega)) _) | assumption)))).mono ?_; rintro e w' ⟨gb, rfl, hI, hg, hb⟩; have HI := Lib.hid hI; have HG := Lib.hid hg; have hgl := hI.lt; obtain ⟨y, rfl⟩ := bx_of hb; clear hb hI hg; have hgy : w.heap.size < y.w.heap.size := y.lt_size hgx; have y0 : y.w.cell? ⟨w.heap.size, 0, none⟩ = some (.int .i64 (line : Int)) := (y.cell _ _ hgx).trans x0; have y1 : y.w.cell? ⟨w.heap.size, 1, none⟩ = some (.int .i64 (lines : Int)) := (y.cell _ _ hgx).trans x1; have y2 : y.w.cell? ⟨w.heap.size, 2, none⟩ = some (.int .u64 ((n : Int) * 64)) := (y.cell _ _ hgx).trans x2)
  | (go_at_call 80; refine (HALL.out _ y.w.heap.size gb (by go_simp) (HI.out.alloc _)).mono ?_; rintro e w' ⟨A, c, rfl, hS, hb, hO⟩; obtain ⟨z, rfl⟩ := bx_of hb; clear hb hS hO; have hgz : w.heap.size < z.w.heap.size := z.lt_size (by simp; omega); have z0 : z.w.cell? ⟨w.heap.size, 0, none⟩ = some (.int .i64 (line : Int)) := (by go_simp); have z1 : z.w.cell? ⟨w.heap.size, 1, none⟩ = some (.int .i64 (lines : Int)) := (by go_simp); have z2 : z.w.cell? ⟨w.heap.size, 2, none⟩ = some (.int .u64 ((n : Int) * 64)) := (by go_simp)))
 go_region_with (go_at_call 52; refine (HCO.out _).mono ?_; rintro e w' ⟨rfl, hb⟩; obtain ⟨u, rfl⟩ := bx_of hb; clear hb; have hgu : w.heap.size < u.w.heap.size := u.lt_size (by first | exact hgz | (simp; omega)); have u0 : u.w.cell? ⟨w.heap.size, 0, none⟩ = some (.int .i64 (line : Int)) := (u.cell _ _ (by first | exact hgz | (simp; omega))).trans (by first | exact z0 | go_simp); have u1 : u.w.cell? ⟨w.heap.size, 1, none⟩ = some (.int .i64 (lines : Int)) := (u.cell _ _ (by first | exact hgz | (simp; omega))).trans (by first | exact z1 | go_simp); have u2 : u.w.cell? ⟨w.heap.size, 2, none⟩ = some (.int .u64 ((n : Int) * 64)) := (u.cell _ _ (by first | exact hgz | (simp; omega))).trans (by first | exact z2 | go_simp))
 all_goals go_wp2
 all_goals refine bodyPost_ret (v := .tuple #[.pointer (some ⟨u.w.heap.size + 1, 0, none⟩), .int .i64 0]) (by simp [results, Tryz.results57, go_sem]) rfl ?_
 all_goals refine ⟨u.w.heap.size + 1, u.w.heap.size, rfl, ?_, ?_, ?_, ?_, by omega, (by (repeat (first | with_reducible (first | exact Below.refl _ _ | refine bl_alloc ?_ _ | refine bl_drew ?_ | refine bl_drewN ?_ _ | refine bl_bx ?_ _ | exact BX.below _ | refine bl_set ?_ (by first | (exact Nat.le_refl _) | (simp; done) | (simp; omega)) _) | assumption)))⟩
 all_goals first
  | exact CB.new_at _ _ _ (by simp)
  | exact slBools (CB.alloc (CB.new_at _ _ _ rfl) _) (by simp) hm2
  | omega
end
set_option maxRecDepth 100000 in
theorem quInside (w : World) (line lines n : Nat) (hl : line < 1000) (h4 : 4 ≤ lines) (hl2 : line + lines ≤ n) (hn : n < 1000) :
 Calls Tryz.prog 56 #[.int .i64 (line : Int), .int .i64 (lines : Int), .int .u64 ((n : Int) * 64)] w fun e w' => e = .returned (.bool true) ∧ w = w' := by
 have h1 : 0 ≤ (line : Int) := by omega
 have h2 : 4 ≤ (lines : Int) := by omega
 have h3 : (lines : Int) ≤ 4096 := by omega
 have e1 : IntKind.u64.wrap (line : Int) = (line : Int) := IntWalk.u64_in _ (by omega)
 have e2 : IntKind.u64.wrap (lines : Int) = (lines : Int) := IntWalk.u64_in _ (by omega)
 have e3 : IntKind.u64.wrap ((line : Int) + (lines : Int)) = (line : Int) + (lines : Int) := IntWalk.u64_in _ (by omega)
 have e4 : ((n : Int) * 64).tdiv 64 = (n : Int) := Int.mul_tdiv_cancel _ (by omega)
 have e5 : (line : Int) + (lines : Int) ≤ (n : Int) := by omega
 go_enter Tryz.func56, Tryz.ntmps56
 go_wp2
 go_ret
 exact ⟨rfl, rfl⟩
/-- The later words of Format. -/
def qfm (lines : Nat) : List (Int × Int) := (List.range (8 * lines - 1)).map fun (k : Nat) => (2056 + 8 * (k : Int), if k = 0 then (lines : Int) else 0)
theorem length_qfm (lines : Nat) : (qfm lines).length = 8 * lines - 1 := by simp [qfm]
theorem qfm_take (lines k : Nat) (hk : k < 8 * lines - 1) : (qfm lines).take (k + 1) = (qfm lines).take k ++ [(2056 + 8 * (k : Int), if k = 0 then (lines : Int) else 0)] := by
 rw [List.take_succ_eq_append_getElem (by rw [length_qfm]; exact hk)]
 congr 2
 simp [qfm]
theorem qfm_mem {lines : Nat} {p : Int × Int} (h : p ∈ qfm lines) : ∃ k, k < 8 * lines - 1 ∧ p.1 = 2056 + 8 * (k : Int) := by
 obtain ⟨k, hk, rfl⟩ := List.mem_map.1 h
 exact ⟨k, by simpa using hk, rfl⟩
theorem starts_qfm (lines : Nat) : (starts (qfm lines)).Pairwise (· ≤ ·) := by
 rw [List.pairwise_iff_getElem]
 intro i j hi hj hij
 simp only [starts, qfm, List.getElem_map, List.getElem_range]
 unfold startOf
 omega
/-- The words behind Format. -/
def quXs (xs : List Int) (lines : Nat) : List Int := applyW (applyW (applyW xs [(2048, 0)]) (qfm lines)) [(2048, 349322958149)]
def QFm (w : World) (lines k : Nat) (A : Option Addr) (cp : Nat) (wr : World) : Prop :=
 Sl 122 2 wr A k cp (wcells ((qfm lines).take k)) ∧ Below w.heap.size w wr ∧ ∀ b, OwnB A b → w.heap.size ≤ b
section
variable {F : Nat → Prop} {d : Nat} {t : Nat → Nat} {w w0 : World} {S : DevS} {n N : Nat} {xs : List Int}
/-- One Stores and its run. -/
def SrP (F : Nat → Prop) (d : Nat) (t : Nat → Nat) (n : Nat) (xs : List Int) (N : Nat) (w0 : World) (r : Ending) (w' : World) : Prop :=
 r = .returned (.int .i64 0) ∧ (∃ S', DV F d t w' S' ∧ Clean S' n xs N) ∧ Ch F w0 w'
theorem stQ (w : World) (A : Option Addr) (m c : Nat) (ws : List (Int × Int)) (hn : ws.length = m) (h1 : 1 ≤ m) (hm : m < 256) (hS : Sl 122 2 w A m c (wcells ws)) (hr : ∀ p ∈ ws, 0 ≤ p.1 ∧ p.1 < 18446744073709551616) (hs : (starts ws).Pairwise (· ≤ ·)) : Calls Tryz.prog 54 #[.slice A m c] w (StoPost w (storesP ws)) := by
 have := memStoresQ w A m c ws hn h1 hm hS hr (.inr hs)
 rwa [storesX_of ws hs] at this
theorem len_storesP (ws : List (Int × Int)) : (storesP ws).length ≤ 2 * ws.length + 1 := by
 have h1 := length_storesP (ws := ws)
 have h2 := cpt_le (starts ws)
 have h3 : (starts ws).length = ws.length := by simp [starts]
 omega
/-- The run of what Stores has returned. -/
theorem rnQ (h : DV F d t w0 S) (hcl : Clean S n xs N) {w1 w : World} (hb1 : Below w0.heap.size w0 w1) {ws : List (Int × Int)} {A : Option Addr} {c : Nat} (hS : Sl 144 3 w A (storesP ws).length c (pcells (storesP ws))) (hb : Below w1.heap.size w1 w) (hO : ∀ b, OwnB A b → w1.heap.size ≤ b) (i : Nat) (hi : i < 8)
 (hv : ∀ p ∈ ws, ∃ k : Nat, p.1 = 8 * (k : Int) ∧ k < 8 * n) (hn : n ≤ 4096) {M : Nat} (hM : N + (2 * ws.length + 1) ≤ M) (hM2 : M < 1000000) : Calls Tryz.prog 55 #[.slice A (storesP ws).length c, .iface 84 (.pointer (some ⟨t i, 0, none⟩))] w (SrP F d t n (applyW xs ws) M w0) := by
 have hl := len_storesP ws
 refine (runC h hcl (hb1.trans (hb.mono hb1.size)) A _ c ws rfl hS (fun b hb' => by have h1 := hO b hb'; have h2 := hb1.size; omega) i hi hv hn (by omega)).mono ?_
 rintro r w' ⟨h1, ⟨S', h2, h3⟩, h4⟩
 exact ⟨h1, ⟨S', h2, ⟨h3.good.mono (by omega), h3.nl, h3.cur, h3.pers, h3.off, h3.armed, h3.hist, h3.err, h3.notes⟩⟩, h4⟩
set_option maxRecDepth 100000 in
set_option maxHeartbeats 8000000 in
theorem quFormat (h : DV F d t w S) (lines : Nat) (h4 : 4 ≤ lines ∧ lines ≤ 7) (hcl : Clean S (32 + lines) xs N) (i : Nat) (hi : i < 8) (hN : N + 200 < 1000000) :
 Calls Tryz.prog 36 #[.iface 84 (.pointer (some ⟨t i, 0, none⟩)), .int .i64 32, .int .i64 (lines : Int)] w (SrP F d t (32 + lines) (quXs xs lines) (N + 200) w) := by
 obtain ⟨n, hn⟩ : ∃ n, 32 + lines = n := ⟨_, rfl⟩
 rw [hn] at hcl ⊢
 obtain ⟨l4, l7⟩ := h4
 have HNL := Lib.hid hn
 have H := Lib.hid h
 have HCL := Lib.hid hcl
 have HSZ : Hid (∀ W, Below w.heap.size w W → Calls Tryz.prog 182 #[.pointer (some ⟨t i, 0, none⟩)] W fun e w' => e = .returned (.int .u64 ((n : Int) * 64)) ∧ W = w') := fun W hW => by
  have := vSize (h.below hW) i hi
  rwa [hcl.nl] at this
 have HER : Hid (∀ W, Below w.heap.size w W → Calls Tryz.prog 62 #[.pointer (some ⟨t i, 0, none⟩)] W fun e w' => e = .returned (.int .i64 0) ∧ W = w') := fun W hW => by
  have := vErr (h.below hW) i hi
  rwa [hcl.err i] at this
 have HIN : Hid (∀ W, Calls Tryz.prog 56 #[.int .i64 32, .int .i64 (lines : Int), .int .u64 ((n : Int) * 64)] W fun e w' => e = .returned (.bool true) ∧ W = w') := fun W => quInside W 32 lines n (by omega) (by omega) (by omega) (by omega)
 have HI := Lib.hid hi
 have HN := Lib.hid hN
 have HFIN : Hid (applyW (applyW (applyW xs [(2048, 0)]) (qfm lines)) [(2048, 349322958149)] = quXs xs lines) := rfl
 clear h hcl hi hN hn
 have em : IntKind.i64.wrap ((lines : Int) * 8) = (lines : Int) * 8 := IntWalk.i64_in _ (by omega)
 go_enter Tryz.func36, Tryz.ntmps36
 go_upto_region 8 with (first
  | (go_at_call 182; (with_reducible refine (HSZ.out _ (by (repeat (first | with_reducible (first | exact Below.refl _ _ | refine bl_alloc ?_ _ | refine bl_drew ?_ | refine bl_drewN ?_ _ | refine bl_bx ?_ _ | exact BX.below _ | refine bl_set ?_ (by first | (exact Nat.le_refl _) | (simp; done) | (simp; omega)) _) | assumption)))).mono ?_); rintro e w' ⟨rfl, rfl⟩)
  | (go_at_call 62; (with_reducible refine (HER.out _ (by (repeat (first | with_reducible (first | exact Below.refl _ _ | refine bl_alloc ?_ _ | refine bl_drew ?_ | refine bl_drewN ?_ _ | refine bl_bx ?_ _ | exact BX.below _ | refine bl_set ?_ (by first | (exact Nat.le_refl _) | (simp; done) | (simp; omega)) _) | assumption)))).mono ?_); rintro e w' ⟨rfl, rfl⟩)
  | (go_at_call 56; (with_reducible refine (HIN.out _).mono ?_); rintro e w' ⟨rfl, rfl⟩)
  | (go_at_call 54; refine (stQ _ _ 1 1 [(2048, 0)] rfl (by omega) (by omega) (wr_alone _ 2048 0) (by simp) (by simp [starts])).mono ?_; rintro e w1 ⟨A1, c1, rfl, hS1, hB1, hO1⟩; have HS1 := Lib.hid hS1; have HB1 := Lib.hid hB1; have HO1 := Lib.hid hO1; clear hS1 hB1 hO1)
  | (go_at_call 55; go_loud (refine (rnQ H.out HCL.out (bl_alloc (Below.refl _ _) _) HS1.out HB1.out HO1.out i HI.out (fun p hp => ⟨256, by simp at hp; rw [hp]; rfl, by have := HNL.out; omega⟩) (by have := HNL.out; omega) (M := N + 10) (by simp) (by have := HN.out; omega)).mono ?_; rintro e w2 ⟨rfl, ⟨S2, hD2, hC2⟩, hCh2⟩; have HD2 := Lib.hid hD2; have HC2 := Lib.hid hC2; have HCh2 := Lib.hid hCh2; clear hD2 hC2 hCh2)))
 clear HS1 HB1 HO1 HSZ HER HCL H HIN
 go_wp2
 have HI1 : Hid (QFm w2 lines 0 none 0 w2) := ⟨Sl.nil, Below.refl _ _, by simp [OwnB]⟩
 go_loopw [11, 10, 12, 41, 42, 43, 44, 45, 46, 47, 48, 49, 50, 51, 52, 53, 54, 55, 56, 57, 58, 59, 60, 61] (fun i ws _ _ _ _ _ _ _ _ _ _ _ _ _ _ _ _ _ _ _ _ _ _ wr => ∃ (z : Int) (j : Nat) (A : Option Addr) (c : Nat), Hid (z = (j : Int) + 1) ∧ 1 ≤ z ∧ z ≤ 8 * (lines : Int) ∧ i = .int .i64 z ∧ ws = .slice A j c ∧ QFm w2 lines j A c wr) (fun i _ _ _ _ _ _ _ _ _ _ _ _ _ _ _ _ _ _ _ _ _ _ _ _ => 8 * lines - (intOf i).toNat)
 case atStart => exact ⟨1, 0, none, 0, rfl, by omega, by omega, rfl, rfl, HI1.out⟩
 case round =>
  clear HI1
  obtain ⟨z, j, A, c, HJ, hz1, hz2, rfl, rfl, hS, hB, hO⟩ := hrel
  have HS := Lib.hid hS
  have HB := Lib.hid hB
  have HO := Lib.hid hO
  clear hS hB hO
  by_cases hlt : z < (lines : Int) * 8
  · have HFT := Lib.hid (qfm_take lines j (by have := HJ.out; omega))
    have e1 : IntKind.u64.wrap z = z := IntWalk.u64_in _ (by omega)
    have e2 : IntKind.u64.wrap (8 * z) = 8 * z := IntWalk.u64_in _ (by omega)
    have e3 : IntKind.u64.wrap (2048 + 8 * z) = 2048 + 8 * z := IntWalk.u64_in _ (by omega)
    have e5 : IntKind.u64.wrap (lines : Int) = (lines : Int) := IntWalk.u64_in _ (by omega)
    have e6 : IntKind.i64.wrap (z + 1) = z + 1 := IntWalk.i64_in _ (by omega)
    have HQ : Hid (2056 + 8 * (j : Int) = 2048 + 8 * z) := by show _ = _; have := HJ.out; omega
    have HJ0 : Hid (j = 0 ↔ z = 1) := by show _ ↔ _; have := HJ.out; omega
    obtain ⟨vl, hvl⟩ : ∃ vl : Int, (if j = 0 then (lines : Int) else 0) = vl := ⟨_, rfl⟩
    rw [hvl, HQ.out] at HFT
    have HREL : Hid (∀ A4 c4 w4 (W : World), Below wr.heap.size wr W → Sl 122 2 w4 A4 (j + 1) c4 (wcells ((qfm lines).take j ++ [(2048 + 8 * z, vl)])) → Ch (OwnB A) W w4 → (∀ b, OwnB A4 b → OwnB A b ∨ b = W.heap.size) → QFm w2 lines (j + 1) A4 c4 w4) := fun A4 c4 w4 W hBW h1 h2 h3 => by
     refine ⟨by rw [HFT.out]; exact h1, bl_ch (HB.out.trans (hBW.mono HB.out.size)) h2 (fun b hb => HO.out b hb), fun b hb => ?_⟩
     rcases h3 b hb with h | h
     · exact HO.out b h
     · have := HB.out.size; have := hBW.size; omega
    have hjb : j < 1000 := by have := HJ.out; omega
    have HMZ : Hid (8 * lines - (z + 1).toNat < 8 * lines - z.toNat) := by show _ < _; omega
    have HZ1 : Hid (z + 1 = ((j + 1 : Nat) : Int) + 1) := by show _ = _; have := HJ.out; omega
    by_cases h1 : z = 1
    · have hvl2 : vl = (lines : Int) := by rw [← hvl, if_pos (HJ0.out.2 h1)]
      clear hvl
      subst hvl2
      have HREL1 : Hid (∀ A4 c4 w4 (W : World), Below wr.heap.size wr W → Sl 122 2 w4 A4 (j + 1) c4 (wcells ((qfm lines).take j ++ [(2056, (lines : Int))])) → Ch (OwnB A) W w4 → (∀ b, OwnB A4 b → OwnB A b ∨ b = W.heap.size) → QFm w2 lines (j + 1) A4 c4 w4) := by
       have hx : (2056 : Int) = 2048 + 8 * z := by omega
       rw [hx]; exact HREL.out
      have HCT : Hid (∀ (k : Nat) (u : Value), ([.int .u64 2056, .int .u64 (lines : Int)] : List Value)[k]? = some u → ((wr.alloc (.cells #[.int .u64 2056, .int .u64 (lines : Int)] 122)).alloc (.cells #[.int .u64 2056, .int .u64 (lines : Int)] 122)).cell? ((⟨wr.heap.size + 1, 0, none⟩ : Addr).add k) = some u) := by
       have := cells_two (wr.alloc (.cells #[.int .u64 2056, .int .u64 (lines : Int)] 122)) 122 (.int .u64 2056) (.int .u64 (lines : Int))
       simp only [World.size_alloc] at this
       exact this
      have HM1 : Hid (8 * lines - (2 : Int).toNat < 8 * lines - (1 : Int).toNat) := by show _ < _; omega
      have HZ2 : Hid ((2 : Int) = ((j + 1 : Nat) : Int) + 1) := by show _ = _; have := HJ.out; omega
      clear HREL HMZ HZ1 HFT HQ HJ0 e2 e3
      subst h1
      go_wp2_with (at_builtin; refine wpList_append_sl rfl (.tmp 58) (.tmp 60) 119 rfl 122 (.agg #[.int .u64 0, .int .u64 0]) 2 16 rfl (by omega) Tryz.underlying119 info_write (by omega) A j c (wcells ((qfm lines).take j)) ⟨wr.heap.size + 1, 0, none⟩ 1 1 [.int .u64 2056, .int .u64 (lines : Int)] rfl rfl (HS.out.keep (fun b hb => (by (repeat (first | with_reducible (first | exact Below.refl _ _ | refine bl_alloc ?_ _ | refine bl_drew ?_ | refine bl_drewN ?_ _ | refine bl_bx ?_ _ | exact BX.below _ | refine bl_set ?_ (by first | (exact Nat.le_refl _) | (simp; done) | (simp; omega)) _) | assumption)) : Below wr.heap.size wr _).block b (HS.out.lt hb))) rfl (by omega) HCT.out (u64_two _ _) (by omega) ?_; intro A4 c4 w4 HO4 HC4 HW4 HG4)
      go_roundw
      case rel => exact ⟨2, j + 1, A4, c4, HZ2.out, by omega, by omega, rfl, rfl, HREL1.out A4 c4 w4 _ (by (repeat (first | with_reducible (first | exact Below.refl _ _ | refine bl_alloc ?_ _ | refine bl_drew ?_ | refine bl_drewN ?_ _ | refine bl_bx ?_ _ | exact BX.below _ | refine bl_set ?_ (by first | (exact Nat.le_refl _) | (simp; done) | (simp; omega)) _) | assumption))) (by rw [wcells_snoc]; exact HO4.out) HC4.out HW4.out⟩
      case measure => exact HM1.out
    · have hvl2 : vl = 0 := by rw [← hvl, if_neg (fun h => h1 (HJ0.out.1 h))]
      clear hvl
      subst hvl2
      have HCT : Hid (∀ (k : Nat) (u : Value), ([.int .u64 (2048 + 8 * z), .int .u64 0] : List Value)[k]? = some u → ((wr.alloc (.cells #[.int .u64 (2048 + 8 * z), .int .u64 0] 122)).alloc (.cells #[.int .u64 (2048 + 8 * z), .int .u64 0] 122)).cell? ((⟨wr.heap.size + 1, 0, none⟩ : Addr).add k) = some u) := by
       have := cells_two (wr.alloc (.cells #[.int .u64 (2048 + 8 * z), .int .u64 0] 122)) 122 (.int .u64 (2048 + 8 * z)) (.int .u64 0)
       simp only [World.size_alloc] at this
       exact this
      go_wp2_with (at_builtin; refine wpList_append_sl rfl (.tmp 58) (.tmp 60) 119 rfl 122 (.agg #[.int .u64 0, .int .u64 0]) 2 16 rfl (by omega) Tryz.underlying119 info_write (by omega) A j c (wcells ((qfm lines).take j)) ⟨wr.heap.size + 1, 0, none⟩ 1 1 [.int .u64 (2048 + 8 * z), .int .u64 0] rfl rfl (HS.out.keep (fun b hb => (by (repeat (first | with_reducible (first | exact Below.refl _ _ | refine bl_alloc ?_ _ | refine bl_drew ?_ | refine bl_drewN ?_ _ | refine bl_bx ?_ _ | exact BX.below _ | refine bl_set ?_ (by first | (exact Nat.le_refl _) | (simp; done) | (simp; omega)) _) | assumption)) : Below wr.heap.size wr _).block b (HS.out.lt hb))) rfl (by omega) HCT.out (u64_two _ _) (by omega) ?_; intro A4 c4 w4 HO4 HC4 HW4 HG4)
      go_roundw
      case rel => exact ⟨z + 1, j + 1, A4, c4, HZ1.out, by omega, by omega, by first | rfl | go_num, rfl, HREL.out A4 c4 w4 _ (by (repeat (first | with_reducible (first | exact Below.refl _ _ | refine bl_alloc ?_ _ | refine bl_drew ?_ | refine bl_drewN ?_ _ | refine bl_bx ?_ _ | exact BX.below _ | refine bl_set ?_ (by first | (exact Nat.le_refl _) | (simp; done) | (simp; omega)) _) | assumption))) (by rw [wcells_snoc]; exact HO4.out) HC4.out HW4.out⟩
      case measure => exact HMZ.out
  · have hj : j = 8 * lines - 1 := by have := HJ.out; omega
    have hft : (qfm lines).take j = qfm lines := List.take_of_length_le (by rw [length_qfm]; omega)
    have hS := HS.out
    rw [hft] at hS
    have HS2 := Lib.hid hS
    have HLQ : Hid ((qfm lines).length = j) := by rw [length_qfm]; exact hj.symm
    have hj2 : j < 256 := by omega
    have hj1 : 1 ≤ j := by omega
    have HST5 : Hid (∀ W : World, Calls Tryz.prog 54 #[.slice (some ⟨W.heap.size, 0, none⟩) 1 1] (W.alloc (.cells #[.int .u64 2048, .int .u64 349322958149] 122)) (StoPost (W.alloc (.cells #[.int .u64 2048, .int .u64 349322958149] 122)) (storesP [(2048, 349322958149)]))) := fun W => stQ _ _ 1 1 [(2048, 349322958149)] rfl (by omega) (by omega) (wr_alone _ 2048 349322958149) (by simp) (by simp [starts])
    have HST3 : Hid (Calls Tryz.prog 54 #[.slice A j c] wr (StoPost wr (storesP (qfm lines)))) := stQ _ _ j c (qfm lines) HLQ.out hj1 hj2 HS2.out (fun p hp => by obtain ⟨k, hk, hp1⟩ := qfm_mem hp; rw [hp1]; omega) (starts_qfm lines)
    have HRN4 : Hid (∀ (W : World) (A3 : Option Addr) (c3 : Nat), Sl 144 3 W A3 (storesP (qfm lines)).length c3 (pcells (storesP (qfm lines))) → Below w2.heap.size w2 W → (∀ b, OwnB A3 b → w2.heap.size ≤ b) → Calls Tryz.prog 55 #[.slice A3 (storesP (qfm lines)).length c3, .iface 84 (.pointer (some ⟨t i, 0, none⟩))] W (SrP F d t n (applyW (applyW xs [(2048, 0)]) (qfm lines)) (N + 150) w2)) := fun W A3 c3 h1 h2 h3 =>
     rnQ HD2.out HC2.out (Below.refl _ _) h1 h2 h3 i HI.out (fun p hp => by obtain ⟨k, hk, hp1⟩ := qfm_mem hp; exact ⟨257 + k, by rw [hp1]; omega, by have := HNL.out; omega⟩) (by have := HNL.out; omega) (by have := HLQ.out; omega) (by have := HN.out; omega)
    have HRN6 : Hid (∀ (w4 : World) (S4 : DevS), DV F d t w4 S4 → Clean S4 n (applyW (applyW xs [(2048, 0)]) (qfm lines)) (N + 150) → ∀ (w1 W : World) (A3 : Option Addr) (c3 : Nat), Below w4.heap.size w4 w1 → Sl 144 3 W A3 (storesP [(2048, 349322958149)]).length c3 (pcells (storesP [(2048, 349322958149)])) → Below w1.heap.size w1 W → (∀ b, OwnB A3 b → w1.heap.size ≤ b) → Calls Tryz.prog 55 #[.slice A3 (storesP [(2048, 349322958149)]).length c3, .iface 84 (.pointer (some ⟨t i, 0, none⟩))] W (SrP F d t n (quXs xs lines) (N + 200) w4)) := fun w4 S4 h4 hc4 w1 W A3 c3 h0 h1 h2 h3 =>
     rnQ h4 hc4 h0 h1 h2 h3 i HI.out (fun p hp => ⟨256, by simp at hp; rw [hp]; rfl, by have := HNL.out; omega⟩) (by have := HNL.out; omega) (by simp) (by have := HN.out; omega)
    clear hft hS hj HS
    go_wp2_with (first
     | (go_at_call 54; first
      | ((with_reducible refine (HST3.out).mono ?_); rintro e w3 ⟨A3, c3, rfl, hS3, hB3, hO3⟩; have HS3 := Lib.hid hS3; have HB3 : Hid (Below w2.heap.size w2 w3) := HB.out.trans (hB3.mono HB.out.size); have HO3 : Hid (∀ b, OwnB A3 b → w2.heap.size ≤ b) := (fun b hb => by have h1 := hO3 b hb; have h2 := HB.out.size; omega); clear hS3 hB3 hO3)
      | ((with_reducible refine (HST5.out _).mono ?_); rintro e w5 ⟨A5, c5, rfl, hS5, hB5, hO5⟩; have HS5 := Lib.hid hS5; have HB5 := Lib.hid hB5; have HO5 := Lib.hid hO5; clear hS5 hB5 hO5))
     | (go_at_call 55; first
      | ((with_reducible refine (HRN4.out _ _ _ HS3.out HB3.out HO3.out).mono ?_); rintro e w4 ⟨rfl, ⟨S4, hD4, hC4⟩, hCh4⟩; have HD4 := Lib.hid hD4; have HC4 := Lib.hid hC4; have HCh4 := Lib.hid hCh4; clear hD4 hC4 hCh4)
      | ((with_reducible refine (HRN6.out _ _ HD4.out HC4.out _ _ _ _ (bl_alloc (Below.refl _ _) _) HS5.out HB5.out HO5.out).mono ?_); rintro e w6 ⟨rfl, ⟨S6, hD6, hC6⟩, hCh6⟩; have HD6 := Lib.hid hD6; have HC6 := Lib.hid hC6; have HCh6 := Lib.hid hCh6; clear hD6 hC6 hCh6)))
    exact bodyPost_ret (v := .int .i64 0) (by simp [results, Tryz.results36, go_sem]) rfl ⟨rfl, ⟨S6, HD6.out, HC6.out⟩, (HCh2.out.trans HCh4.out (fun b hb _ => hb)).trans HCh6.out (fun b hb _ => hb)⟩
end
end Go.Proofs.YtaefkelaffijbaaGreatDoor
