/- Programs: their contracts (merged). -/
import Derived.Test.YtngkhligjkcbmaaKo
import Derived.Test.YtngkhligjkcbmaaTrips
import Derived.Laws.StructEq
import Derived.Deep.Upon
import Derived.Lib.AppendZeros
namespace Go.Proofs.Ytngkhligjkcbmaa
open Go.RowKit
set_option linter.unusedVariables false

/-- A program that a call made. -/
def PgPost (et : TypeId) (w : World) (ps : List Ins) (e : Ending) (w' : World) : Prop :=
  ∃ A c, e = .returned (.slice A ps.length c) ∧ Sl et 3 w' A ps.length c (pcells ps) ∧ Below w.heap.size w w' ∧ ∀ b, OwnB A b → w.heap.size ≤ b
def PgInv (et : TypeId) (w : World) (A : Option Addr) (k c : Nat) (ps : List Ins) (wr : World) : Prop :=
  ps.length = k ∧ Sl et 3 wr A k c (pcells ps) ∧ Below w.heap.size w wr ∧ ∀ b, OwnB A b → w.heap.size ≤ b
theorem PgInv.step {et : TypeId} {w wr W w2 : World} {A A2 : Option Addr} {k c c2 : Nat} {ps : List Ins} (p : Ins) (h : PgInv et w A k c ps wr) (hb : Below wr.heap.size wr W) (hO : Sl et 3 w2 A2 (k + 1) c2 (pcells ps ++ [.int .u8 p.1, .int .u64 p.2.1, .int .u64 p.2.2])) (hC : Ch (OwnB A) W w2) (hW : ∀ b, OwnB A2 b → OwnB A b ∨ b = W.heap.size) :
    PgInv et w A2 (k + 1) c2 (ps ++ [p]) w2 := by
  obtain ⟨h1, h2, h3, h4⟩ := h
  have h5 : Below w.heap.size w W := h3.trans (hb.mono h3.size)
  refine ⟨by simp [h1], ?_, bl_ch h5 hC h4, fun b hb' => ?_⟩
  · rw [pcells_append]; exact hO
  · rcases hW b hb' with h | h
    · exact h4 b h
    · rw [h]; exact h5.size
theorem PgInv.post {et : TypeId} {w wr : World} {A : Option Addr} {k c : Nat} {ps : List Ins} (h : PgInv et w A k c ps wr) {e : Ending} (he : e = .returned (.slice A k c)) : PgPost et w ps e wr := by
  obtain ⟨h1, h2, h3, h4⟩ := h
  subst h1
  exact ⟨A, c, he, h2, h3, h4⟩
/-- The program that the law makes of its argument. -/
def progOf (z : List (Int × Int × Int)) : List Ins := (z.take 40).map fun x => (x.1, 8 * (x.2.1 % 32), x.2.2)
def progK (z : List (Int × Int × Int)) (k : Nat) : List Ins := (z.take k).map fun x => (x.1, 8 * (x.2.1 % 32), x.2.2)
theorem progK_succ (z : List (Int × Int × Int)) (k : Nat) (hk : k < z.length) : progK z (k + 1) = progK z k ++ [(z[k].1, 8 * (z[k].2.1 % 32), z[k].2.2)] := by
  unfold progK; rw [List.take_succ_eq_append_getElem hk, List.map_append]; rfl
theorem IsTrips.bx {w w' : World} {A : Option Addr} {len cap : Nat} {z : List (Int × Int × Int)} (h : IsTrips w A len cap z) (hb : Below w.heap.size w w') : IsTrips w' A len cap z := by
  obtain ⟨h1, h2, h3, h4⟩ := h
  refine ⟨h1, h2, h3, fun k hk => ?_⟩
  obtain ⟨b, off, hA, hl, c1, c2, c3, r⟩ := h4 k hk
  exact ⟨b, off, hA, Nat.lt_of_lt_of_le hl hb.size, (hb.cell (p := ⟨b, off + k * 3, none⟩) hl).trans c1, (hb.cell (p := ⟨b, off + k * 3 + 1, none⟩) hl).trans c2, (hb.cell (p := ⟨b, off + k * 3 + 2, none⟩) hl).trans c3, r⟩
def ProgPost (w : World) (ps : List Ins) (e : Ending) (w' : World) : Prop :=
  ∃ A c, e = .returned (.tuple #[.slice A ps.length c, .bool (ps.all insB)]) ∧ Sl 32 3 w' A ps.length c (pcells ps) ∧ Below w.heap.size w w' ∧ ∀ b, OwnB A b → w.heap.size ≤ b

set_option maxRecDepth 100000 in
set_option maxHeartbeats 4000000 in
theorem program10_ok (w : World) (A0 : Option Addr) (n c0 : Nat) (z : List (Int × Int × Int)) (hz : IsTrips w A0 n c0 z) :
    Calls Try.prog 12 #[.slice A0 n c0] w (ProgPost w (progOf z)) := by
  have HZ := Lib.hid hz
  have hn1 : n ≤ 9223372036854775807 := by have := hz.2.1; have := hz.2.2.1; omega
  have HN := Lib.hid hz.1
  clear hz
  go_enter Try.func12, Try.ntmps12
  go_wp2
  have HI0 : Hid (PgInv 32 w none 0 0 (progK z 0) w) := ⟨by simp [progK], Sl.nil, Below.refl _ _, by simp [OwnB]⟩
  go_loopw [8, 2, 3, 4, 5, 9, 10, 11, 12, 13, 14, 15, 16, 17, 18, 19, 20, 21, 22, 23, 24, 25, 26, 27, 28, 29, 30, 31, 32, 33, 34, 35, 36, 37, 38, 39] (fun i p g _ _ _ _ _ _ _ _ _ _ _ _ _ _ _ _ _ _ _ _ _ _ _ _ _ _ _ _ _ _ _ _ _ wr => ∃ (k : Nat) (A : Option Addr) (c : Nat), k ≤ n ∧ k ≤ 40 ∧ i = .int .i64 k ∧ p = .slice A k c ∧ g = .bool ((progK z k).all insB) ∧ PgInv 32 w A k c (progK z k) wr) (fun i _ _ _ _ _ _ _ _ _ _ _ _ _ _ _ _ _ _ _ _ _ _ _ _ _ _ _ _ _ _ _ _ _ _ _ _ => n - (intOf i).toNat)
  case atStart => exact ⟨0, none, 0, by omega, by omega, rfl, rfl, rfl, HI0.out⟩
  case round =>
    clear HI0
    obtain ⟨k, A, c, hk, hk4, rfl, rfl, rfl, hI⟩ := hrel
    have HI := Lib.hid hI
    clear hI
    obtain ⟨gb, hgb⟩ : ∃ gb, (progK z k).all insB = gb := ⟨_, rfl⟩
    have HGB := Lib.hid hgb
    rw [hgb]
    clear hgb
    by_cases hlt : k < n
    · have hkl : k < z.length := by rw [HN.out]; exact hlt
      obtain ⟨b, off, rfl, hbl, c1, c2, c3, r1, r2, r3⟩ := (HZ.out.bx HI.out.2.2.1).2.2.2 k hkl
      obtain ⟨⟨op, wd, v⟩, hp⟩ : ∃ p, z[k] = p := ⟨_, rfl⟩
      rw [hp] at c1 c2 c3 r1 r2 r3
      by_cases h40 : k = 40
      · subst h40
        have hE : progOf z = progK z 40 := rfl
        have HP : Hid (progOf z = progK z 40) := hE
        clear hE hp r1 r2 r3
        go_wp2
        go_ret2
        obtain ⟨i1, i2, i3, i4⟩ := HI.out
        rw [HP.out]
        refine ⟨A, c, by rw [i1, HGB.out]; rfl, by rw [i1]; exact i2.keep (fun b hb => Below.heap_alloc _ _ b (i2.lt hb)), bl_alloc i3 _, i4⟩
      · have h40' : ((k : Int) == 40) = false := by simp; omega
        have r2' : 0 ≤ wd ∧ wd ≤ 255 := r2
        obtain ⟨yq, hyq⟩ : ∃ yq : Int, wd % 32 = yq := ⟨_, rfl⟩
        obtain ⟨o8, ho8⟩ : ∃ o8 : Int, 8 * yq = o8 := ⟨_, rfl⟩
        have ey : IntKind.u64.wrap yq = yq := IntWalk.u64_in _ (by omega)
        have ey8 : IntKind.u8.wrap yq = yq := by rw [IntKind.wrap_u8]; omega
        have e8 : IntKind.u64.wrap (8 * yq) = o8 := by rw [IntWalk.u64_in _ (by omega)]; omega
        have HSU : Hid (progK z (k + 1) = progK z k ++ [(op, o8, v)]) := by
          show _ = _
          rw [progK_succ z k hkl, hp]
          dsimp only
          rw [hyq, ho8]
        have r20 : 0 ≤ wd := r2'.1
        have hk9 : k ≤ 1000 := by omega
        have HR1 := Lib.hid r1
        clear hp r1 r2 r3 r2' ho8
        have HALL : Hid ((progK z (k + 1)).all insB = (gb && (decide (1 ≤ op) && decide (op ≤ 3)))) := by
          show _ = _
          rw [HSU.out, List.all_append, HGB.out]
          simp [insB]
        go_upto_region 7 with (at_builtin; refine wpList_append_sl rfl (.tmp 15) (.tmp 26) 25 rfl 32 (.agg #[.int .u8 0, .int .u64 0, .int .u64 0]) 3 24 rfl (by omega) Try.underlying25 info_instr (by omega) A k c (pcells (progK z k)) ⟨wr.heap.size + 1, 0, none⟩ 1 1 [.int .u8 op, .int .u64 o8, .int .u64 v] rfl rfl ?hsl rfl (by omega) ?hc3 (ins_one _ _ _) (by omega) ?_; (case hsl => exact (HI.out.2.1.keep (fun b hb => Below.heap_alloc _ _ b (HI.out.2.1.lt hb))).keep (fun b hb => Below.heap_alloc _ _ b (by have := HI.out.2.1.lt hb; simp; omega))); (case hc3 => have := cells_three (wr.alloc (.cells #[.int .u8 op, .int .u8 wd, .int .u64 v] 93)) 32 (.int .u8 op) (.int .u64 o8) (.int .u64 v); simpa using this); intro A2 c2' w2 HO2 HC2 HW2 HN2; have K5 : Hid (CB w2 wr.heap.size 93 #[.int .u8 op, .int .u8 wd, .int .u64 v]) := (((CB.new wr 93 #[.int .u8 op, .int .u8 wd, .int .u64 v]).alloc _).ch HC2.out (fun h => by have := HI.out.2.1.lt h; omega)); have K6 : w2.cell? ⟨wr.heap.size, 0, none⟩ = some (.int .u8 op) := K5.out.cell_some rfl; have K7 := K5.out.lt)
        have HB2 : Hid (Below wr.heap.size wr ((wr.alloc (.cells #[.int .u8 op, .int .u8 wd, .int .u64 v] 93)).alloc (.cells #[.int .u8 op, .int .u64 o8, .int .u64 v] 32))) := by show Below _ _ _; (repeat (first | with_reducible exact Below.refl _ _ | with_reducible refine bl_alloc ?_ _ | with_reducible refine bl_drew ?_ | with_reducible refine bl_drewN ?_ _ | with_reducible refine bl_bx ?_ _ | with_reducible exact BX.below _ | with_reducible refine bl_set ?_ (by first | (exact Nat.le_refl _) | (simp; done) | (simp; omega)) _ | assumption))
        have HIN := Lib.hid (HI.out.step (op, o8, v) HB2.out HO2.out HC2.out HW2.out)
        rcases (by cases gb <;> simp <;> omega : gb = false ∨ (gb = true ∧ op < 1) ∨ (gb = true ∧ ¬ op < 1 ∧ 3 < op) ∨ (gb = true ∧ ¬ op < 1 ∧ ¬ 3 < op)) with rfl | ⟨rfl, ho⟩ | ⟨rfl, ho, ho'⟩ | ⟨rfl, ho, ho'⟩
        · go_wp2
          go_roundw
          case rel => exact ⟨k + 1, A2, c2', by omega, by omega, by go_num, rfl, by rw [HALL.out]; rfl, by rw [HSU.out]; exact HIN.out⟩
          case measure => simp [intOf]; omega
        · go_wp2
          go_roundw
          case rel => exact ⟨k + 1, A2, c2', by omega, by omega, by go_num, rfl, by rw [HALL.out]; simp; omega, by rw [HSU.out]; exact HIN.out⟩
          case measure => simp [intOf]; omega
        · go_wp2
          go_roundw
          case rel => exact ⟨k + 1, A2, c2', by omega, by omega, by go_num, rfl, by rw [HALL.out]; simp; omega, by rw [HSU.out]; exact HIN.out⟩
          case measure => simp [intOf]; omega
        · go_wp2
          go_roundw
          case rel => exact ⟨k + 1, A2, c2', by omega, by omega, by go_num, rfl, by rw [HALL.out]; simp; omega, by rw [HSU.out]; exact HIN.out⟩
          case measure => simp [intOf]; omega
    · obtain rfl : k = n := by omega
      have HP : Hid (progOf z = progK z k) := by
        show _ = _
        unfold progOf progK
        rw [List.take_of_length_le (by rw [HN.out]; omega), List.take_of_length_le (by rw [HN.out]; exact Nat.le_refl _)]
      go_wp2
      go_ret2
      obtain ⟨i1, i2, i3, i4⟩ := HI.out
      rw [HP.out]
      exact ⟨A, c, by rw [i1, HGB.out]; rfl, by rw [i1]; exact i2, i3, i4⟩
end Go.Proofs.Ytngkhligjkcbmaa

namespace Go.Proofs.Ytngkhligjkcbmaa
open Go.RowKit
set_option linter.unusedVariables false

theorem Sl.insE {et : TypeId} {w : World} {A : Option Addr} {m c : Nat} {ps : List Ins} (h : Sl et 3 w A m c (pcells ps)) {k : Nat} (hk : k < ps.length) :
    ∃ g off, A = some ⟨g, off, none⟩ ∧ g < w.heap.size ∧ w.cell? ⟨g, off + k * 3, none⟩ = some (.int .u8 ps[k].1) ∧ w.cell? ⟨g, off + k * 3 + 1, none⟩ = some (.int .u64 ps[k].2.1) ∧ w.cell? ⟨g, off + k * 3 + 2, none⟩ = some (.int .u64 ps[k].2.2) := by
  obtain ⟨e1, e2, e3⟩ := pcells_get ps k hk
  obtain ⟨g, off, hA, hl, _⟩ := h.at_ (j := k * 3) (by rw [length_pcells]; omega)
  have c1 := h.cells _ hA _ _ e1
  have c2 := h.cells _ hA _ _ e2
  have c3 := h.cells _ hA _ _ e3
  have h1 : ∀ j, (⟨g, off, none⟩ : Addr).add j = ⟨g, off + j, none⟩ := by intro j; unfold Addr.add; split <;> simp_all
  rw [h1] at c1 c2 c3
  exact ⟨g, off, hA, hl, c1, c2, c3⟩
theorem info_instrR : (Try.prog.info? 101).map (fun i => (i.zero, i.size, i.bytes)) = some (some (.agg #[.int .u8 0, .int .u64 0, .int .u64 0]), 3, 24) := by kernel_rfl

set_option maxRecDepth 100000 in
set_option maxHeartbeats 4000000 in
theorem plain10_ok (w : World) (A0 : Option Addr) (n c0 : Nat) (ps : List Ins) (hn : ps.length = n) (hnb : n ≤ 100000) (hS : Sl 32 3 w A0 n c0 (pcells ps)) :
    Calls Try.prog 15 #[.slice A0 n c0] w (PgPost 101 w ps) := by
  have HN := Lib.hid hn
  have HS := Lib.hid hS
  clear hn hS
  go_enter Try.func15, Try.ntmps15
  go_wp2
  have HI0 : Hid (PgInv 101 w none 0 0 (ps.take 0) w) := ⟨by simp, Sl.nil, Below.refl _ _, by simp [OwnB]⟩
  go_loopw [8, 3, 5, 9, 10, 11, 12, 13, 14, 15, 16, 17, 18, 19, 20, 21, 22] (fun i p _ _ _ _ _ _ _ _ _ _ _ _ _ _ _ wr => ∃ (k : Nat) (A : Option Addr) (c : Nat), k ≤ n ∧ i = .int .i64 k ∧ p = .slice A k c ∧ PgInv 101 w A k c (ps.take k) wr) (fun i p _ _ _ _ _ _ _ _ _ _ _ _ _ _ _ _ => n - (intOf i).toNat)
  case atStart => exact ⟨0, none, 0, by omega, rfl, rfl, HI0.out⟩
  case round =>
    clear HI0
    obtain ⟨k, A, c, hk, rfl, rfl, hI⟩ := hrel
    have HI := Lib.hid hI
    clear hI
    by_cases hlt : k < n
    · have hkl : k < ps.length := by rw [HN.out]; exact hlt
      obtain ⟨b, off, rfl, hbl, c1, c2, c3⟩ := (HS.out.keep (w' := wr) (fun b hb => HI.out.2.2.1.block b (HS.out.lt hb))).insE hkl
      obtain ⟨⟨op, o8, v⟩, hp⟩ : ∃ p, ps[k] = p := ⟨_, rfl⟩
      rw [hp] at c1 c2 c3
      have HSU : Hid (ps.take (k + 1) = ps.take k ++ [(op, o8, v)]) := by
        show _ = _
        rw [List.take_succ_eq_append_getElem hkl, hp]
      clear hp
      go_wp2_with (at_builtin; refine wpList_append_sl rfl (.tmp 12) (.tmp 20) 37 rfl 101 (.agg #[.int .u8 0, .int .u64 0, .int .u64 0]) 3 24 rfl (by omega) Try.underlying37 info_instrR (by omega) A k c (pcells (ps.take k)) ⟨wr.heap.size + 1, 0, none⟩ 1 1 [.int .u8 op, .int .u64 o8, .int .u64 v] rfl rfl ?hsl rfl (by omega) ?hc3 (ins_one _ _ _) (by omega) ?_; (case hsl => exact (HI.out.2.1.keep (fun b hb => Below.heap_alloc _ _ b (HI.out.2.1.lt hb))).keep (fun b hb => Below.heap_alloc _ _ b (by have := HI.out.2.1.lt hb; simp; omega))); (case hc3 => have := cells_three (wr.alloc (.cells #[.int .u8 op, .int .u64 o8, .int .u64 v] 32)) 101 (.int .u8 op) (.int .u64 o8) (.int .u64 v); simpa using this); intro A2 c2' w2 HO2 HC2 HW2 HN2)
      have HB2 : Hid (Below wr.heap.size wr ((wr.alloc (.cells #[.int .u8 op, .int .u64 o8, .int .u64 v] 32)).alloc (.cells #[.int .u8 op, .int .u64 o8, .int .u64 v] 101))) := by show Below _ _ _; (repeat (first | with_reducible exact Below.refl _ _ | with_reducible refine bl_alloc ?_ _ | with_reducible refine bl_drew ?_ | with_reducible refine bl_drewN ?_ _ | with_reducible refine bl_bx ?_ _ | with_reducible exact BX.below _ | with_reducible refine bl_set ?_ (by first | (exact Nat.le_refl _) | (simp; done) | (simp; omega)) _ | assumption))
      have HIN := Lib.hid (HI.out.step (op, o8, v) HB2.out HO2.out HC2.out HW2.out)
      refine ⟨⟨k + 1, A2, c2', by omega, by go_num, rfl, by rw [HSU.out]; exact HIN.out⟩, by simp [intOf]; omega⟩
    · obtain rfl : k = n := by omega
      have HP : Hid (ps.take k = ps) := List.take_of_length_le (by rw [HN.out]; exact Nat.le_refl _)
      go_wp2
      go_ret
      have := HI.out
      rw [HP.out] at this
      exact this.post rfl

set_option maxRecDepth 100000 in
set_option maxHeartbeats 4000000 in
theorem pgFences_ok (w : World) (A0 : Option Addr) (n c0 : Nat) (ps : List Ins) (hn : ps.length = n) (hnb : n ≤ 100000) (hS : Sl 32 3 w A0 n c0 (pcells ps)) :
    Calls Try.prog 14 #[.slice A0 n c0] w fun e w' => e = .returned (.int .i64 (ps.countP (fun p => p.1 == 3) : Nat)) ∧ Below w.heap.size w w' := by
  have HN := Lib.hid hn
  have HS := Lib.hid hS
  clear hn hS
  go_enter Try.func14, Try.ntmps14
  go_wp2
  go_loopw [8, 3, 5, 9, 10, 11, 12, 13, 14, 15, 16, 17] (fun i m _ _ _ _ _ _ _ _ _ _ wr => ∃ (k q : Nat), k ≤ n ∧ i = .int .i64 k ∧ m = .int .i64 q ∧ q ≤ k ∧ (ps.take k).countP (fun p => p.1 == 3) = q ∧ Below w.heap.size w wr) (fun i m _ _ _ _ _ _ _ _ _ _ _ => n - (intOf i).toNat)
  case atStart => exact ⟨0, 0, by omega, rfl, rfl, by omega, by simp, Below.refl _ _⟩
  case round =>
    obtain ⟨k, q, hk, rfl, rfl, hqk, hq, hB⟩ := hrel
    have HB := Lib.hid hB
    have HQ := Lib.hid hq
    clear hB hq
    by_cases hlt : k < n
    · have hkl : k < ps.length := by rw [HN.out]; exact hlt
      obtain ⟨b, off, rfl, hbl, c1, c2, c3⟩ := (HS.out.keep (w' := wr) (fun b hb => HB.out.block b (HS.out.lt hb))).insE hkl
      obtain ⟨⟨op, o8, v⟩, hp⟩ : ∃ p, ps[k] = p := ⟨_, rfl⟩
      rw [hp] at c1 c2 c3
      have HSU : Hid ((ps.take (k + 1)).countP (fun p => p.1 == 3) = q + if op == 3 then 1 else 0) := by
        show _ = _
        rw [List.take_succ_eq_append_getElem hkl, hp, List.countP_append, HQ.out]
        simp [List.countP_cons]
      clear hp
      by_cases h3 : op = 3
      · have h3' : (op == 3) = true := by simpa using h3
        rw [h3'] at HSU
        clear h3
        go_wp2
        go_roundw
        case rel => exact ⟨k + 1, q + 1, by omega, by go_num, by go_num, by omega, by rw [HSU.out]; rfl, by have := HB.out; (repeat (first | with_reducible exact Below.refl _ _ | with_reducible refine bl_alloc ?_ _ | with_reducible refine bl_drew ?_ | with_reducible refine bl_drewN ?_ _ | with_reducible refine bl_bx ?_ _ | with_reducible exact BX.below _ | with_reducible refine bl_set ?_ (by first | (exact Nat.le_refl _) | (simp; done) | (simp; omega)) _ | assumption))⟩
        case measure => simp [intOf]; omega
      · have h3' : (op == 3) = false := by simpa using h3
        rw [h3'] at HSU
        clear h3
        go_wp2
        go_roundw
        case rel => exact ⟨k + 1, q, by omega, by go_num, rfl, by omega, by rw [HSU.out]; rfl, by have := HB.out; (repeat (first | with_reducible exact Below.refl _ _ | with_reducible refine bl_alloc ?_ _ | with_reducible refine bl_drew ?_ | with_reducible refine bl_drewN ?_ _ | with_reducible refine bl_bx ?_ _ | with_reducible exact BX.below _ | with_reducible refine bl_set ?_ (by first | (exact Nat.le_refl _) | (simp; done) | (simp; omega)) _ | assumption))⟩
        case measure => simp [intOf]; omega
    · obtain rfl : k = n := by omega
      have HP : Hid (ps.take k = ps) := List.take_of_length_le (by rw [HN.out]; exact Nat.le_refl _)
      rw [HP.out] at HQ
      go_wp2
      go_ret
      rw [HQ.out]
      exact ⟨rfl, HB.out⟩

/-- A program without a fence. -/
def withoutP (ps : List Ins) (f : Int) : List Ins := (ps.foldl (fun (s : List Ins × Nat) p => if p.1 = 3 then (if (s.2 : Int) = f then (s.1, s.2 + 1) else (s.1 ++ [p], s.2 + 1)) else (s.1 ++ [p], s.2)) ([], 0)).1
def woS (ps : List Ins) (f : Int) : List Ins × Nat := ps.foldl (fun (s : List Ins × Nat) p => if p.1 = 3 then (if (s.2 : Int) = f then (s.1, s.2 + 1) else (s.1 ++ [p], s.2 + 1)) else (s.1 ++ [p], s.2)) ([], 0)
theorem woS_snoc (ps : List Ins) (f : Int) (p : Ins) : woS (ps ++ [p]) f = if p.1 = 3 then (if ((woS ps f).2 : Int) = f then ((woS ps f).1, (woS ps f).2 + 1) else ((woS ps f).1 ++ [p], (woS ps f).2 + 1)) else ((woS ps f).1 ++ [p], (woS ps f).2) := by unfold woS; rw [List.foldl_append]; rfl
set_option maxRecDepth 100000 in
set_option maxHeartbeats 4000000 in
theorem pgWithout_ok (w : World) (A0 : Option Addr) (n c0 : Nat) (ps : List Ins) (fx : Int) (hn : ps.length = n) (hnb : n ≤ 100000) (hS : Sl 32 3 w A0 n c0 (pcells ps)) :
    Calls Try.prog 17 #[.slice A0 n c0, .int .i64 fx] w (PgPost 32 w (withoutP ps fx)) := by
  have HN := Lib.hid hn
  have HS := Lib.hid hS
  clear hn hS
  go_enter Try.func17, Try.ntmps17
  go_wp2
  have HI0 : Hid (PgInv 32 w none 0 0 (woS (ps.take 0) fx).1 w) := ⟨by simp [woS], by simpa [woS, pcells] using Sl.nil, Below.refl _ _, by simp [OwnB]⟩
  go_loopw [11, 5, 6, 8, 12, 13, 14, 15, 16, 17, 18, 19, 20, 21, 22, 23, 24, 25, 26, 27, 28] (fun i q m _ _ _ _ _ _ _ _ _ _ _ _ _ _ _ _ _ _ wr => ∃ (k : Nat) (A : Option Addr) (c j x : Nat), k ≤ n ∧ i = .int .i64 k ∧ q = .slice A j c ∧ m = .int .i64 x ∧ j ≤ k ∧ x ≤ k ∧ (woS (ps.take k) fx).2 = x ∧ PgInv 32 w A j c (woS (ps.take k) fx).1 wr) (fun i q m _ _ _ _ _ _ _ _ _ _ _ _ _ _ _ _ _ _ _ => n - (intOf i).toNat)
  case atStart => exact ⟨0, none, 0, 0, 0, by omega, rfl, rfl, rfl, by omega, by omega, by simp [woS], HI0.out⟩
  case round =>
    clear HI0
    obtain ⟨k, A, c, j, x, hk, rfl, rfl, rfl, hj, hx, hx2, hI⟩ := hrel
    have HI := Lib.hid hI
    have HX := Lib.hid hx2
    clear hI hx2
    by_cases hlt : k < n
    · have hkl : k < ps.length := by rw [HN.out]; exact hlt
      obtain ⟨b, off, rfl, hbl, c1, c2, c3⟩ := (HS.out.keep (w' := wr) (fun b hb => HI.out.2.2.1.block b (HS.out.lt hb))).insE hkl
      obtain ⟨⟨op, o8, v⟩, hp⟩ : ∃ p, ps[k] = p := ⟨_, rfl⟩
      rw [hp] at c1 c2 c3
      have HSU : Hid (woS (ps.take (k + 1)) fx = if op = 3 then (if (x : Int) = fx then ((woS (ps.take k) fx).1, x + 1) else ((woS (ps.take k) fx).1 ++ [(op, o8, v)], x + 1)) else ((woS (ps.take k) fx).1 ++ [(op, o8, v)], x)) := by
        show _ = _
        rw [List.take_succ_eq_append_getElem hkl, hp, woS_snoc, HX.out]
      have hxk : x ≤ 100000 := by omega
      clear hp
      obtain ⟨qs, hqs⟩ : ∃ qs, (woS (ps.take k) fx).1 = qs := ⟨_, rfl⟩
      rw [hqs] at HI HSU
      clear hqs
      by_cases h3 : op = 3
      · have h3' : (op == 3) = true := by simpa using h3
        have HSU1 : Hid (woS (ps.take (k + 1)) fx = if (x : Int) = fx then (qs, x + 1) else (qs ++ [(op, o8, v)], x + 1)) := by show _ = _; rw [HSU.out, if_pos h3]
        clear h3 HSU
        by_cases hf : (x : Int) = fx
        · have HSU2 : Hid (woS (ps.take (k + 1)) fx = (qs, x + 1)) := by show _ = _; rw [HSU1.out, if_pos hf]
          have hf' : ((x : Int) == fx) = true := by simpa using hf
          clear HSU1 hf
          go_wp2
          go_roundw
          case rel => exact ⟨k + 1, A, c, j, x + 1, by omega, by go_num, rfl, by go_num, by omega, by omega, by rw [HSU2.out], by
            rw [HSU2.out]
            obtain ⟨i1, i2, i3, i4⟩ := HI.out
            exact ⟨i1, i2.keep (fun b hb => Below.heap_alloc _ _ b (i2.lt hb)), bl_alloc i3 _, i4⟩⟩
          case measure => simp [intOf]; omega
        · have HSU2 : Hid (woS (ps.take (k + 1)) fx = (qs ++ [(op, o8, v)], x + 1)) := by show _ = _; rw [HSU1.out, if_neg hf]
          have hf' : ((x : Int) == fx) = false := by simpa using hf
          clear HSU1 hf
          go_wp2_with (at_builtin; refine wpList_append_sl rfl (.tmp 24) (.tmp 26) 25 rfl 32 (.agg #[.int .u8 0, .int .u64 0, .int .u64 0]) 3 24 rfl (by omega) Try.underlying25 info_instr (by omega) A j c (pcells qs) ⟨wr.heap.size + 1, 0, none⟩ 1 1 [.int .u8 op, .int .u64 o8, .int .u64 v] rfl rfl ?hsl rfl (by omega) ?hc3 (ins_one _ _ _) (by omega) ?_; (case hsl => exact (HI.out.2.1.keep (fun b hb => Below.heap_alloc _ _ b (HI.out.2.1.lt hb))).keep (fun b hb => Below.heap_alloc _ _ b (by have := HI.out.2.1.lt hb; simp; omega))); (case hc3 => have := cells_three (wr.alloc (.cells #[.int .u8 op, .int .u64 o8, .int .u64 v] 32)) 32 (.int .u8 op) (.int .u64 o8) (.int .u64 v); simpa using this); intro A2 c2' w2 HO2 HC2 HW2 HN2)
          have HB2 : Hid (Below wr.heap.size wr ((wr.alloc (.cells #[.int .u8 op, .int .u64 o8, .int .u64 v] 32)).alloc (.cells #[.int .u8 op, .int .u64 o8, .int .u64 v] 32))) := by show Below _ _ _; (repeat (first | with_reducible exact Below.refl _ _ | with_reducible refine bl_alloc ?_ _ | with_reducible refine bl_drew ?_ | with_reducible refine bl_drewN ?_ _ | with_reducible refine bl_bx ?_ _ | with_reducible exact BX.below _ | with_reducible refine bl_set ?_ (by first | (exact Nat.le_refl _) | (simp; done) | (simp; omega)) _ | assumption))
          have HIN := Lib.hid (HI.out.step (op, o8, v) HB2.out HO2.out HC2.out HW2.out)
          refine ⟨⟨k + 1, A2, c2', j + 1, x + 1, by omega, by go_num, rfl, by go_num, by omega, by omega, by rw [HSU2.out], by rw [HSU2.out]; exact HIN.out⟩, by simp [intOf]; omega⟩
      · have h3' : (op == 3) = false := by simpa using h3
        have HSU2 : Hid (woS (ps.take (k + 1)) fx = (qs ++ [(op, o8, v)], x)) := by show _ = _; rw [HSU.out, if_neg h3]
        clear h3 HSU
        go_wp2_with (at_builtin; refine wpList_append_sl rfl (.tmp 24) (.tmp 26) 25 rfl 32 (.agg #[.int .u8 0, .int .u64 0, .int .u64 0]) 3 24 rfl (by omega) Try.underlying25 info_instr (by omega) A j c (pcells qs) ⟨wr.heap.size + 1, 0, none⟩ 1 1 [.int .u8 op, .int .u64 o8, .int .u64 v] rfl rfl ?hsl rfl (by omega) ?hc3 (ins_one _ _ _) (by omega) ?_; (case hsl => exact (HI.out.2.1.keep (fun b hb => Below.heap_alloc _ _ b (HI.out.2.1.lt hb))).keep (fun b hb => Below.heap_alloc _ _ b (by have := HI.out.2.1.lt hb; simp; omega))); (case hc3 => have := cells_three (wr.alloc (.cells #[.int .u8 op, .int .u64 o8, .int .u64 v] 32)) 32 (.int .u8 op) (.int .u64 o8) (.int .u64 v); simpa using this); intro A2 c2' w2 HO2 HC2 HW2 HN2)
        have HB2 : Hid (Below wr.heap.size wr ((wr.alloc (.cells #[.int .u8 op, .int .u64 o8, .int .u64 v] 32)).alloc (.cells #[.int .u8 op, .int .u64 o8, .int .u64 v] 32))) := by show Below _ _ _; (repeat (first | with_reducible exact Below.refl _ _ | with_reducible refine bl_alloc ?_ _ | with_reducible refine bl_drew ?_ | with_reducible refine bl_drewN ?_ _ | with_reducible refine bl_bx ?_ _ | with_reducible exact BX.below _ | with_reducible refine bl_set ?_ (by first | (exact Nat.le_refl _) | (simp; done) | (simp; omega)) _ | assumption))
        have HIN := Lib.hid (HI.out.step (op, o8, v) HB2.out HO2.out HC2.out HW2.out)
        refine ⟨⟨k + 1, A2, c2', j + 1, x, by omega, by go_num, rfl, rfl, by omega, by omega, by rw [HSU2.out], by rw [HSU2.out]; exact HIN.out⟩, by simp [intOf]; omega⟩
    · obtain rfl : k = n := by omega
      have HP : Hid (ps.take k = ps) := List.take_of_length_le (by rw [HN.out]; exact Nat.le_refl _)
      go_wp2
      go_ret
      have := HI.out
      rw [HP.out] at this
      exact this.post rfl
set_option maxRecDepth 100000 in
set_option maxHeartbeats 4000000 in
theorem refWithout10_ok (w : World) (A0 : Option Addr) (n c0 : Nat) (ps : List Ins) (fx : Int) (hn : ps.length = n) (hnb : n ≤ 100000) (hS : Sl 101 3 w A0 n c0 (pcells ps)) :
    Calls Try.prog 18 #[.slice A0 n c0, .int .i64 fx] w (PgPost 101 w (withoutP ps fx)) := by
  have HN := Lib.hid hn
  have HS := Lib.hid hS
  clear hn hS
  go_enter Try.func18, Try.ntmps18
  go_wp2
  have HI0 : Hid (PgInv 101 w none 0 0 (woS (ps.take 0) fx).1 w) := ⟨by simp [woS], by simpa [woS, pcells] using Sl.nil, Below.refl _ _, by simp [OwnB]⟩
  go_loopw [11, 5, 6, 8, 12, 13, 14, 15, 16, 17, 18, 19, 20, 21, 22, 23, 24, 25, 26, 27, 28] (fun i q m _ _ _ _ _ _ _ _ _ _ _ _ _ _ _ _ _ _ wr => ∃ (k : Nat) (A : Option Addr) (c j x : Nat), k ≤ n ∧ i = .int .i64 k ∧ q = .slice A j c ∧ m = .int .i64 x ∧ j ≤ k ∧ x ≤ k ∧ (woS (ps.take k) fx).2 = x ∧ PgInv 101 w A j c (woS (ps.take k) fx).1 wr) (fun i q m _ _ _ _ _ _ _ _ _ _ _ _ _ _ _ _ _ _ _ => n - (intOf i).toNat)
  case atStart => exact ⟨0, none, 0, 0, 0, by omega, rfl, rfl, rfl, by omega, by omega, by simp [woS], HI0.out⟩
  case round =>
    clear HI0
    obtain ⟨k, A, c, j, x, hk, rfl, rfl, rfl, hj, hx, hx2, hI⟩ := hrel
    have HI := Lib.hid hI
    have HX := Lib.hid hx2
    clear hI hx2
    by_cases hlt : k < n
    · have hkl : k < ps.length := by rw [HN.out]; exact hlt
      obtain ⟨b, off, rfl, hbl, c1, c2, c3⟩ := (HS.out.keep (w' := wr) (fun b hb => HI.out.2.2.1.block b (HS.out.lt hb))).insE hkl
      obtain ⟨⟨op, o8, v⟩, hp⟩ : ∃ p, ps[k] = p := ⟨_, rfl⟩
      rw [hp] at c1 c2 c3
      have HSU : Hid (woS (ps.take (k + 1)) fx = if op = 3 then (if (x : Int) = fx then ((woS (ps.take k) fx).1, x + 1) else ((woS (ps.take k) fx).1 ++ [(op, o8, v)], x + 1)) else ((woS (ps.take k) fx).1 ++ [(op, o8, v)], x)) := by
        show _ = _
        rw [List.take_succ_eq_append_getElem hkl, hp, woS_snoc, HX.out]
      have hxk : x ≤ 100000 := by omega
      clear hp
      obtain ⟨qs, hqs⟩ : ∃ qs, (woS (ps.take k) fx).1 = qs := ⟨_, rfl⟩
      rw [hqs] at HI HSU
      clear hqs
      by_cases h3 : op = 3
      · have h3' : (op == 3) = true := by simpa using h3
        have HSU1 : Hid (woS (ps.take (k + 1)) fx = if (x : Int) = fx then (qs, x + 1) else (qs ++ [(op, o8, v)], x + 1)) := by show _ = _; rw [HSU.out, if_pos h3]
        clear h3 HSU
        by_cases hf : (x : Int) = fx
        · have HSU2 : Hid (woS (ps.take (k + 1)) fx = (qs, x + 1)) := by show _ = _; rw [HSU1.out, if_pos hf]
          have hf' : ((x : Int) == fx) = true := by simpa using hf
          clear HSU1 hf
          go_wp2
          go_roundw
          case rel => exact ⟨k + 1, A, c, j, x + 1, by omega, by go_num, rfl, by go_num, by omega, by omega, by rw [HSU2.out], by
            rw [HSU2.out]
            obtain ⟨i1, i2, i3, i4⟩ := HI.out
            exact ⟨i1, i2.keep (fun b hb => Below.heap_alloc _ _ b (i2.lt hb)), bl_alloc i3 _, i4⟩⟩
          case measure => simp [intOf]; omega
        · have HSU2 : Hid (woS (ps.take (k + 1)) fx = (qs ++ [(op, o8, v)], x + 1)) := by show _ = _; rw [HSU1.out, if_neg hf]
          have hf' : ((x : Int) == fx) = false := by simpa using hf
          clear HSU1 hf
          go_wp2_with (at_builtin; refine wpList_append_sl rfl (.tmp 24) (.tmp 26) 37 rfl 101 (.agg #[.int .u8 0, .int .u64 0, .int .u64 0]) 3 24 rfl (by omega) Try.underlying37 info_instrR (by omega) A j c (pcells qs) ⟨wr.heap.size + 1, 0, none⟩ 1 1 [.int .u8 op, .int .u64 o8, .int .u64 v] rfl rfl ?hsl rfl (by omega) ?hc3 (ins_one _ _ _) (by omega) ?_; (case hsl => exact (HI.out.2.1.keep (fun b hb => Below.heap_alloc _ _ b (HI.out.2.1.lt hb))).keep (fun b hb => Below.heap_alloc _ _ b (by have := HI.out.2.1.lt hb; simp; omega))); (case hc3 => have := cells_three (wr.alloc (.cells #[.int .u8 op, .int .u64 o8, .int .u64 v] 101)) 101 (.int .u8 op) (.int .u64 o8) (.int .u64 v); simpa using this); intro A2 c2' w2 HO2 HC2 HW2 HN2)
          have HB2 : Hid (Below wr.heap.size wr ((wr.alloc (.cells #[.int .u8 op, .int .u64 o8, .int .u64 v] 101)).alloc (.cells #[.int .u8 op, .int .u64 o8, .int .u64 v] 101))) := by show Below _ _ _; (repeat (first | with_reducible exact Below.refl _ _ | with_reducible refine bl_alloc ?_ _ | with_reducible refine bl_drew ?_ | with_reducible refine bl_drewN ?_ _ | with_reducible refine bl_bx ?_ _ | with_reducible exact BX.below _ | with_reducible refine bl_set ?_ (by first | (exact Nat.le_refl _) | (simp; done) | (simp; omega)) _ | assumption))
          have HIN := Lib.hid (HI.out.step (op, o8, v) HB2.out HO2.out HC2.out HW2.out)
          refine ⟨⟨k + 1, A2, c2', j + 1, x + 1, by omega, by go_num, rfl, by go_num, by omega, by omega, by rw [HSU2.out], by rw [HSU2.out]; exact HIN.out⟩, by simp [intOf]; omega⟩
      · have h3' : (op == 3) = false := by simpa using h3
        have HSU2 : Hid (woS (ps.take (k + 1)) fx = (qs ++ [(op, o8, v)], x)) := by show _ = _; rw [HSU.out, if_neg h3]
        clear h3 HSU
        go_wp2_with (at_builtin; refine wpList_append_sl rfl (.tmp 24) (.tmp 26) 37 rfl 101 (.agg #[.int .u8 0, .int .u64 0, .int .u64 0]) 3 24 rfl (by omega) Try.underlying37 info_instrR (by omega) A j c (pcells qs) ⟨wr.heap.size + 1, 0, none⟩ 1 1 [.int .u8 op, .int .u64 o8, .int .u64 v] rfl rfl ?hsl rfl (by omega) ?hc3 (ins_one _ _ _) (by omega) ?_; (case hsl => exact (HI.out.2.1.keep (fun b hb => Below.heap_alloc _ _ b (HI.out.2.1.lt hb))).keep (fun b hb => Below.heap_alloc _ _ b (by have := HI.out.2.1.lt hb; simp; omega))); (case hc3 => have := cells_three (wr.alloc (.cells #[.int .u8 op, .int .u64 o8, .int .u64 v] 101)) 101 (.int .u8 op) (.int .u64 o8) (.int .u64 v); simpa using this); intro A2 c2' w2 HO2 HC2 HW2 HN2)
        have HB2 : Hid (Below wr.heap.size wr ((wr.alloc (.cells #[.int .u8 op, .int .u64 o8, .int .u64 v] 101)).alloc (.cells #[.int .u8 op, .int .u64 o8, .int .u64 v] 101))) := by show Below _ _ _; (repeat (first | with_reducible exact Below.refl _ _ | with_reducible refine bl_alloc ?_ _ | with_reducible refine bl_drew ?_ | with_reducible refine bl_drewN ?_ _ | with_reducible refine bl_bx ?_ _ | with_reducible exact BX.below _ | with_reducible refine bl_set ?_ (by first | (exact Nat.le_refl _) | (simp; done) | (simp; omega)) _ | assumption))
        have HIN := Lib.hid (HI.out.step (op, o8, v) HB2.out HO2.out HC2.out HW2.out)
        refine ⟨⟨k + 1, A2, c2', j + 1, x, by omega, by go_num, rfl, rfl, by omega, by omega, by rw [HSU2.out], by rw [HSU2.out]; exact HIN.out⟩, by simp [intOf]; omega⟩
    · obtain rfl : k = n := by omega
      have HP : Hid (ps.take k = ps) := List.take_of_length_le (by rw [HN.out]; exact Nat.le_refl _)
      go_wp2
      go_ret
      have := HI.out
      rw [HP.out] at this
      exact this.post rfl
end Go.Proofs.Ytngkhligjkcbmaa

namespace Go.Proofs.Ytngkhligjkcbmaa
open Go.RowKit
set_option linter.unusedVariables false

theorem gI : Try.prog.eqGuardType Try.prog.depth 101 = false := by kernel_rfl
theorem gW : Try.prog.eqGuardType Try.prog.depth 34 = false := by kernel_rfl
theorem neqI (a b c : Int) (w : World) : (binOp .neq 101 (.agg #[.int .u8 a, .int .u64 b, .int .u64 c]) (.agg #[.int .u8 a, .int .u64 b, .int .u64 c])).run Try.prog w = .ok (.bool false) w := by
  have u5 := Try.underlying5
  have u30 := Try.underlying30
  have a5 := Try.isAgg5
  have z5 := Try.sizeOf5
  have a30 := Try.isAgg30
  have z30 := Try.sizeOf30
  have hS : Try.prog.underlying 101 = some (.struct (Try.prog.fieldsOf 101)) := by kernel_rfl
  have hp : Try.prog.stoodInHeld 101 = false := by kernel_rfl
  rw [run_neq_struct, show (10000 : Nat) = 9999 + 1 from rfl, run_equalIn_agg w 9999 101 _ _ hS hp]
  simp only [Program.fieldsOf, Try.underlying101]
  go_simp
theorem neqW (a b c d : Int) (w : World) : (binOp .neq 34 (.agg #[.int .u64 a, .int .u64 b]) (.agg #[.int .u64 c, .int .u64 d])).run Try.prog w = .ok (.bool (!((a == c) && (b == d)))) w := by
  have u30 := Try.underlying30
  have a30 := Try.isAgg30
  have z30 := Try.sizeOf30
  have hS : Try.prog.underlying 34 = some (.struct (Try.prog.fieldsOf 34)) := by kernel_rfl
  have hp : Try.prog.stoodInHeld 34 = false := by kernel_rfl
  rw [run_neq_struct, show (10000 : Nat) = 9999 + 1 from rfl, run_equalIn_agg w 9999 34 _ _ hS hp]
  simp only [Program.fieldsOf, Try.underlying34]
  go_simp
  by_cases h1 : a = c <;> by_cases h2 : b = d <;> simp [h1, h2]

set_option maxRecDepth 100000 in
set_option maxHeartbeats 4000000 in
theorem refSame10_ok (w : World) (A1 A2 : Option Addr) (n c1 c2 : Nat) (ps : List Ins) (hn : ps.length = n) (hnb : n ≤ 100000) (h1 : Sl 101 3 w A1 n c1 (pcells ps)) (h2 : Sl 101 3 w A2 n c2 (pcells ps)) :
    Calls Try.prog 16 #[.slice A1 n c1, .slice A2 n c2] w fun e w' => e = .returned (.bool true) ∧ ∃ m, w' = w.drewN m := by
  have HN := Lib.hid hn
  have H1 := Lib.hid h1
  have H2 := Lib.hid h2
  have hgI := gI
  have hnI := neqI
  clear hn h1 h2
  go_enter Try.func16, Try.ntmps16
  go_wp2
  go_loopw [13, 4, 5, 14, 15, 16, 17, 18, 19, 20, 21, 22, 23, 24, 25] (fun i _ _ _ _ _ _ _ _ _ _ _ _ _ _ wr => ∃ (k m : Nat), k ≤ n ∧ i = .int .i64 k ∧ w.drewN m = wr) (fun i _ _ _ _ _ _ _ _ _ _ _ _ _ _ _ => n - (intOf i).toNat)
  case atStart => exact ⟨0, 0, by omega, rfl, rfl⟩
  case round =>
    obtain ⟨k, m, hk, rfl, hw⟩ := hrel
    have HW := Lib.hid hw
    by_cases hlt : k < n
    · have hkl : k < ps.length := by rw [HN.out]; exact hlt
      obtain ⟨b1, o1, rfl, hb1, x1, x2, x3⟩ := (H1.out.keep (w' := wr) (fun b hb => by rw [← hw]; rfl)).insE hkl
      obtain ⟨b2, o2, rfl, hb2, y1, y2, y3⟩ := (H2.out.keep (w' := wr) (fun b hb => by rw [← hw]; rfl)).insE hkl
      obtain ⟨⟨op, o8, v⟩, hp⟩ : ∃ p, ps[k] = p := ⟨_, rfl⟩
      rw [hp] at x1 x2 x3 y1 y2 y3
      clear hp hw
      go_wp2
      go_quiet (fail)
      go_wp2
      go_roundw
      case rel => exact ⟨k + 1, m + nq, by omega, by go_num, by rw [← HW.out, World.drewN_drewN]⟩
      case measure => simp [intOf]; omega
    · clear hw
      go_wp2
      go_ret
      exact ⟨rfl, m, HW.out.symm⟩
end Go.Proofs.Ytngkhligjkcbmaa

namespace Go.Proofs.Ytngkhligjkcbmaa
open Go.RowKit
set_option linter.unusedVariables false

/-- append of a slice of whatever length. -/
theorem run_append_sl2 {P : Program} (w : World) (t ty e : TypeId) (zv : Value) (size by_ : Nat) (hzs : zv.cells.size = size) (hsz : 0 < size) (ht : P.underlying t = some (.slice e)) (hinfo : (P.info? e).map (fun i => (i.zero, i.size, i.bytes)) = some (some zv, size, by_)) (hby : by_ ≤ 64)
    (A : Option Addr) (n c : Nat) (xs : List Value) (hown : Sl e size w A n c xs) (B : Option Addr) (m d : Nat) (ys : List Value) (hsrc : Sl e size w B m d ys) (hf : ∀ u ∈ ys, u.oneCell' = true) (hbound : n + m ≤ 1000000000) :
    ∃ A' c' w', (Builtin.append_ #[t, t] ty #[.slice A n c, .slice B m d]).run P w = .ok (.slice A' (n + m) c') w' ∧ Sl e size w' A' (n + m) c' (xs ++ ys) ∧ Ch (OwnB A) w w' ∧ (∀ b, OwnB A' b → OwnB A b ∨ b = w.heap.size) := by
  have hnc : n ≤ c := by
    rcases hown.2 with ⟨_, h1, h2⟩ | ⟨_, _, _, _, _, h, _⟩
    · omega
    · exact h
  rcases Nat.eq_zero_or_pos m with rfl | hm0
  · have hys : ys = [] := List.eq_nil_of_length_eq_zero (by have := hsrc.1; simpa using this)
    subst hys
    cases hi : P.info? e with
    | none => rw [hi] at hinfo; cases hinfo
    | some i =>
      have hs : Src P i.size t (.slice B 0 d) 0 [] w := by
        cases B with
        | none => exact Src.ofNil w ht d
        | some a => exact Src.ofSlice w ht a 0 d [] (by simp) (by simp) (by simp)
      have hrun := run_append_nothing (P := P) w t t ty e i ht hi A n c hnc (.slice B 0 d) hs
      exact ⟨A, c, w, by simpa using hrun, by simpa using hown, Ch.refl _ _, fun b hb => .inl hb⟩
  · rcases hsrc.2 with ⟨_, h1, _⟩ | ⟨g, off, cur, rfl, _⟩
    · omega
    · obtain ⟨A', c', w', h1, h2, h3, h4, _⟩ := run_append_sl (P := P) w t ty e zv size by_ hzs hsz ht hinfo hby A n c xs hown ⟨g, off, none⟩ m d ys hsrc.1 hm0 (hsrc.cells _ rfl) hf hbound
      exact ⟨A', c', w', h1, h2, h3, h4⟩
theorem wpList_append_sl2 {P : Program} {w : World} {ops : Array Oper} {rest : List Oper} {o : Oper} {a : Act} {Q : Exit → Act → World → Prop} (hgd : o.guard = none) (s x : Operand) (t : TypeId)
    (ho : o.op = .call { callee := .builtin .append, args := #[s, x], argTypes := #[t, t] }) (e : TypeId) (zv : Value) (size by_ : Nat) (hzs : zv.cells.size = size) (hsz : 0 < size) (ht : P.underlying t = some (.slice e)) (hinfo : (P.info? e).map (fun i => (i.zero, i.size, i.bytes)) = some (some zv, size, by_)) (hby : by_ ≤ 64)
    (A : Option Addr) (n c : Nat) (xs : List Value) (B : Option Addr) (m d : Nat) (ys : List Value) (hse : a.eval s = .slice A n c) (hxe : a.eval x = .slice B m d) (hown : Sl e size w A n c xs) (hsrc : Sl e size w B m d ys) (hf : ∀ u ∈ ys, u.oneCell' = true) (hbound : n + m ≤ 1000000000)
    (h : ∀ A' c' w', Hid (Sl e size w' A' (n + m) c' (xs ++ ys)) → Hid (Ch (OwnB A) w w') → Hid (∀ b, OwnB A' b → OwnB A b ∨ b = w.heap.size) → wpList P ops Q rest (a.put o.dst (.slice A' (n + m) c')) w') : wpList P ops Q (o :: rest) a w := by
  refine wpList_plain hgd fun K hK => ?_
  obtain ⟨A', c', w', hrun, h1, h2, h3⟩ := run_append_sl2 (P := P) w t o.type e zv size by_ hzs hsz ht hinfo hby A n c xs hown B m d ys hsrc hf hbound
  unfold Oper.wp execOp
  simp only [ho, resolve, invoke, builtin, Sem.run_bind, Sem.run_pure, Result.andThen_ok, List.map_toArray, List.map_cons, List.map_nil, hse, hxe, hrun]
  exact hK _ _ (h A' c' w' h1 h2 h3)
theorem pcells_one (ps : List Ins) : ∀ u ∈ pcells ps, u.oneCell' = true := by
  intro u hu
  simp only [pcells, List.mem_flatMap] at hu
  obtain ⟨p, _, hu⟩ := hu
  exact ins_one _ _ _ u hu

theorem wpList_append_run {P : Program} {w w1 : World} {ops : Array Oper} {rest : List Oper} {o : Oper} {a : Act} {Q : Exit → Act → World → Prop} (hgd : o.guard = none) (s x : Operand) (t1 t2 : TypeId)
    (ho : o.op = .call { callee := .builtin .append, args := #[s, x], argTypes := #[t1, t2] }) (v1 v2 r : Value) (hse : a.eval s = v1) (hxe : a.eval x = v2) (hrun : (Builtin.append_ #[t1, t2] o.type #[v1, v2]).run P w = .ok r w1)
    (h : wpList P ops Q rest (a.put o.dst r) w1) : wpList P ops Q (o :: rest) a w := by
  refine wpList_plain hgd fun K hK => ?_
  unfold Oper.wp execOp
  simp only [ho, resolve, invoke, builtin, Sem.run_bind, Sem.run_pure, Result.andThen_ok, List.map_toArray, List.map_cons, List.map_nil, hse, hxe, hrun]
  exact hK _ _ h
/-- An empty slice of the call's own. -/
def EmPost (et : TypeId) (w : World) (e : Ending) (w' : World) : Prop := ∃ A c, e = .returned (.slice A 0 c) ∧ Sl et 3 w' A 0 c [] ∧ Below w.heap.size w w' ∧ ∀ b, OwnB A b → w.heap.size ≤ b
set_option maxRecDepth 100000 in
set_option maxHeartbeats 2000000 in
theorem growP_ok (w : World) (n : Nat) (hn : n ≤ 100000) : Calls Try.prog 96 #[.slice none 0 0, .int .i64 (n : Int)] w (EmPost 32 w) := by
  rcases Nat.eq_zero_or_pos n with rfl | hpos
  · go_enter Try.func96, Try.ntmps96
    go_wp2
    go_ret
    exact ⟨none, 0, rfl, Sl.nil, Below.refl _ _, by simp [OwnB]⟩
  · have q1 : ¬ (n : Int) < 0 := by omega
    have q2 : (n : Int) > 0 := by omega
    obtain ⟨c, w1, hrun, hnc, hc, hS, hb⟩ : ∃ c w1, (∀ ty, (Builtin.append_ #[25, 3] ty #[.slice none 0 0, .int .i64 (n : Int)]).run Try.prog w = .ok (.slice (some ⟨w.heap.size, 0, none⟩) n c) w1) ∧ n ≤ c ∧ c ≤ 9223372036854775807 ∧ Sl 32 3 w1 (some ⟨w.heap.size, 0, none⟩) 0 c [] ∧ Below w.heap.size w w1 := by
      have hinfo := info_instr
      cases hi : Try.prog.info? 32 with
      | none => rw [hi] at hinfo; cases hinfo
      | some i =>
        rw [hi] at hinfo
        simp only [Option.map_some, Option.some.injEq, Prod.mk.injEq] at hinfo
        obtain ⟨hz, hs, hb⟩ := hinfo
        have hge := grownCap_ge w n 0 32
        have hcm : grownCap w n 0 32 ≤ maxLen := grownCap_le_maxLen w n 0 32 (by unfold maxLen; omega)
        refine ⟨_, _, fun ty => Lib.run_append_nil_zeros (P := Try.prog) w 25 3 ty 32 i _ .i64 .i64 Try.underlying25 Try.underlying3 hi hz n hpos (by omega) (by omega) (by rw [hb]; omega), hge, by unfold maxLen at hcm; omega, ?_, bl_alloc (bl_drew (Below.refl _ _)) _⟩
        refine ⟨by simp, .inr ⟨w.heap.size, 0, _, rfl, heap_alloc_new w.drew _, by omega, hcm, ?_, by simp⟩⟩
        simp only [Array.size_append, size_zeroCells, Value.cells]
        have : n + (grownCap w n 0 32 - n) = grownCap w n 0 32 := by omega
        rw [← Nat.add_mul, this]
        simp
    have HS := Lib.hid hS
    have HB := Lib.hid hb
    have HRUN := Lib.hid hrun
    clear hS hb hrun
    go_enter Try.func96, Try.ntmps96
    go_wp2_with (at_builtin; refine wpList_append_run rfl (.tmp 20) (.tmp 21) 25 3 rfl _ _ _ rfl rfl (HRUN.out _) ?_)
    go_ret
    exact ⟨_, _, rfl, HS.out, HB.out, by simp [OwnB]⟩


set_option maxRecDepth 100000 in
set_option maxHeartbeats 4000000 in
theorem concatP_ok (w : World) (g : Nat) (A1 A2 : Option Addr) (n1 n2 c1 c2 : Nat) (ps qs : List Ins) (h1 : ps.length = n1) (h2 : qs.length = n2) (hb1 : n1 ≤ 1000) (hb2 : n2 ≤ 1000) (hg : g < w.heap.size)
    (k0 : w.cell? ⟨g, 0, none⟩ = some (.slice A1 n1 c1)) (k1 : w.cell? ⟨g, 1, none⟩ = some (.slice A2 n2 c2)) (S1 : Sl 32 3 w A1 n1 c1 (pcells ps)) (S2 : Sl 32 3 w A2 n2 c2 (pcells qs)) :
    Calls Try.prog 63 #[.slice (some ⟨g, 0, none⟩) 2 2] w (PgPost 32 w (ps ++ qs)) := by
  have HS1 := Lib.hid S1
  have HS2 := Lib.hid S2
  have HL1 := Lib.hid h1
  have HL2 := Lib.hid h2
  clear S1 S2 h1 h2
  go_enter Try.func63, Try.ntmps63
  go_wp2
  go_loopw [11, 3, 5, 12, 13, 14, 15, 16, 17, 18, 19, 20, 21, 22] (fun i s _ _ _ _ _ _ _ _ _ _ _ _ wr => ∃ (k q : Nat), i = .int .i64 k ∧ s = .int .i64 q ∧ (k = 0 ∧ q = 0 ∨ k = 1 ∧ q = n1 ∨ k = 2 ∧ q = n1 + n2) ∧ w = wr) (fun i s _ _ _ _ _ _ _ _ _ _ _ _ _ => 2 - (intOf i).toNat)
  case atStart => exact ⟨0, 0, rfl, rfl, .inl ⟨rfl, rfl⟩, rfl⟩
  case round =>
    obtain ⟨k, q, rfl, rfl, hkq, rfl⟩ := hrel
    rcases hkq with ⟨rfl, rfl⟩ | ⟨rfl, rfl⟩ | ⟨rfl, rfl⟩
    · have e1 : ¬ ((n1 : Int) < 0) := by omega
      go_wp2
      go_roundw
      case rel => exact ⟨1, n1, rfl, rfl, .inr (.inl ⟨rfl, rfl⟩), trivial⟩
      case measure => simp [intOf]
    · have e1 : ¬ ((q : Int) + (n2 : Int) < 0) := by omega
      go_wp2
      go_roundw
      case rel => exact ⟨2, q + n2, rfl, by go_num, .inr (.inr ⟨rfl, rfl⟩), trivial⟩
      case measure => simp [intOf]
    · have HG := Lib.hid (growP_ok w (n1 + n2) (by omega))
      have e0 : ((n1 + n2 : Nat) : Int) = (n1 : Int) + (n2 : Int) := by omega
      have HG2 : Hid (Calls Try.prog 96 #[.slice none 0 0, .int .i64 ((n1 + n2 : Nat) : Int)] w (EmPost 32 w)) := HG.out
      clear HG e0
      go_wp2_with (go_at_call 96; refine HG2.out.mono ?_; rintro e w1 ⟨A, c, rfl, hS, hb, hO⟩; have HS := Lib.hid hS; have HB := Lib.hid hb; have HO := Lib.hid hO; clear hS hb hO)
      have k0' : w1.cell? ⟨g, 0, none⟩ = some (.slice A1 n1 c1) := (HB.out.cell (p := ⟨g, 0, none⟩) hg).trans k0
      have k1' : w1.cell? ⟨g, 1, none⟩ = some (.slice A2 n2 c2) := (HB.out.cell (p := ⟨g, 1, none⟩) hg).trans k1
      have HI0 : Hid (PgInv 32 w A 0 c [] w1) := ⟨rfl, by simpa [pcells] using HS.out, HB.out, HO.out⟩
      clear HG2 HS HB HO k0' k1'
      go_loopw [27, 6, 8, 28, 29, 30, 31, 32, 33, 34] (fun i p _ _ _ _ _ _ _ _ wr => ∃ (k j : Nat) (A : Option Addr) (c : Nat) (rs : List Ins), i = .int .i64 k ∧ p = .slice A j c ∧ (k = 0 ∧ rs = [] ∨ k = 1 ∧ rs = ps ∨ k = 2 ∧ rs = ps ++ qs) ∧ PgInv 32 w A j c rs wr) (fun i p _ _ _ _ _ _ _ _ _ => 2 - (intOf i).toNat)
      case atStart => exact ⟨0, 0, A, c, [], rfl, rfl, .inl ⟨rfl, rfl⟩, HI0.out⟩
      case round =>
        clear HI0
        obtain ⟨k, j, A', c', rs, rfl, rfl, hkr, hI⟩ := hrel
        obtain ⟨i1, i2, i3, i4⟩ := hI
        have HI1 := Lib.hid i1
        have HI2 := Lib.hid i2
        have HI3 := Lib.hid i3
        have HI4 := Lib.hid i4
        have y0 : wr.cell? ⟨g, 0, none⟩ = some (.slice A1 n1 c1) := (i3.cell (p := ⟨g, 0, none⟩) hg).trans k0
        have y1 : wr.cell? ⟨g, 1, none⟩ = some (.slice A2 n2 c2) := (i3.cell (p := ⟨g, 1, none⟩) hg).trans k1
        have hgr : g < wr.heap.size := Nat.lt_of_lt_of_le hg i3.size
        have z1 := Lib.hid (HS1.out.keep (w' := wr) (fun b hb => i3.block b (HS1.out.lt hb)))
        have z2 := Lib.hid (HS2.out.keep (w' := wr) (fun b hb => i3.block b (HS2.out.lt hb)))
        clear i1 i2 i3 i4
        rcases hkr with ⟨rfl, rfl⟩ | ⟨rfl, rfl⟩ | ⟨rfl, rfl⟩
        · have hj : j = 0 := HI1.out.symm
          subst hj
          go_wp2_with (at_builtin; refine wpList_append_sl2 rfl (.tmp 31) (.tmp 32) 25 rfl 32 (.agg #[.int .u8 0, .int .u64 0, .int .u64 0]) 3 24 rfl (by omega) Try.underlying25 info_instr (by omega) A' 0 c' (pcells []) A1 n1 c1 (pcells ps) rfl rfl HI2.out z1.out (pcells_one _) (by omega) ?_; intro A2' c2' w2 HO2 HC2 HW2)
          refine ⟨⟨1, n1, A2', c2', ps, by go_num, rfl, .inr (.inl ⟨rfl, rfl⟩), ⟨by rw [HL1.out], by have := HO2.out; rwa [Nat.zero_add] at this, bl_ch HI3.out HC2.out HI4.out, fun b hb => ?_⟩⟩, by simp [intOf]⟩
          rcases HW2.out b hb with h | h
          · exact HI4.out b h
          · rw [h]; exact HI3.out.size
        · have hj : j = n1 := by rw [← HI1.out, HL1.out]
          subst hj
          go_wp2_with (at_builtin; refine wpList_append_sl2 rfl (.tmp 31) (.tmp 32) 25 rfl 32 (.agg #[.int .u8 0, .int .u64 0, .int .u64 0]) 3 24 rfl (by omega) Try.underlying25 info_instr (by omega) A' j c' (pcells rs) A2 n2 c2 (pcells qs) rfl rfl HI2.out z2.out (pcells_one _) (by omega) ?_; intro A2' c2' w2 HO2 HC2 HW2)
          refine ⟨⟨2, j + n2, A2', c2', rs ++ qs, by go_num, rfl, .inr (.inr ⟨rfl, rfl⟩), ⟨by rw [List.length_append, HL1.out, HL2.out], by rw [pcells_append]; exact HO2.out, bl_ch HI3.out HC2.out HI4.out, fun b hb => ?_⟩⟩, by simp [intOf]⟩
          rcases HW2.out b hb with h | h
          · exact HI4.out b h
          · rw [h]; exact HI3.out.size
        · go_wp2
          go_ret
          exact PgInv.post ⟨HI1.out, HI2.out, HI3.out, HI4.out⟩ rfl

set_option maxRecDepth 100000 in
set_option maxHeartbeats 2000000 in
theorem pgThen_ok (w : World) (A1 A2 : Option Addr) (n1 n2 c1 c2 : Nat) (ps qs : List Ins) (h1 : ps.length = n1) (h2 : qs.length = n2) (hb1 : n1 ≤ 1000) (hb2 : n2 ≤ 1000) (S1 : Sl 32 3 w A1 n1 c1 (pcells ps)) (S2 : Sl 32 3 w A2 n2 c2 (pcells qs)) :
    Calls Try.prog 19 #[.slice A1 n1 c1, .slice A2 n2 c2] w (PgPost 32 w (ps ++ qs)) := by
  have hb : Below w.heap.size w (w.alloc (.cells #[.slice A1 n1 c1, .slice A2 n2 c2] 25)) := bl_alloc (Below.refl _ _) _
  have hC := CB.new w 25 #[.slice A1 n1 c1, .slice A2 n2 c2]
  have HC := Lib.hid (concatP_ok (w.alloc (.cells #[.slice A1 n1 c1, .slice A2 n2 c2] 25)) w.heap.size A1 A2 n1 n2 c1 c2 ps qs h1 h2 hb1 hb2 (by simp) (hC.cell_some rfl) (hC.cell_some rfl) (S1.keep (fun b hb' => hb.block b (S1.lt hb'))) (S2.keep (fun b hb' => hb.block b (S2.lt hb'))))
  have HB := Lib.hid hb
  clear S1 S2 hb hC h1 h2
  go_enter Try.func19, Try.ntmps19
  go_wp2_with (go_at_call 63; refine HC.out.mono ?_; rintro e w1 ⟨A, c, rfl, hS, hb, hO⟩; have HS := Lib.hid hS; have HB1 := Lib.hid hb; have HO := Lib.hid hO; clear hS hb hO)
  go_ret
  exact ⟨A, c, by simp, HS.out, HB.out.trans (HB1.out.mono HB.out.size), fun b hb => Nat.le_trans HB.out.size (HO.out b hb)⟩

/-- The stores of a program. -/
def pgW (ps : List Ins) : List (Int × Int) := (ps.filter fun p => p.1 == 1).map fun p => (p.2.1, p.2.2)
theorem pgW_snoc (ps : List Ins) (p : Ins) : pgW (ps ++ [p]) = if p.1 == 1 then pgW ps ++ [(p.2.1, p.2.2)] else pgW ps := by
  unfold pgW
  rw [List.filter_append]
  by_cases h : p.1 == 1 <;> simp [h]
def WsPost (w : World) (ws : List (Int × Int)) (e : Ending) (w' : World) : Prop :=
  ∃ A c, e = .returned (.slice A ws.length c) ∧ Sl 34 2 w' A ws.length c (wcells ws) ∧ Below w.heap.size w w' ∧ ∀ b, OwnB A b → w.heap.size ≤ b
def WsInv (w : World) (A : Option Addr) (k c : Nat) (ws : List (Int × Int)) (wr : World) : Prop :=
  ws.length = k ∧ Sl 34 2 wr A k c (wcells ws) ∧ Below w.heap.size w wr ∧ ∀ b, OwnB A b → w.heap.size ≤ b
theorem WsInv.keep {w wr wr' : World} {A : Option Addr} {k c : Nat} {ws : List (Int × Int)} (h : WsInv w A k c ws wr) (hb : Below wr.heap.size wr wr') : WsInv w A k c ws wr' := by
  obtain ⟨h1, h2, h3, h4⟩ := h
  exact ⟨h1, h2.keep (fun b hb' => hb.block b (h2.lt hb')), h3.trans (hb.mono h3.size), h4⟩
theorem WsInv.step {w wr W w2 : World} {A A2 : Option Addr} {k c c2 : Nat} {ws : List (Int × Int)} (p : Int × Int) (h : WsInv w A k c ws wr) (hb : Below wr.heap.size wr W) (hO : Sl 34 2 w2 A2 (k + 1) c2 (wcells ws ++ [.int .u64 p.1, .int .u64 p.2])) (hC : Ch (OwnB A) W w2) (hW : ∀ b, OwnB A2 b → OwnB A b ∨ b = W.heap.size) :
    WsInv w A2 (k + 1) c2 (ws ++ [p]) w2 := by
  obtain ⟨h1, h2, h3, h4⟩ := h
  have h5 : Below w.heap.size w W := h3.trans (hb.mono h3.size)
  refine ⟨by simp [h1], ?_, bl_ch h5 hC h4, fun b hb' => ?_⟩
  · have : wcells (ws ++ [p]) = wcells ws ++ [.int .u64 p.1, .int .u64 p.2] := by simp [wcells]
    rw [this]; exact hO
  · rcases hW b hb' with h | h
    · exact h4 b h
    · rw [h]; exact h5.size

set_option maxRecDepth 100000 in
set_option maxHeartbeats 4000000 in
theorem pgWrites_ok (w : World) (A0 : Option Addr) (n c0 : Nat) (ps : List Ins) (hn : ps.length = n) (hnb : n ≤ 100000) (hS : Sl 32 3 w A0 n c0 (pcells ps)) :
    Calls Try.prog 13 #[.slice A0 n c0] w (WsPost w (pgW ps)) := by
  have HN := Lib.hid hn
  have HS := Lib.hid hS
  clear hn hS
  go_enter Try.func13, Try.ntmps13
  go_wp2
  have HI0 : Hid (WsInv w none 0 0 (pgW (ps.take 0)) w) := ⟨by simp [pgW], by simpa [pgW, wcells] using Sl.nil, Below.refl _ _, by simp [OwnB]⟩
  go_loopw [8, 3, 5, 9, 10, 11, 12, 13, 14, 15, 16, 17, 18, 19, 20, 21, 22, 23] (fun i p _ _ _ _ _ _ _ _ _ _ _ _ _ _ _ _ wr => ∃ (k j : Nat) (A : Option Addr) (c : Nat), k ≤ n ∧ j ≤ k ∧ i = .int .i64 k ∧ p = .slice A j c ∧ WsInv w A j c (pgW (ps.take k)) wr) (fun i p _ _ _ _ _ _ _ _ _ _ _ _ _ _ _ _ _ => n - (intOf i).toNat)
  case atStart => exact ⟨0, 0, none, 0, by omega, by omega, rfl, rfl, HI0.out⟩
  case round =>
    clear HI0
    obtain ⟨k, j, A, c, hk, hj, rfl, rfl, hI⟩ := hrel
    have HI := Lib.hid hI
    clear hI
    by_cases hlt : k < n
    · have hkl : k < ps.length := by rw [HN.out]; exact hlt
      obtain ⟨b, off, rfl, hbl, c1, c2, c3⟩ := (HS.out.keep (w' := wr) (fun b hb => HI.out.2.2.1.block b (HS.out.lt hb))).insE hkl
      obtain ⟨⟨op, o8, v⟩, hp⟩ : ∃ p, ps[k] = p := ⟨_, rfl⟩
      rw [hp] at c1 c2 c3
      have HSU : Hid (pgW (ps.take (k + 1)) = if op == 1 then pgW (ps.take k) ++ [(o8, v)] else pgW (ps.take k)) := by
        show _ = _
        rw [List.take_succ_eq_append_getElem hkl, hp, pgW_snoc]
      clear hp
      by_cases h1 : op = 1
      · have h1' : (op == 1) = true := by simpa using h1
        rw [h1'] at HSU
        clear h1
        go_wp2_with (at_builtin; refine wpList_append_sl rfl (.tmp 15) (.tmp 21) 28 rfl 34 (.agg #[.int .u64 0, .int .u64 0]) 2 16 rfl (by omega) Try.underlying28 info_write (by omega) A j c (wcells (pgW (ps.take k))) ⟨wr.heap.size + 1, 0, none⟩ 1 1 [.int .u64 o8, .int .u64 v] rfl rfl ?hsl rfl (by omega) ?hc3 (by simp; exact ⟨rfl, rfl⟩) (by omega) ?_; (case hsl => exact (HI.out.2.1.keep (fun b hb => Below.heap_alloc _ _ b (HI.out.2.1.lt hb))).keep (fun b hb => Below.heap_alloc _ _ b (by have := HI.out.2.1.lt hb; simp; omega))); (case hc3 => have := cells_two (wr.alloc (.cells #[.int .u8 op, .int .u64 o8, .int .u64 v] 32)) 34 (.int .u64 o8) (.int .u64 v); simpa using this); intro A2 c2' w2 HO2 HC2 HW2 HN2)
        have HB2 : Hid (Below wr.heap.size wr ((wr.alloc (.cells #[.int .u8 op, .int .u64 o8, .int .u64 v] 32)).alloc (.cells #[.int .u64 o8, .int .u64 v] 34))) := by show Below _ _ _; (repeat (first | with_reducible exact Below.refl _ _ | with_reducible refine bl_alloc ?_ _ | with_reducible refine bl_drew ?_ | with_reducible refine bl_drewN ?_ _ | with_reducible refine bl_bx ?_ _ | with_reducible exact BX.below _ | with_reducible refine bl_set ?_ (by first | (exact Nat.le_refl _) | (simp; done) | (simp; omega)) _ | assumption))
        have HIN := Lib.hid (HI.out.step (o8, v) HB2.out HO2.out HC2.out HW2.out)
        refine ⟨⟨k + 1, j + 1, A2, c2', by omega, by omega, by go_num, rfl, by rw [HSU.out]; exact HIN.out⟩, by simp [intOf]; omega⟩
      · have h1' : (op == 1) = false := by simpa using h1
        rw [h1'] at HSU
        clear h1
        go_wp2
        go_roundw
        case rel => exact ⟨k + 1, j, A, c, by omega, by omega, by go_num, rfl, by rw [HSU.out]; exact HI.out.keep (bl_alloc (Below.refl _ _) _)⟩
        case measure => simp [intOf]; omega
    · obtain rfl : k = n := by omega
      have HP : Hid (ps.take k = ps) := List.take_of_length_le (by rw [HN.out]; exact Nat.le_refl _)
      have HI2 := HI.out
      rw [HP.out] at HI2
      go_wp2
      go_ret
      obtain ⟨i1, i2, i3, i4⟩ := HI2
      exact ⟨A, c, by rw [i1]; rfl, by rw [i1]; exact i2, i3, i4⟩
end Go.Proofs.Ytngkhligjkcbmaa
