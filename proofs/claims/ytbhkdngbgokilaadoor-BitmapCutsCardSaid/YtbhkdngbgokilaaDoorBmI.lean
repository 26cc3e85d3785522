/- Contracts of lay and read of the laws on bitmaps. -/
import Derived.Test.YtbhkdngbgokilaaDoorBmH
import Derived.Test.YtbhkdngbgokilaaDoorRow
namespace Go.Proofs.YtbhkdngbgokilaaDoor
open Go.RowKit
set_option linter.unusedVariables false

theorem cells_one (w : World) (e : TypeId) (a : Value) : ∀ (j : Nat) (u : Value), [a][j]? = some u → (w.alloc (.cells #[a] e)).cell? ((⟨w.heap.size, 0, none⟩ : Addr).add j) = some u := by
  intro j u hu
  have h1 : (⟨w.heap.size, 0, none⟩ : Addr).add j = ⟨w.heap.size, 0 + j, none⟩ := by unfold Addr.add; split <;> simp_all
  rw [h1, Nat.zero_add, (CB.new w e #[a]).cell]
  simpa using hu
theorem u64_one (a : Int) : ∀ u ∈ ([.int .u64 a] : List Value), u.oneCell' = true := by
  intro u hu
  simp only [List.mem_singleton] at hu
  subst hu; rfl
/-- What read leaves. -/
def ReadPost (w : World) (ws : List Int) (m : Nat) (e : Ending) (w' : World) : Prop :=
  ∃ A c, e = .returned (.slice A m c) ∧ Sl 34 1 w' A m c (uints ws) ∧ (∀ b, OwnB A b → w.heap.size ≤ b) ∧ Below w.heap.size w w'
set_option maxRecDepth 100000 in
set_option maxHeartbeats 2000000 in
theorem read20 (w : World) (T : Nat) (xs : List Int) (a n m : Nat) (hL : LdV T xs w) (hx : xs.length = 96) (hm : (n + 63) / 64 = m) (ha : a + m ≤ 96) (hn : n ≤ 512) (A0 : Option Addr) (n0 c0 : Nat) :
    Calls Tryd.prog 14 #[.pointer (some ⟨T, 0, none⟩), inv20 n a A0 n0 c0] w (ReadPost w ((xs.drop a).take m) m) := by
  have HL := Lib.hid hL
  have HX := Lib.hid hx
  have hm' : 64 * m < n + 64 ∧ n ≤ 64 * m := by omega
  clear hL hx
  unfold inv20
  go_enter Tryd.func14, Tryd.ntmps14
  go_wp2
  have hc0 : CB (w.alloc (.cells #[.int .i64 n, .int .i64 a, .slice A0 n0 c0] 24)) w.heap.size 24 #[.int .i64 n, .int .i64 a, .slice A0 n0 c0] := CB.new _ _ _
  have hb0 : Below w.heap.size w (w.alloc (.cells #[.int .i64 n, .int .i64 a, .slice A0 n0 c0] 24)) := by (repeat (first | with_reducible exact Below.refl _ _ | with_reducible refine bl_alloc ?_ _ | with_reducible refine bl_drew ?_ | with_reducible refine bl_drewN ?_ _ | with_reducible refine bl_bx ?_ _ | with_reducible exact BX.below _ | with_reducible refine bl_set ?_ (by first | (exact Nat.le_refl _) | (simp; done) | (simp; omega)) _ | assumption))
  obtain ⟨g, hg⟩ : ∃ g, w.heap.size = g := ⟨_, rfl⟩
  obtain ⟨W, hW⟩ : ∃ W, w.alloc (.cells #[.int .i64 n, .int .i64 a, .slice A0 n0 c0] 24) = W := ⟨_, rfl⟩
  rw [hW] at hc0 hb0
  rw [hg] at hc0
  rw [hg, hW]
  have HC0 := Lib.hid hc0
  have HB0 := Lib.hid hb0
  clear hW hc0 hb0
  go_loopw [6, 5, 7, 8, 9, 10, 11, 12, 13, 14, 15, 16, 17, 18, 19, 20, 21, 22, 23, 24] (fun i s _ _ _ _ _ _ _ _ _ _ _ _ _ _ _ _ _ _ wr => ∃ (k : Nat) (A : Option Addr) (c : Nat), k ≤ m ∧ i = .int .i64 k ∧ s = .slice A k c ∧ Sl 34 1 wr A k c (uints ((xs.drop a).take k)) ∧ (∀ b, OwnB A b → W.heap.size ≤ b) ∧ Below W.heap.size W wr) (fun i _ _ _ _ _ _ _ _ _ _ _ _ _ _ _ _ _ _ _ _ => m - (intOf i).toNat)
  case atStart => exact ⟨0, none, 0, by omega, rfl, rfl, Sl.nil, fun b hb => by simp [OwnB] at hb, Below.refl _ _⟩
  case round =>
    obtain ⟨k, A, c, hk, rfl, rfl, hS, hO, hB⟩ := hrel
    have HS := Lib.hid hS
    have HO := Lib.hid hO
    have HB := Lib.hid hB
    have hcb := HC0.out.below hB
    have b0 := hcb.cell 0
    have b1 := hcb.cell 1
    have bl := hcb.lt
    clear hS hO hB hcb
    by_cases hlt : k < m
    · have hlt' : 64 * (k : Int) < (n : Int) := by omega
      have hak : a + k < xs.length := by rw [HX.out]; omega
      have hbw : Below w.heap.size w wr := HB0.out.trans (HB.out.mono HB0.out.size)
      have HLD : Hid (Calls Tryd.prog 32 #[.pointer (some ⟨T, 0, none⟩), .int .u64 (8 * ((a : Int) + (k : Int)))] wr fun e w' => e = .returned (.int .u64 xs[a + k]) ∧ wr = w') := by
        have := HL.out wr hbw (a + k) xs[a + k] (List.getElem?_eq_getElem hak)
        rwa [show ((a + k : Nat) : Int) = (a : Int) + (k : Int) by omega] at this
      have HTK : Hid ((xs.drop a).take (k + 1) = (xs.drop a).take k ++ [xs[a + k]]) := by
        show _ = _
        rw [List.take_succ_eq_append_getElem (by rw [List.length_drop]; omega), List.getElem_drop]
      obtain ⟨v, hv⟩ : ∃ v, xs[a + k] = v := ⟨_, rfl⟩
      rw [hv] at HLD HTK
      have e1 : IntKind.u64.wrap ((a : Int) + (k : Int)) = (a : Int) + (k : Int) := IntWalk.u64_in _ (by omega)
      have e2 : IntKind.u64.wrap (8 * ((a : Int) + (k : Int))) = 8 * ((a : Int) + (k : Int)) := IntWalk.u64_in _ (by omega)
      clear hv
      go_wp2_with (first
        | (go_at_call 32; refine HLD.out.mono ?_; rintro e w' ⟨rfl, rfl⟩)
        | (at_builtin; refine wpList_append_sl rfl (.tmp 14) (.tmp 23) 22 rfl 34 (.int .u64 0) 1 8 rfl (by omega) Tryd.underlying22 info_u64 (by omega) A k c (uints ((xs.drop a).take k)) ⟨wr.heap.size, 0, none⟩ 1 1 [.int .u64 v] rfl rfl (HS.out.keep (fun b hb => Below.heap_alloc _ _ _ (HS.out.lt hb))) rfl (by omega) (cells_one wr 34 _) (u64_one _) (by omega) ?_; intro A2 c2 w2 HO2 HC2 HW2 HG2))
      refine ⟨⟨k + 1, A2, c2, by omega, by go_num, rfl, ?_, ?_, ?_⟩, by simp [intOf]; omega⟩
      · rw [HTK.out]
        have := HO2.out
        simpa [uints] using this
      · intro b hb
        rcases HW2.out b hb with h | h
        · exact HO.out b h
        · have := HB.out.size; simp at h; omega
      · exact bl_ch (bl_alloc HB.out _) HC2.out (fun b hb => HO.out b hb)
    · obtain rfl : k = m := by omega
      have hlt' : ¬ 64 * (k : Int) < (n : Int) := by omega
      go_wp2
      go_ret
      exact ⟨A, c, rfl, HS.out, fun b hb => Nat.le_trans HB0.out.size (HO.out b hb), HB0.out.trans (HB.out.mono HB0.out.size)⟩
theorem Sl.rdU {w : World} {A : Option Addr} {n c : Nat} {xs : List Int} (h : Sl 34 1 w A n c (uints xs)) : Rd .u64 w A xs := by
  by_cases h0 : xs = []
  · exact .inl h0
  · have hlen : 0 < xs.length := List.length_pos_iff.2 h0
    obtain ⟨g, off, hA, hlt, _⟩ := h.at_ (j := 0) (by rw [length_uints]; exact hlen)
    refine .inr ⟨g, off, hA, hlt, fun i hi => ?_⟩
    obtain ⟨g', off', hA', _, hc⟩ := h.at_ (j := i) (by rw [length_uints]; exact hi)
    rw [hA] at hA'
    injection hA' with hA'
    injection hA' with e1 e2
    subst e1 e2
    rw [hc, get_uints xs i hi]

/-- The words of lay. -/
def layW (At : Int) (ws : List Int) : Nat → List Int
  | 0 => List.replicate 96 0
  | k + 1 => if 0 ≤ At ∧ At < 96 ∧ At + (k : Int) < 96 then (layW At ws k).set (At + (k : Int)).toNat (ws[k]?.getD 0) else layW At ws k
theorem layW_fits (At : Int) (ws : List Int) (hw : FitsB ws) : ∀ k, FitsB (layW At ws k) ∧ (layW At ws k).length = 96 := by
  intro k
  induction k with
  | zero => exact ⟨fun x hx => by rw [(List.mem_replicate.1 hx).2]; exact ⟨Int.le_refl _, by decide⟩, by simp [layW]⟩
  | succ k ih =>
    unfold layW
    split
    · refine ⟨fun x hx => ?_, by simp [ih.2]⟩
      rcases List.mem_or_eq_of_mem_set hx with h | h
      · exact ih.1 x h
      · rw [h]; exact hw.getD k
    · exact ih
end Go.Proofs.YtbhkdngbgokilaaDoor
