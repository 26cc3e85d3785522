/- The law BitmapRuns returns true. -/
import Derived.Test.YtbhkdngbgokilaaDoorBmV
import Derived.Test.YtbhkdngbgokilaaDoorBmTk
import Derived.Deep.RegionHeld3
import Derived.RangeFuncNested
import Derived.RangeFuncBound
import Derived.RangeFuncCalls
import Derived.OwnWalkIn
import Derived.TacticsInMore
namespace Go.Proofs.YtbhkdngbgokilaaDoor
open Go.RowKit Go.Shelf
set_option linter.unusedVariables false

theorem runs_take (V xs : List Int) (m n : Nat) (hV : xs.take m = V) (hn : n ≤ 64 * m) (i : Int) (set : Bool) : nextB V n i set = nextB xs n i set := by rw [← hV]; exact nextB_take xs m n hn i set
theorem rd_setCell {k : IntKind} {w : World} {A : Option Addr} {xs : List Int} (h : Rd k w A xs) {p : Addr} (hp : ∀ b, OwnB A b → b ≠ p.block) (u : Value) : Rd k (w.setCell p u) A xs := by
  rcases h with h | ⟨b, o, rfl, hlt, hc⟩
  · exact .inl h
  · have hch : Ch (At p.block) w (w.setCell p u) := (Ch.refl (At p.block) w).setCell (a := p) (.inl rfl) u
    exact .inr ⟨b, o, rfl, Nat.lt_of_lt_of_le hlt hch.size, fun i hi => (hch.cells b _ hlt (hp b rfl)).trans (hc i hi)⟩
/-- The wanted runs lie in a box. -/
def RunsRel (W5 : World) (L : List (Int × Int)) (s : Value) (wx : World) : Prop :=
  ∃ gw A5 c5, s = .pointer (some ⟨gw, 0, none⟩) ∧ CB wx gw 25 #[.slice A5 (2 * L.length) c5] ∧ Rd .i64 wx A5 (flatR L) ∧ (∀ b, OwnB A5 b → b < wx.heap.size ∧ b ≠ gw) ∧ Below W5.heap.size W5 wx ∧ W5.heap.size ≤ gw
theorem runsRelA {W5 w5 : World} {L : List (Int × Int)} {A5 : Option Addr} {c5 : Nat} (hb : Below W5.heap.size W5 w5) (hR : Rd .i64 w5 A5 (flatR L)) (hO : ∀ b, OwnB A5 b → b < w5.heap.size) :
    RunsRel W5 L (.pointer (some ⟨w5.heap.size, 0, none⟩)) (w5.alloc (.cells #[.slice A5 (2 * L.length) c5] 25)) :=
  ⟨_, A5, c5, rfl, CB.new _ _ _, hR.alloc _, fun b h => ⟨by have := hO b h; simp; omega, by have := hO b h; omega⟩, bl_alloc hb _, hb.size⟩
theorem runsRelB {W5 wa w5 : World} {L : List (Int × Int)} {A5 : Option Addr} {c5 g : Nat} {v0 : Value} (hb : Below W5.heap.size W5 wa) (hg : g = wa.heap.size) (hb2 : Below (wa.alloc (.cells #[v0] 25)).heap.size (wa.alloc (.cells #[v0] 25)) w5) (hR : Rd .i64 w5 A5 (flatR L)) (hO : ∀ b, OwnB A5 b → wa.heap.size < b ∧ b < w5.heap.size) :
    RunsRel W5 L (.pointer (some ⟨g, 0, none⟩)) (w5.setCell ⟨g, 0, none⟩ (.slice A5 (2 * L.length) c5)) := by
  subst hg
  have hc : CB w5 wa.heap.size 25 #[v0] := (CB.new wa 25 #[v0]).below hb2
  refine ⟨_, A5, c5, rfl, hc.set 0 _, rd_setCell hR (fun b h => by have := (hO b h).1; show b ≠ wa.heap.size; omega) _, fun b h => ⟨by have := (hO b h).2; simpa using this, by have := (hO b h).1; omega⟩, ?_, hb.size⟩
  exact ((bl_alloc hb _).trans (hb2.mono (by have := hb.size; simp; omega))).setCell (p := ⟨wa.heap.size, 0, none⟩) hb.size _
theorem rd_ch {k : IntKind} {w w' : World} {A : Option Addr} {xs : List Int} {S : Nat → Prop} (h : Rd k w A xs) (hc : Ch S w w') (hS : ∀ b, OwnB A b → ¬ S b) : Rd k w' A xs := by
  rcases h with h | ⟨b, o, rfl, hlt, hcl⟩
  · exact .inl h
  · exact .inr ⟨b, o, rfl, Nat.lt_of_lt_of_le hlt hc.size, fun i hi => (hc.cells b _ hlt (hS b rfl)).trans (hcl i hi)⟩
/-- What a round may change: the counter, and what is new. -/
def RnS (gn B : Nat) (b : Nat) : Prop := b = gn ∨ B ≤ b
theorem rnS_trans {gn B : Nat} {a b c : World} (h : Ch (RnS gn B) a b) (k : Ch (RnS gn B) b c) : Ch (RnS gn B) a c := h.trans k (fun _ h _ => h)
theorem rnS_put {gn : Nat} {w : World} (W : World) (l : Nat) (o o' : Obj) (hl : w.heap.size ≤ l) (h : W.heap[l]? = some o) (h1 : o.isCells = false) (h2 : o.isWalk = false) : Ch (RnS gn w.heap.size) W (W.putObj l o') :=
  ⟨rfl, rfl, rfl, by simp, fun b hb hS => World.putObj_heap_other (fun e => hS (.inr (by omega)))⟩
def RnI (W7 : World) (gn : Nat) (pre : List (Int × Int)) (W : World) : Prop := CB W gn 3 #[.int .i64 (pre.length : Nat)] ∧ Ch (RnS gn W7.heap.size) W7 W
def RnX (W7 : World) (gn : Nat) (st : Int) (L : List (Int × Int)) (c : Code) (pre : List (Int × Int)) (W : World) : Prop := (c = .exit 0 ∧ RnI W7 gn pre W ∧ ((pre.length : Nat) : Int) = st ∧ 1 ≤ pre.length) ∨ (c = .ret ∧ ¬ pre <+: L)
theorem rnI_own (W7 : World) (gn : Nat) : OwnFrom W7.heap.size (RnI W7 gn) := by
  rintro s A B row ⟨hc, hk⟩ hg hr
  obtain ⟨g1, g2, g3, g4, g5⟩ := hg
  have hne : ∀ r, row = some r → r ≠ gn := by
    rintro r hr' rfl
    obtain ⟨_, o, ho, ho2⟩ := hr r hr'
    have : A.heap[r]? = some (.cells #[.int .i64 (s.length : Nat)] 3 (0, 0)) := hc
    rw [ho] at this
    injection this with this
    subst this
    cases ho2
  refine ⟨hc.keep (g5 gn hc.lt (fun e => hne gn e.symm rfl)), hk.trans (T := RnS gn W7.heap.size) ⟨g1, g2, g3, g4, fun b hb hS => g5 b hb (fun e => hS (.inr (hr b e.symm).1))⟩ (fun _ h _ => h)⟩
theorem rnX_own (W7 : World) (gn : Nat) (st : Int) (L : List (Int × Int)) (c : Code) : OwnFrom W7.heap.size (RnX W7 gn st L c) := by
  rintro s A B row hs hg hr
  rcases hs with ⟨h1, h2, h3, h4⟩ | h
  · exact .inl ⟨h1, rnI_own W7 gn s A B row h2 hg hr, h3, h4⟩
  · exact .inr h
theorem fold2 (t : Array Value) (p q : Nat) (x : Int × Int) : (Array.zip #[p, q] (encsP x)).foldl (fun t (p, v) => t.setIfInBounds p v) t = (t.setIfInBounds p (.int .i64 x.1)).setIfInBounds q (.int .i64 x.2) := by simp [encsP]
attribute [local go_sem] Oper.semAt_some
set_option maxRecDepth 100000 in
set_option maxHeartbeats 4000000 in
theorem law_BitmapRuns (w : World) (hT : Tab w) (B At : Int) (hB : -9223372036854775808 ≤ B ∧ B < 9223372036854775808) (hAt : -9223372036854775808 ≤ At ∧ At < 9223372036854775808) (A : Option Addr) (n0 c : Nat) (ws : List Int) (hw : ws.length = n0) (hws : FitsB ws) (hnc : n0 ≤ 9223372036854775807) (hR : Rd .u64 w A ws) (st : Int) (hst : 0 ≤ st ∧ st ≤ 255) :
    Calls Tryd.prog 7 #[inv20 B At A n0 c, .int .u8 st] w fun e w' => e = .returned (.bool true) ∧ Below w.heap.size w w' := by
  have HT := Lib.hid hT
  have HR := Lib.hid hR
  have HW := Lib.hid hw
  have HFX := Lib.hid (layW_fits At ws hws (min n0 9))
  clear hT hR hw hws
  have HLY := Lib.hid (fun (W : World) (hW : Below w.heap.size w W) => lay20 W B At hAt A n0 c ws HW.out hnc (HR.out.below hW))
  have HFI := Lib.hid (fun (W : World) => fits20 W B At A n0 c hB hAt)
  obtain ⟨xs, hxs⟩ : ∃ xs, layW At ws (min n0 9) = xs := ⟨_, rfl⟩
  rw [hxs] at HFX HLY
  clear hxs
  unfold inv20 at HLY HFI ⊢
  refine calls_marks Tryd.func7 rfl ?_
  simp only [Tryd.ntmps7, List.size_toArray, List.length_cons, List.length_nil, Nat.reduceAdd, Nat.reduceSub, Array.replicate_succ, Array.replicate_zero, List.push_toArray, List.append_toArray, List.nil_append, List.cons_append]
  go_upto_region 1 with (fail)
  have hg0 : CB (((w.alloc (.cells #[.int .i64 B, .int .i64 At, .slice A n0 c] 24)).alloc (.cells #[.int .u8 st] 5)).alloc (.cells #[.bool false] 4)) w.heap.size 24 #[.int .i64 B, .int .i64 At, .slice A n0 c] := ((CB.new _ _ _).alloc _).alloc _
  have hs0 : CB (((w.alloc (.cells #[.int .i64 B, .int .i64 At, .slice A n0 c] 24)).alloc (.cells #[.int .u8 st] 5)).alloc (.cells #[.bool false] 4)) (w.heap.size + 1) 5 #[.int .u8 st] := (CB.new_at _ _ _ (by simp)).alloc _
  have hr0 : CB (((w.alloc (.cells #[.int .i64 B, .int .i64 At, .slice A n0 c] 24)).alloc (.cells #[.int .u8 st] 5)).alloc (.cells #[.bool false] 4)) (w.heap.size + 1 + 1) 4 #[.bool false] := CB.new_at _ _ _ (by simp)
  have hbw : Below w.heap.size w (((w.alloc (.cells #[.int .i64 B, .int .i64 At, .slice A n0 c] 24)).alloc (.cells #[.int .u8 st] 5)).alloc (.cells #[.bool false] 4)) := by (repeat (first | with_reducible exact Below.refl _ _ | with_reducible refine bl_alloc ?_ _ | with_reducible refine bl_drew ?_ | with_reducible refine bl_drewN ?_ _ | with_reducible refine bl_bx ?_ _ | with_reducible exact BX.below _ | with_reducible refine bl_set ?_ (by first | (exact Nat.le_refl _) | (simp; done) | (simp; omega)) _ | assumption))
  obtain ⟨W0, hW0⟩ : ∃ W0, ((w.alloc (.cells #[.int .i64 B, .int .i64 At, .slice A n0 c] 24)).alloc (.cells #[.int .u8 st] 5)).alloc (.cells #[.bool false] 4) = W0 := ⟨_, rfl⟩
  rw [hW0] at hg0 hs0 hr0 hbw
  rw [hW0]
  obtain ⟨g, hg⟩ : ∃ g, w.heap.size = g := ⟨_, rfl⟩
  obtain ⟨gs, hgs⟩ : ∃ gs, w.heap.size + 1 = gs := ⟨_, rfl⟩
  obtain ⟨gr, hgr⟩ : ∃ gr, w.heap.size + 1 + 1 = gr := ⟨_, rfl⟩
  have hrel : g < gs ∧ gs < gr := by omega
  have HGR : Hid (w.heap.size < gr) := by show _ < _; omega
  rw [hgr] at hr0
  rw [hgs] at hs0
  rw [hg] at hg0
  rw [hgr, hgs, hg]
  have HBW := Lib.hid hbw
  have HG0 := Lib.hid hg0
  have HS0 := Lib.hid hs0
  have HR0 := Lib.hid hr0
  have b0 := hg0.cell 0
  have b1 := hg0.cell 1
  have b2 := hg0.cell 2
  have bl := hg0.lt
  clear hW0 hg hgs hgr hbw hg0 hs0 hr0
  go_upto_region 4 with (first
    | (go_at_call 10; refine (awake20 _ (HT.out.below HBW.out)).mono ?_; rintro e w' ⟨rfl, hb⟩; obtain ⟨x, rfl⟩ := bx_of hb; clear hb)
    | (go_at_call 11; refine (HLY.out _ (HBW.out.trans (x.below.mono HBW.out.size))).mono ?_; rintro e w1 ⟨d, t, S, rfl, hV, hO, hB1⟩; have HV := Lib.hid hV; have HO := Lib.hid hO; have HB1 := Lib.hid hB1; clear hV hO hB1))
  have HX1 : Hid (gr < x.w.heap.size) := by have h1 := HR0.out.lt; have h2 := x.size; show _ < _; omega
  have hb01 : Below W0.heap.size W0 w1 := x.below.trans (HB1.out.mono x.size)
  have HB2 := Lib.hid (HBW.out.trans (hb01.mono HBW.out.size))
  have HG1 := Lib.hid (HG0.out.below hb01)
  have HS1 := Lib.hid (HS0.out.below hb01)
  have HR1 := Lib.hid (HR0.out.below hb01)
  have HXW : Hid (x.w.heap.size ≤ w1.heap.size) := HB1.out.size
  have HTW := Lib.hid (HT.out.below HB2.out)
  obtain ⟨T, hTT⟩ : ∃ T, t 0 = T := ⟨_, rfl⟩
  have HSZ := Lib.hid (onSize HV.out HO.out)
  have HER := Lib.hid (onErr HV.out HO.out)
  have HLD := Lib.hid (ldV HV.out HO.out 0 (by omega))
  rw [hTT] at HSZ HER HLD
  rw [hTT]
  have HTT := Lib.hid hTT
  clear hTT hb01 b0 b1 b2 bl HLY HB1 HR HW HT
  have b0 := HG1.out.cell 0
  have b1 := HG1.out.cell 1
  have b2 := HG1.out.cell 2
  have bl := HG1.out.lt
  cases hfit : fitsB B At with
  | false =>
    rw [hfit] at HFI
    clear hfit
    have r0 := HR1.out.cell 0
    have rl := HR1.out.lt
    have rf := HR1.out.frozen 0
    go_wp2_with (go_at_call 12; refine (HFI.out _).mono ?_; rintro e w' ⟨rfl, hb⟩; obtain ⟨y, rfl⟩ := bx_of hb; clear hb)
    have hRW : CB (y.w.setCell ⟨gr, 0, none⟩ (.bool true)) gr 4 #[.bool true] := (HR1.out.bx y).set 0 (.bool true)
    have hc := hRW.cell 0
    have hBW : Below w.heap.size w (y.w.setCell ⟨gr, 0, none⟩ (.bool true)) := (HB2.out.trans (y.below.mono HB2.out.size)).setCell (p := ⟨gr, 0, none⟩) (Nat.le_of_lt HGR.out) _
    exact ⟨.bool true, by simp [results, Tryd.results7, go_sem, hc], rfl, hBW⟩
  | true =>
    rw [hfit] at HFI
    unfold fitsB at hfit
    simp only [Bool.and_eq_true, decide_eq_true_eq] at hfit
    obtain ⟨f1, f2, f3, f4, f5⟩ := hfit
    obtain ⟨n, rfl⟩ := Int.eq_ofNat_of_zero_le (show 0 ≤ B by omega)
    obtain ⟨a, rfl⟩ := Int.eq_ofNat_of_zero_le f3
    have hn1 : 1 ≤ n := by omega
    have hn2 : n ≤ 512 := by omega
    obtain ⟨m, hm⟩ : ∃ m, (n + 63) / 64 = m := ⟨_, rfl⟩
    have ham : a + m ≤ 96 := by omega
    have hnm : n ≤ 64 * m := by omega
    have hok : openB (8 * (a : Int)) n = true := by
      unfold openB
      rw [decide_eq_true (by omega), decide_eq_true (by omega), decide_eq_true (by omega), decide_eq_true (by omega)]; rfl
    have e1 : IntKind.u64.wrap (a : Int) = (a : Int) := IntWalk.u64_in _ (by omega)
    have e2 : IntKind.u64.wrap (8 * (a : Int)) = 8 * (a : Int) := IntWalk.u64_in _ (by omega)
    have HOPN : Hid (∀ W, Below w1.heap.size w1 W → Calls Tryd.prog 13 #[.iface 28 (.pointer (some ⟨T, 0, none⟩)), .int .u64 (8 * (a : Int)), .int .i64 n] W fun e w' => e = .returned (.tuple #[.agg #[.iface 28 (.pointer (some ⟨T, 0, none⟩)), .int .u64 (8 * (a : Int)), .int .i64 n], .int .i64 0]) ∧ Below W.heap.size W w') := by
      intro W hW
      have := bmOpen_ok W T (8 * (a : Int)) n 0 (by omega) (fun W' hW' => HSZ.out W' (hW.trans (hW'.mono hW.size))) (fun W' hW' => HER.out W' (hW.trans (hW'.mono hW.size))) hok
      rwa [if_pos rfl] at this
    have hxl := HFX.out.2
    obtain ⟨V, hV⟩ : ∃ V, (xs.drop a).take m = V := ⟨_, rfl⟩
    have hfw : FitsB V := by rw [← hV]; exact fun v hv => HFX.out.1 v (List.mem_of_mem_drop (List.mem_of_mem_take hv))
    have hlw : V.length = m := by rw [← hV, List.length_take, List.length_drop, hxl]; omega
    have HRD : Hid (∀ W, Below w1.heap.size w1 W → Calls Tryd.prog 14 #[.pointer (some ⟨T, 0, none⟩), .agg #[.int .i64 n, .int .i64 a, .slice A n0 c]] W (ReadPost W V m)) := fun W hW => by
      have := read20 W T xs a n m (HLD.out.below hW) hxl hm ham hn2 A n0 c
      rwa [hV] at this
    have HRF : Hid (∀ (W : World) (A2 : Option Addr) (c2 : Nat), Sl 34 1 W A2 m c2 (uints V) → Calls Tryd.prog 26 #[.slice A2 m c2, .int .i64 n] W (RefRunsPost W (runsR V n 0))) := fun W A2 c2 hS => refRuns20 W A2 m c2 V hlw hS.rdU hfw n hnm hn2
    have HVV := Lib.hid hV
    clear f1 f2 f4 f5 hok hV hfw hlw HER HSZ HLD
    go_upto_region 9 with (first
      | (go_at_call 12; refine (HFI.out _).mono ?_; rintro e w' ⟨rfl, hb⟩; obtain ⟨y, rfl⟩ := bx_of hb; clear hb)
      | (go_at_call 13; refine (HOPN.out _ (by (repeat (first | with_reducible exact Below.refl _ _ | with_reducible refine bl_alloc ?_ _ | with_reducible refine bl_drew ?_ | with_reducible refine bl_drewN ?_ _ | with_reducible refine bl_bx ?_ _ | with_reducible exact BX.below _ | with_reducible refine bl_set ?_ (by first | (exact Nat.le_refl _) | (simp; done) | (simp; omega)) _ | assumption)))).mono ?_; rintro e w' ⟨rfl, hb⟩; obtain ⟨z, rfl⟩ := bx_of hb; clear hb))
    have hbm : CB (z.w.alloc (.cells #[.iface 28 (.pointer (some ⟨T, 0, none⟩)), .int .u64 (8 * (a : Int)), .int .i64 n] 36)) z.w.heap.size 36 #[.iface 28 (.pointer (some ⟨T, 0, none⟩)), .int .u64 (8 * (a : Int)), .int .i64 n] := CB.new _ _ _
    have hb5 : Below w1.heap.size w1 (z.w.alloc (.cells #[.iface 28 (.pointer (some ⟨T, 0, none⟩)), .int .u64 (8 * (a : Int)), .int .i64 n] 36)) := by (repeat (first | with_reducible exact Below.refl _ _ | with_reducible refine bl_alloc ?_ _ | with_reducible refine bl_drew ?_ | with_reducible refine bl_drewN ?_ _ | with_reducible refine bl_bx ?_ _ | with_reducible exact BX.below _ | with_reducible refine bl_set ?_ (by first | (exact Nat.le_refl _) | (simp; done) | (simp; omega)) _ | assumption))
    have hgb : w1.heap.size ≤ z.w.heap.size := by have h1 := y.size; have h2 := z.size; omega
    obtain ⟨gb, hgbe⟩ : ∃ gb, z.w.heap.size = gb := ⟨_, rfl⟩
    obtain ⟨W5, hW5⟩ : ∃ W5, z.w.alloc (.cells #[.iface 28 (.pointer (some ⟨T, 0, none⟩)), .int .u64 (8 * (a : Int)), .int .i64 n] 36) = W5 := ⟨_, rfl⟩
    rw [hgbe, hW5] at hbm
    rw [hW5] at hb5
    rw [hgbe] at hgb
    rw [hgbe, hW5]
    have HBM := Lib.hid hbm
    have HB5 := Lib.hid hb5
    have HG5 := Lib.hid (HG1.out.below hb5)
    have HS5 := Lib.hid (HS1.out.below hb5)
    have HR5 := Lib.hid (HR1.out.below hb5)
    clear hgbe hW5 hbm hb5 b0 b1 b2 bl
    have b0 : W5.cell? ⟨g, 0, none⟩ = some (.int .i64 n) := HG5.out.cell 0
    have b1 : W5.cell? ⟨g, 1, none⟩ = some (.int .i64 a) := HG5.out.cell 1
    have b2 : W5.cell? ⟨g, 2, none⟩ = some (.slice A n0 c) := HG5.out.cell 2
    have bl := HG5.out.lt
    obtain ⟨L, hL⟩ : ∃ L, runsR V n 0 = L := ⟨_, rfl⟩
    rw [hL] at HRF
    have HLL := Lib.hid hL
    clear hL
    go_cut [9] from 37 (fun s wx => RunsRel W5 L s wx)
    case first =>
      clear HV HO HG0 HS0 HR0 HG1 HS1 HR1 HS5 HR5 HTW HB2 HBW HFI HOPN
      refine wp_region_noPanic ?_
      go_region_with
        (first
          | (go_at_call 14; refine (HRD.out _ (HB5.out.trans (Below.mono (by (repeat (first | with_reducible exact Below.refl _ _ | with_reducible refine bl_alloc ?_ _ | with_reducible refine bl_drew ?_ | with_reducible refine bl_drewN ?_ _ | with_reducible refine bl_bx ?_ _ | with_reducible exact BX.below _ | with_reducible refine bl_set ?_ (by first | (exact Nat.le_refl _) | (simp; done) | (simp; omega)) _ | assumption))) HB5.out.size))).mono ?_; rintro e w' ⟨A2, c2, rfl, hS2, hO2, hb⟩; obtain ⟨x2, rfl⟩ := bx_of hb; clear hb)
          | (go_at_call 26; refine (HRF.out _ _ _ (by first | assumption | exact hS2.keep (fun b hb => (show Below _ _ _ by (repeat (first | with_reducible exact Below.refl _ _ | with_reducible refine bl_alloc ?_ _ | with_reducible refine bl_drew ?_ | with_reducible refine bl_drewN ?_ _ | with_reducible refine bl_bx ?_ _ | with_reducible exact BX.below _ | with_reducible refine bl_set ?_ (by first | (exact Nat.le_refl _) | (simp; done) | (simp; omega)) _ | assumption))).block b (hS2.lt hb)))).mono ?_; rintro e w' ⟨A5, c5, rfl, hR5', hO5, hb⟩; obtain ⟨x5, rfl⟩ := bx_of hb; clear hb))
      all_goals refine NoPanic.normal ?_
      all_goals try go_wp2
      all_goals go_meet
      all_goals first
        | exact runsRelA (by (repeat (first | with_reducible exact Below.refl _ _ | with_reducible refine bl_alloc ?_ _ | with_reducible refine bl_drew ?_ | with_reducible refine bl_drewN ?_ _ | with_reducible refine bl_bx ?_ _ | with_reducible exact BX.below _ | with_reducible refine bl_set ?_ (by first | (exact Nat.le_refl _) | (simp; done) | (simp; omega)) _ | assumption))) hR5' (fun b hb => (hO5 b hb).2)
        | exact runsRelB (by (repeat (first | with_reducible exact Below.refl _ _ | with_reducible refine bl_alloc ?_ _ | with_reducible refine bl_drew ?_ | with_reducible refine bl_drewN ?_ _ | with_reducible refine bl_bx ?_ _ | with_reducible exact BX.below _ | with_reducible refine bl_set ?_ (by first | (exact Nat.le_refl _) | (simp; done) | (simp; omega)) _ | assumption))) rfl (by (repeat (first | with_reducible exact Below.refl _ _ | with_reducible refine bl_alloc ?_ _ | with_reducible refine bl_drew ?_ | with_reducible refine bl_drewN ?_ _ | with_reducible refine bl_bx ?_ _ | with_reducible exact BX.below _ | with_reducible refine bl_set ?_ (by first | (exact Nat.le_refl _) | (simp; done) | (simp; omega)) _ | assumption))) hR5' (fun b hb => by have h1 := hO5 b hb; have h2 := x2.size; simp at h1 h2 ⊢; omega)
        | trace_state
      all_goals sorry
    case rest =>
      obtain ⟨gw, A5, c5, rfl, hCW, hRW, hOW, hBc, hgw⟩ := hcut
      have hm6 := HBM.out.below hBc
      have k0 := hm6.cell 0
      have k1 := hm6.cell 1
      have k2 := hm6.cell 2
      have kl := hm6.lt
      have HRN := Lib.hid (fun (W : World) => bmRuns W (.iface 28 (.pointer (some ⟨T, 0, none⟩))) (8 * (a : Int)) n)
      have hc6 : CB (wc.alloc (.cells #[.int .i64 0] 3)) wc.heap.size 3 #[.int .i64 0] := CB.new _ _ _
      have hb56 : Below W5.heap.size W5 (wc.alloc (.cells #[.int .i64 0] 3)) := bl_alloc hBc _
      go_upto_region 11 with (fail)
      obtain ⟨gn, hgne⟩ : ∃ gn, wc.heap.size = gn := ⟨_, rfl⟩
      have hgn5 : W5.heap.size ≤ gn := by rw [← hgne]; exact hBc.size
      have hgwn : gw < gn := by rw [← hgne]; exact hCW.lt
      have hRW6 : Rd .i64 (wc.alloc (.cells #[.int .i64 0] 3)) A5 (flatR L) := hRW.alloc _
      have hCW6 : CB (wc.alloc (.cells #[.int .i64 0] 3)) gw 25 #[.slice A5 (2 * L.length) c5] := hCW.alloc _
      have hm6' := hm6.alloc (.cells #[.int .i64 0] 3)
      have hOW6 : ∀ b, OwnB A5 b → b < gn := fun b hb => by rw [← hgne]; exact (hOW b hb).1
      obtain ⟨W6, hW6⟩ : ∃ W6, wc.alloc (.cells #[.int .i64 0] 3) = W6 := ⟨_, rfl⟩
      rw [hgne, hW6] at hc6
      rw [hW6] at hb56 hRW6 hCW6 hm6'
      rw [hgne, hW6]
      have hgn6 : gn < W6.heap.size := hc6.lt
      clear k0 k1 k2 kl
      have k0 := hm6'.cell 0
      have k1 := hm6'.cell 1
      have k2 := hm6'.cell 2
      have kl := hm6'.lt
      clear hgne hW6 hCW hRW hBc hm6 hOW
      go_wp2_with (go_at_call 27; refine (HRN.out _).mono ?_; rintro e w' ⟨rfl, rfl⟩)
      clear k0 k1 k2 kl b0 b1 b2 bl
      have hq : CB (W6.alloc (.cells #[.iface 28 (.pointer (some ⟨T, 0, none⟩)), .int .u64 (8 * (a : Int)), .int .i64 n] 36)) W6.heap.size 36 #[.iface 28 (.pointer (some ⟨T, 0, none⟩)), .int .u64 (8 * (a : Int)), .int .i64 n] := CB.new _ _ _
      have hb67 : Below W6.heap.size W6 (W6.alloc (.cells #[.iface 28 (.pointer (some ⟨T, 0, none⟩)), .int .u64 (8 * (a : Int)), .int .i64 n] 36)) := bl_alloc (Below.refl _ _) _
      obtain ⟨gq, hgq⟩ : ∃ gq, W6.heap.size = gq := ⟨_, rfl⟩
      have hgqn : gn < gq := by rw [← hgq]; exact hgn6
      obtain ⟨W7, hW7⟩ : ∃ W7, W6.alloc (.cells #[.iface 28 (.pointer (some ⟨T, 0, none⟩)), .int .u64 (8 * (a : Int)), .int .i64 n] 36) = W7 := ⟨_, rfl⟩
      rw [hgq, hW7] at hq
      rw [hW7] at hb67
      rw [hgq, hW7]
      have hb57 : Below W5.heap.size W5 W7 := hb56.trans (hb67.mono hb56.size)
      have hb17 : Below w1.heap.size w1 W7 := HB5.out.trans (hb57.mono HB5.out.size)
      have hsz := hb17.size
      have hw15 := HB5.out.size
      have hbw7 : Below w.heap.size w W7 := HB2.out.trans (hb17.mono HB2.out.size)
      have HC7 : Hid (CB W7 gn 3 #[.int .i64 0]) := hc6.below hb67
      have HQ7 := Lib.hid hq
      have HRW7 : Hid (Rd .i64 W7 A5 (flatR L)) := hRW6.below hb67
      have HCW7 : Hid (CB W7 gw 25 #[.slice A5 (2 * L.length) c5]) := hCW6.below hb67
      have HS7 : Hid (CB W7 gs 5 #[.int .u8 st]) := HS5.out.below hb57
      have HR7 : Hid (CB W7 gr 4 #[.bool false]) := HR5.out.below hb57
      have hgs5 := HS5.out.lt
      have hgr5 := HR5.out.lt
      have hq7 := hq.lt
      have HBW7 := Lib.hid hbw7
      have HOW6 := Lib.hid hOW6
      have hDV := HV.out.less hb17 (fun b => w1.heap.size ≤ b ∧ b < W7.heap.size) (fun b hb => hb)
      have hRok : RunsOk (Ch (RnS gn W7.heap.size)) gq T (8 * (a : Int)) n V W7 := by
        intro W hW
        have hb1W : Below w1.heap.size w1 W := bl_ch hb17 hW (fun b hb => by rcases hb with h | h <;> omega)
        refine ⟨HQ7.out.ch hW (fun hS => by rcases hS with h | h <;> omega), fun i set => ?_⟩
        have hDW := hDV.ch hW (fun b hb hf hS => by
          rcases hS with h | h
          · exact hf.2 ⟨by omega, hb⟩
          · omega)
        have hLW := ldV hDW HO.out 0 (by omega)
        rw [HTT.out] at hLW
        have := bmNext W T xs a n (HTW.out.below hb1W) hLW HFX.out.1 (by rw [hm, hxl]; exact ham) (by omega) hn1 hn2 i set
        rwa [← runs_take V (xs.drop a) m n HVV.out hnm] at this
      have hstops := runs_stops 5 (by omega) (Ch (RnS gn W7.heap.size)) (fun h k => rnS_trans h k) (fun A B h => Ch.of_below h) gq T (8 * (a : Int)) n hn2 V W7 hRok
      rw [HLL.out] at hstops
      have HST := Lib.hid hstops
      clear hgq hW7 hq hb67 hb56 hc6 hb57 hb17 hbw7 hRW6 hCW6 hOW6 hm6' hDV hRok hstops
      refine (wpIn_wide (n := 6)).1 (wpIn_rangeFunc_ownF (α := Int × Int) (F := Fence.wide) rfl (by omega) (gf := 47) (lb := #[.pointer (some ⟨gq, 0, none⟩)]) rfl trivial (enters_of Tryd.func47 (by kernel_rfl) rfl)
        HST.out (fun h k => rnS_trans h k) (fun W l o o' => rnS_put W l o o') (Below.refl _ _) (fun _ => rfl)
        (RnI W7 gn) (RnX W7 gn st L) (rnI_own W7 gn) (rnX_own W7 gn st L) ⟨HC7.out, Ch.refl _ _⟩ (fun x => _) (fun l x W K hK => by simp only [fold2, List.setIfInBounds_toArray, List.set_cons_succ, List.set_cons_zero]; gi_wp2; exact hK) ?body ?done ?stop)
      case body =>
        rintro l pre x W ⟨hc, hk⟩ hlt
        obtain ⟨p1, p2⟩ := x
        have hLb : L.length ≤ n + 1 := by rw [← HLL.out]; exact runsR_le V n (n + 1) 0
        have hsW := hk.size
        have hl1 := HCW7.out.lt
        have hl2 := HS7.out.lt
        have hl3 := HR7.out.lt
        have hCWW := HCW7.out.ch hk (fun hS => by rcases hS with h | h <;> omega)
        have hSW := HS7.out.ch hk (fun hS => by rcases hS with h | h <;> omega)
        have hRWW := HR7.out.ch hk (fun hS => by rcases hS with h | h <;> omega)
        have hRdW := rd_ch HRW7.out hk (fun b hb hS => by have := HOW6.out b hb; rcases hS with h | h <;> omega)
        obtain ⟨f1, f2⟩ := flatR_at L pre.length hlt
        obtain ⟨l1, e1'⟩ := List.getElem?_eq_some_iff.1 f1
        obtain ⟨l2, e2'⟩ := List.getElem?_eq_some_iff.1 f2
        obtain ⟨bw, ow, hA5, hbw', hw1⟩ := hRdW.at_ l1
        obtain ⟨bw', ow', hA5', _, hw2⟩ := hRdW.at_ l2
        rw [hA5] at hA5'
        injection hA5' with hA5'
        injection hA5' with q1 q2
        subst q1 q2
        rw [e1'] at hw1
        rw [e2'] at hw2
        have hpx : ∀ q1 q2 : Int, (pre ++ [(q1, q2)]) <+: L → L[pre.length].1 = q1 ∧ L[pre.length].2 = q2 := by
          intro q1 q2 h
          have := h.getElem (i := pre.length) (by simp)
          rw [List.getElem_append_right (Nat.le_refl _)] at this
          simp only [Nat.sub_self, List.getElem_cons_zero] at this
          rw [← this]
          exact ⟨rfl, rfl⟩
        have HPX := Lib.hid hpx
        obtain ⟨v1, hv1⟩ : ∃ v, L[pre.length].1 = v := ⟨_, rfl⟩
        obtain ⟨v2, hv2⟩ : ∃ v, L[pre.length].2 = v := ⟨_, rfl⟩
        rw [hv1] at hw1 HPX
        rw [hv2] at hw2 HPX
        have c10 := hc.cell 0
        have c10f := hc.frozen 0
        have c10l := hc.lt
        have c9 := hCWW.cell 0
        have c9l := hCWW.lt
        have c3 := hSW.cell 0
        have c3l := hSW.lt
        have c4 := hRWW.cell 0
        have c4l := hRWW.lt
        have c4f := hRWW.frozen 0
        have HC := Lib.hid hc
        have HK := Lib.hid hk
        obtain ⟨np, hnp⟩ : ∃ np, pre.length = np := ⟨_, rfl⟩
        have HNP := Lib.hid hnp
        obtain ⟨nl, hnl⟩ : ∃ nl, 2 * L.length = nl := ⟨_, rfl⟩
        have hnl2 : 2 * np + 1 < nl := by omega
        have hge : ¬ 2 * (np : Int) + 1 ≥ (nl : Int) := by omega
        have hnpb : np ≤ 1000 := by omega
        rw [hnp] at c10 hw1 hw2
        rw [hnl, hA5] at c9
        clear hc hk hpx hv1 hv2 hnp hnl f1 f2 l1 l2 e1' e2' hRdW hCWW hSW hRWW hA5 hlt
        by_cases h1 : v1 = p1
        · subst h1
          by_cases h2 : v2 = p2
          · subst h2
            have hb1 : (v1 != v1) = false := by simp
            have hb2 : (v2 != v2) = false := by simp
            by_cases h3 : (np : Int) + 1 = st
            · have h3' : ((np : Int) + 1 == st) = true := by simpa using h3
              gi_wp2
              refine ⟨KeepsOthers.setCell _ _ _, .inl ⟨rfl, ⟨?_, ?_⟩, ?_, ?_⟩⟩
              · have e9 : (((pre ++ [(v1, v2)]).length : Nat) : Int) = st := by simp [HNP.out]; omega
                rw [e9]
                have := HC.out.set 0 (.int .i64 st)
                simpa using this
              · exact rnS_trans HK.out ((Ch.refl (RnS gn W7.heap.size) W).setCell (a := ⟨gn, 0, none⟩) (.inl (.inl rfl)) _)
              · simp [HNP.out]; omega
              · simp
            · have h3' : ((np : Int) + 1 == st) = false := by simpa using h3
              gi_wp2
              refine ⟨KeepsOthers.setCell _ _ _, (Ch.refl (RnS gn W7.heap.size) W).setCell (a := ⟨gn, 0, none⟩) (.inl (.inl rfl)) _, ?_, ?_⟩
              · have := HC.out.set 0 (.int .i64 ((np : Int) + 1))
                simpa [HNP.out] using this
              · exact rnS_trans HK.out ((Ch.refl (RnS gn W7.heap.size) W).setCell (a := ⟨gn, 0, none⟩) (.inl (.inl rfl)) _)
          · have hb1 : (v1 != v1) = false := by simp
            have hb2 : (v2 != p2) = true := by simpa using h2
            gi_wp2
            exact ⟨KeepsOthers.setCell _ _ _, .inr ⟨rfl, fun h => h2 (HPX.out _ _ h).2⟩⟩
        · have hb1 : (v1 != p1) = true := by simpa using h1
          gi_wp2
          exact ⟨KeepsOthers.setCell _ _ _, .inr ⟨rfl, fun h => h1 (HPX.out _ _ h).1⟩⟩
      case done =>
        rintro D ys W hD hys ⟨hc, hk⟩ hK
        obtain rfl : ys = L := hys
        have hl1 := HCW7.out.lt
        have hl2 := HS7.out.lt
        have hl3 := HR7.out.lt
        have hCWW := HCW7.out.ch hk (fun hS => by rcases hS with h | h <;> omega)
        have hSW := HS7.out.ch hk (fun hS => by rcases hS with h | h <;> omega)
        have hRWW := HR7.out.ch hk (fun hS => by rcases hS with h | h <;> omega)
        have HRWW := Lib.hid hRWW
        have HKD := Lib.hid hK
        have hww1 : w.heap.size ≤ w1.heap.size := HB2.out.size
        have hww7 := HBW7.out.size
        have HBWW : Hid (Below w.heap.size w W) := bl_ch HBW7.out hk (fun b hb => by rcases hb with h | h <;> omega)
        have c10 := hc.cell 0
        have c10l := hc.lt
        have c9 := hCWW.cell 0
        have c9l := hCWW.lt
        have c3 := hSW.cell 0
        have c3l := hSW.lt
        have c4 := hRWW.cell 0
        have c4l := hRWW.lt
        have c4f := hRWW.frozen 0
        have hLb : ys.length ≤ n + 1 := by rw [← HLL.out]; exact runsR_le V n (n + 1) 0
        obtain ⟨np, hnp⟩ : ∃ np, ys.length = np := ⟨_, rfl⟩
        obtain ⟨nl, hnl⟩ : ∃ nl, 2 * ys.length = nl := ⟨_, rfl⟩
        have hq : (2 * (np : Int) == (nl : Int)) = true := by simp; omega
        have hnpb : np ≤ 1000 := by omega
        rw [hnp] at c10
        rw [hnl] at c9
        clear hc hk hK hCWW hSW hRWW hnp hnl
        dsimp only [Exit.inBlock, Exit.then]
        go_wp2
        have hDr : gr ≠ D := by
          rintro rfl
          have h9 := HRWW.out
          unfold CB at h9
          rw [HKD.out] at h9
          cases h9
        obtain ⟨Z, hZ⟩ : ∃ Z, W.setCell ⟨gr, 0, none⟩ (.bool true) = Z := ⟨_, rfl⟩
        have hKZ : Z.heap[D]? = some (.deferred (some [])) := by
          rw [← hZ]
          exact (Below.heap_setCell W ⟨gr, 0, none⟩ (.bool true) D (fun h => hDr h.symm)).trans HKD.out
        have hRZ : CB Z gr 4 #[.bool true] := by rw [← hZ]; exact HRWW.out.set 0 (.bool true)
        have hBZ : Below w.heap.size w Z := by
          rw [← hZ]
          exact HBWW.out.setCell (p := ⟨gr, 0, none⟩) (Nat.le_of_lt HGR.out) _
        rw [hZ]
        have hcc := (hRZ.keep (w' := Z.putObj D (.deferred none)) (World.putObj_heap_other hDr)).cell 0
        refine ⟨by simp, .inl ⟨_, _, rfl, run_takeDeferred hKZ, ?_⟩⟩
        exact ⟨.bool true, by simp [results, Tryd.results7, go_sem, hcc], rfl, hBZ.trans (belowK_b (w := w) (Nat.le_refl _) Z D _ _ (by have := HBW7.out.size; omega) hKZ rfl rfl)⟩
      case stop =>
        rintro D cc pre W hD hpre hX hK
        rcases hX with ⟨rfl, ⟨hc, hk⟩, hst1, hst2⟩ | ⟨rfl, hno⟩
        · skip
          have hl1 := HCW7.out.lt
          have hl2 := HS7.out.lt
          have hl3 := HR7.out.lt
          have hCWW := HCW7.out.ch hk (fun hS => by rcases hS with h | h <;> omega)
          have hSW := HS7.out.ch hk (fun hS => by rcases hS with h | h <;> omega)
          have hRWW := HR7.out.ch hk (fun hS => by rcases hS with h | h <;> omega)
          have HRWW := Lib.hid hRWW
          have HKD := Lib.hid hK
          have hww1 : w.heap.size ≤ w1.heap.size := HB2.out.size
          have hww7 := HBW7.out.size
          have HBWW : Hid (Below w.heap.size w W) := bl_ch HBW7.out hk (fun b hb => by rcases hb with h | h <;> omega)
          have c10 := hc.cell 0
          have c10l := hc.lt
          have c9 := hCWW.cell 0
          have c9l := hCWW.lt
          have c3 := hSW.cell 0
          have c3l := hSW.lt
          have c4 := hRWW.cell 0
          have c4l := hRWW.lt
          have c4f := hRWW.frozen 0
          have hLb : L.length ≤ n + 1 := by rw [← HLL.out]; exact runsR_le V n (n + 1) 0
          have hpl := hpre.length_le
          obtain ⟨np, hnp⟩ : ∃ np, pre.length = np := ⟨_, rfl⟩
          obtain ⟨nl, hnl⟩ : ∃ nl, 2 * L.length = nl := ⟨_, rfl⟩
          have hgt : st > 0 := by omega
          have heq : ((np : Int) == st) = true := by rw [hnp] at hst1; simpa using hst1
          have hnpb : np ≤ 1000 := by omega
          rw [hnp] at c10
          rw [hnl] at c9
          have hqq : (2 * (np : Int) == (nl : Int)) = true ∨ (2 * (np : Int) == (nl : Int)) = false := by cases (2 * (np : Int) == (nl : Int)) <;> simp
          clear hc hk hK hCWW hSW hRWW hnp hnl hpre hst1 hst2 hpl
          refine wpIn_exit ?_
          rcases hqq with hq | hq
          · dsimp only [Exit.inBlock, Exit.then]
            simp only [if_true, ↓reduceIte]
            go_wp2
            have hDr : gr ≠ D := by
              rintro rfl
              have h9 := HRWW.out
              unfold CB at h9
              rw [HKD.out] at h9
              cases h9
            obtain ⟨Z, hZ⟩ : ∃ Z, W.setCell ⟨gr, 0, none⟩ (.bool true) = Z := ⟨_, rfl⟩
            have hKZ : Z.heap[D]? = some (.deferred (some [])) := by
              rw [← hZ]
              exact (Below.heap_setCell W ⟨gr, 0, none⟩ (.bool true) D (fun h => hDr h.symm)).trans HKD.out
            have hRZ : CB Z gr 4 #[.bool true] := by rw [← hZ]; exact HRWW.out.set 0 (.bool true)
            have hBZ : Below w.heap.size w Z := by
              rw [← hZ]
              exact HBWW.out.setCell (p := ⟨gr, 0, none⟩) (Nat.le_of_lt HGR.out) _
            rw [hZ]
            have hcc := (hRZ.keep (w' := Z.putObj D (.deferred none)) (World.putObj_heap_other hDr)).cell 0
            refine ⟨by simp, .inl ⟨_, _, rfl, run_takeDeferred hKZ, ?_⟩⟩
            exact ⟨.bool true, by simp [results, Tryd.results7, go_sem, hcc], rfl, hBZ.trans (belowK_b (w := w) (Nat.le_refl _) Z D _ _ (by have := HBW7.out.size; omega) hKZ rfl rfl)⟩
          · dsimp only [Exit.inBlock, Exit.then]
            simp only [if_true, ↓reduceIte]
            go_wp2
            have hDr : gr ≠ D := by
              rintro rfl
              have h9 := HRWW.out
              unfold CB at h9
              rw [HKD.out] at h9
              cases h9
            obtain ⟨Z, hZ⟩ : ∃ Z, W.setCell ⟨gr, 0, none⟩ (.bool true) = Z := ⟨_, rfl⟩
            have hKZ : Z.heap[D]? = some (.deferred (some [])) := by
              rw [← hZ]
              exact (Below.heap_setCell W ⟨gr, 0, none⟩ (.bool true) D (fun h => hDr h.symm)).trans HKD.out
            have hRZ : CB Z gr 4 #[.bool true] := by rw [← hZ]; exact HRWW.out.set 0 (.bool true)
            have hBZ : Below w.heap.size w Z := by
              rw [← hZ]
              exact HBWW.out.setCell (p := ⟨gr, 0, none⟩) (Nat.le_of_lt HGR.out) _
            rw [hZ]
            have hcc := (hRZ.keep (w' := Z.putObj D (.deferred none)) (World.putObj_heap_other hDr)).cell 0
            refine ⟨by simp, .inl ⟨_, _, rfl, run_takeDeferred hKZ, ?_⟩⟩
            exact ⟨.bool true, by simp [results, Tryd.results7, go_sem, hcc], rfl, hBZ.trans (belowK_b (w := w) (Nat.le_refl _) Z D _ _ (by have := HBW7.out.size; omega) hKZ rfl rfl)⟩
        · exact absurd hpre hno
end Go.Proofs.YtbhkdngbgokilaaDoor
