/- The law MemPrograms. -/
import Derived.Test.YtngkhligjkcbmaaKv
import Derived.Test.YtngkhligjkcbmaaKq
namespace Go.Proofs.Ytngkhligjkcbmaa
open Go.RowKit
set_option linter.unusedVariables false

theorem length_progOf (z : List (Int × Int × Int)) : (progOf z).length ≤ 40 := by unfold progOf; rw [List.length_map, List.length_take]; omega
theorem length_withoutP (ps : List Ins) (f : Int) : (withoutP ps f).length ≤ ps.length := by
  have : ∀ k, (woS (ps.take k) f).1.length ≤ k := by
    intro k
    induction k with
    | zero => simp [woS]
    | succ k ih =>
      by_cases hk : k < ps.length
      · rw [List.take_succ_eq_append_getElem hk, woS_snoc]
        split
        · split <;> simp <;> omega
        · simp; omega
      · rw [List.take_of_length_le (by omega)] at ih ⊢
        omega
  have h := this ps.length
  rw [List.take_length] at h
  exact h
theorem countP_take_succ (ps : List Ins) (k : Nat) (hk : k < ps.length) (op o8 v : Int) (hp : ps[k] = (op, o8, v)) (q : Nat) (hq : (ps.take k).countP (fun p => p.1 == 3) = q) : (ps.take (k + 1)).countP (fun p => p.1 == 3) = q + if op == 3 then 1 else 0 := by
  rw [List.take_succ_eq_append_getElem hk, hp, List.countP_append, hq]
  simp [List.countP_cons]

set_option maxRecDepth 100000 in
set_option maxHeartbeats 8000000 in
theorem law_MemPrograms (w : World) (A0 : Option Addr) (n0 c0 : Nat) (z0 : List (Int × Int × Int)) (hz0 : IsTrips w A0 n0 c0 z0) (A1 : Option Addr) (n1 c1 : Nat) (z1 : List (Int × Int × Int)) (hz1 : IsTrips w A1 n1 c1 z1) (fx : Int) :
    Calls Try.prog 3 #[.slice A0 n0 c0, .slice A1 n1 c1, .int .i64 fx] w fun e w' => e = .returned (.bool true) ∧ Below w.heap.size w w' := by
  obtain ⟨ps, hps⟩ : ∃ ps, progOf z0 = ps := ⟨_, rfl⟩
  obtain ⟨qs, hqs⟩ : ∃ qs, progOf z1 = qs := ⟨_, rfl⟩
  have hl0 := length_progOf z0
  have hl1 := length_progOf z1
  rw [hps] at hl0
  rw [hqs] at hl1
  obtain ⟨m, hm⟩ : ∃ m, ps.length = m := ⟨_, rfl⟩
  obtain ⟨q, hq⟩ : ∃ q, qs.length = q := ⟨_, rfl⟩
  rw [hm] at hl0
  rw [hq] at hl1
  obtain ⟨g0, hg0⟩ : ∃ g, ps.all insB = g := ⟨_, rfl⟩
  obtain ⟨g1, hg1⟩ : ∃ g, qs.all insB = g := ⟨_, rfl⟩
  have HAW := Lib.hid (awake10_ok w)
  have HP0 := Lib.hid (fun W (hW : Below w.heap.size w W) => program10_ok W A0 n0 c0 z0 (hz0.bx hW))
  have HP1 := Lib.hid (fun W (hW : Below w.heap.size w W) => program10_ok W A1 n1 c1 z1 (hz1.bx hW))
  unfold ProgPost at HP0 HP1
  rw [hps, hm, hg0] at HP0
  rw [hqs, hq, hg1] at HP1
  have HM := Lib.hid hm
  have HQ := Lib.hid hq
  clear hz0 hz1 hps hqs hm hq hg0 hg1
  go_enter Try.func3, Try.ntmps3
  go_upto_region 7 with (first
    | (go_at_call 11; refine HAW.out.mono ?_; rintro e w1 ⟨rfl, hb⟩; have HB1 := Lib.hid hb; clear hb)
    | (go_at_call 12; first
      | ((with_reducible refine (HP0.out w1 HB1.out).mono ?_); rintro e w2 ⟨P0, k0, rfl, hS, hb, hO⟩; have HS0 := Lib.hid hS; have HB2 := Lib.hid (HB1.out.trans (hb.mono HB1.out.size)); clear hS hb hO)
      | ((with_reducible refine (HP1.out w2 HB2.out).mono ?_); rintro e w3 ⟨P1, k1, rfl, hS, hb, hO⟩; have HS1 := Lib.hid hS; have HSP := Lib.hid (HS0.out.keep (fun b hb' => hb.block b (HS0.out.lt hb'))); have HB3 := Lib.hid (HB2.out.trans (hb.mono HB2.out.size)); clear hS hb hO)))
  clear HAW HP0 HP1 HB1 HB2 HS0
  have HI0 : Hid (WsInv w3 none 0 0 (pgW (ps.take 0)) w3) := ⟨by simp [pgW], by simpa [pgW, wcells] using Sl.nil, Below.refl _ _, by simp [OwnB]⟩
  go_wp2
  go_loopw [33, 11, 12, 14, 34, 35, 36, 37, 38, 39, 40, 41, 42, 43, 44, 45, 46, 47, 48, 49, 50, 51, 52, 53] (fun i x p _ _ _ _ _ _ _ _ _ _ _ _ _ _ _ _ _ _ _ _ _ wr => ∃ (k y j : Nat) (A : Option Addr) (c : Nat), k ≤ m ∧ y ≤ k ∧ j ≤ k ∧ i = .int .i64 k ∧ x = .int .i64 y ∧ p = .slice A j c ∧ (ps.take k).countP (fun p => p.1 == 3) = y ∧ WsInv w3 A j c (pgW (ps.take k)) wr) (fun i _ _ _ _ _ _ _ _ _ _ _ _ _ _ _ _ _ _ _ _ _ _ _ _ => m - (intOf i).toNat)
  case atStart => exact ⟨0, 0, 0, none, 0, by omega, by omega, by omega, rfl, rfl, rfl, by simp, HI0.out⟩
  case round =>
    clear HI0
    obtain ⟨k, y, j, A, c, hk, hy, hj, rfl, rfl, rfl, hc, hI⟩ := hrel
    have HI := Lib.hid hI
    have HCN := Lib.hid hc
    clear hI hc
    by_cases hlt : k < m
    · have hkl : k < ps.length := by rw [HM.out]; exact hlt
      obtain ⟨b, off, hP0, hbl, x1, x2, x3⟩ := (HSP.out.keep (w' := wr) (fun b hb => HI.out.2.2.1.block b (HSP.out.lt hb))).insE hkl
      obtain ⟨⟨op, o8, v⟩, hp⟩ : ∃ p, ps[k] = p := ⟨_, rfl⟩
      rw [hp] at x1 x2 x3
      subst hP0
      have HSU : Hid (pgW (ps.take (k + 1)) = if op == 1 then pgW (ps.take k) ++ [(o8, v)] else pgW (ps.take k)) := by
        show _ = _
        rw [List.take_succ_eq_append_getElem hkl, hp, pgW_snoc]
      have HSC := Lib.hid (countP_take_succ ps k hkl op o8 v hp y HCN.out)
      clear hp
      by_cases h1 : op = 1
      · have h1' : (op == 1) = true := by simpa using h1
        have h3' : (op == 3) = false := by subst h1; rfl
        rw [h1'] at HSU
        rw [h3'] at HSC
        clear h1
        go_wp2_with (at_builtin; refine wpList_append_sl rfl (.tmp 45) (.tmp 51) 28 rfl 34 (.agg #[.int .u64 0, .int .u64 0]) 2 16 rfl (by omega) Try.underlying28 info_write (by omega) A j c (wcells (pgW (ps.take k))) ⟨wr.heap.size + 1, 0, none⟩ 1 1 [.int .u64 o8, .int .u64 v] rfl rfl ?hsl rfl (by omega) ?hc3 (by simp; exact ⟨rfl, rfl⟩) (by omega) ?_; (case hsl => exact (HI.out.2.1.keep (fun b hb => Below.heap_alloc _ _ b (HI.out.2.1.lt hb))).keep (fun b hb => Below.heap_alloc _ _ b (by have := HI.out.2.1.lt hb; simp; omega))); (case hc3 => have := cells_two (wr.alloc (.cells #[.int .u8 op, .int .u64 o8, .int .u64 v] 32)) 34 (.int .u64 o8) (.int .u64 v); simpa using this); intro A2 c2' w2 HO2 HC2 HW2 HN2)
        have HB2 : Hid (Below wr.heap.size wr ((wr.alloc (.cells #[.int .u8 op, .int .u64 o8, .int .u64 v] 32)).alloc (.cells #[.int .u64 o8, .int .u64 v] 34))) := by show Below _ _ _; (repeat (first | with_reducible exact Below.refl _ _ | with_reducible refine bl_alloc ?_ _ | with_reducible refine bl_drew ?_ | with_reducible refine bl_drewN ?_ _ | with_reducible refine bl_bx ?_ _ | with_reducible exact BX.below _ | with_reducible refine bl_set ?_ (by first | (exact Nat.le_refl _) | (simp; done) | (simp; omega)) _ | assumption))
        have HIN := Lib.hid (HI.out.step (o8, v) HB2.out HO2.out HC2.out HW2.out)
        refine ⟨⟨k + 1, y, j + 1, A2, c2', by omega, by omega, by omega, by go_num, rfl, rfl, by rw [HSC.out]; rfl, by rw [HSU.out]; exact HIN.out⟩, by simp [intOf]; omega⟩
      · have h1' : (op == 1) = false := by simpa using h1
        rw [h1'] at HSU
        clear h1
        by_cases h3 : op = 3
        · have h3' : (op == 3) = true := by simpa using h3
          rw [h3'] at HSC
          clear h3
          go_wp2
          go_roundw
          case rel => exact ⟨k + 1, y + 1, j, A, c, by omega, by omega, by omega, by go_num, by go_num, rfl, by rw [HSC.out]; rfl, by rw [HSU.out]; exact HI.out.keep (bl_alloc (Below.refl _ _) _)⟩
          case measure => simp [intOf]; omega
        · have h3' : (op == 3) = false := by simpa using h3
          rw [h3'] at HSC
          clear h3
          go_wp2
          go_roundw
          case rel => exact ⟨k + 1, y, j, A, c, by omega, by omega, by omega, by go_num, rfl, rfl, by rw [HSC.out]; rfl, by rw [HSU.out]; exact HI.out.keep (bl_alloc (Below.refl _ _) _)⟩
          case measure => simp [intOf]; omega
    · obtain rfl : k = m := by omega
      obtain ⟨V, hV⟩ : ∃ V, V = wr := ⟨wr, rfl⟩
      subst hV
      have HTK : Hid (ps.take k = ps) := List.take_of_length_le (by rw [HM.out]; exact Nat.le_refl _)
      rw [HTK.out] at HI HCN
      obtain ⟨ws, hws⟩ : ∃ ws, pgW ps = ws := ⟨_, rfl⟩
      obtain ⟨i1, i2, i3, i4⟩ := HI.out
      rw [hws] at i1 i2
      have hS0r := HSP.out.keep (w' := V) (fun b hb => i3.block b (HSP.out.lt hb))
      have HW := pgWrites_ok V P0 k k0 ps HM.out (by omega) hS0r
      unfold WsPost at HW
      rw [hws, i1] at HW
      have HWC := Lib.hid HW
      have HS0r := Lib.hid hS0r
      have HL := Lib.hid i1
      have HSW := Lib.hid i2
      have HB3r := Lib.hid (HB3.out.trans (i3.mono HB3.out.size))
      have HS1r := Lib.hid (HS1.out.keep (w' := V) (fun b hb => i3.block b (HS1.out.lt hb)))
      have HFC := Lib.hid (fun W (hW : Below V.heap.size V W) => by
        have := pgFences_ok W P0 k k0 ps HM.out (by omega) (HS0r.out.keep (fun b hb => hW.block b (HS0r.out.lt hb)))
        rwa [HCN.out] at this)
      clear i1 i2 i3 i4 HI HW hS0r hws HSP HS1 HTK HB3 HCN
      go_upto_region 18 with (first
        | (go_at_call 13; refine HWC.out.mono ?_; rintro e w4 ⟨G, kg, rfl, hS, hb, hO⟩; have HSG := Lib.hid hS; have HB4 := Lib.hid hb; clear hS hb hO)
        | (go_at_call 14; refine (HFC.out w4 HB4.out).mono ?_; rintro e w5 ⟨rfl, hb⟩; have HB5 := Lib.hid (HB4.out.trans (hb.mono HB4.out.size)); have HSG5 := Lib.hid (HSG.out.keep (fun b hb' => hb.block b (HSG.out.lt hb'))); clear hb))
      clear HWC HFC HSG
      have HSW5 := Lib.hid (HSW.out.keep (w' := w5) (fun b hb => HB5.out.block b (HSW.out.lt hb)))
      have hnW := neqW
      have hgW := gW
      go_wp2
      go_loopw [69, 6, 16, 70, 71, 72, 73, 74, 75, 76, 77, 78, 79, 80, 81] (fun i _ _ _ _ _ _ _ _ _ _ _ _ _ _ wr => ∃ (x y : Nat), x ≤ j ∧ i = .int .i64 x ∧ w5.drewN y = wr) (fun i _ _ _ _ _ _ _ _ _ _ _ _ _ _ _ => j - (intOf i).toNat)
      case atStart => exact ⟨0, 0, by omega, rfl, rfl⟩
      case round =>
        obtain ⟨x, y', hx, rfl, hwr⟩ := hrel
        have HWR := Lib.hid hwr
        by_cases hxj : x < j
        · have hxl : x < ws.length := by rw [HL.out]; exact hxj
          obtain ⟨b1, o1, hG, hb1, e1, e2⟩ := (HSG5.out.keep (w' := wr) (fun b hb => by rw [← hwr]; rfl)).wr hxl
          obtain ⟨b2, o2, hA, hb2, e3, e4⟩ := (HSW5.out.keep (w' := wr) (fun b hb => by rw [← hwr]; rfl)).wr hxl
          obtain ⟨⟨of, v⟩, hp⟩ : ∃ p, ws[x] = p := ⟨_, rfl⟩
          rw [hp] at e1 e2 e3 e4
          rw [show 2 * x = x * 2 by omega] at e1 e2 e3 e4
          subst hG hA
          clear hp hwr
          go_wp2
          go_quiet (fail)
          go_wp2
          go_roundw
          case rel => exact ⟨x + 1, y' + nq, by omega, by go_num, by rw [← HWR.out, World.drewN_drewN]⟩
          case measure => simp [intOf]; omega
        · clear hwr hnW hgW
          have HBr : Hid (Below V.heap.size V wr) := by show Below _ _ _; rw [← HWR.out]; exact below_drewN HB5.out y'
          have HSP6 := Lib.hid (HS0r.out.keep (w' := wr) (fun b hb => HBr.out.block b (HS0r.out.lt hb)))
          have HSQ6 := Lib.hid (HS1r.out.keep (w' := wr) (fun b hb => HBr.out.block b (HS1r.out.lt hb)))
          have HB6 := Lib.hid (HB3r.out.trans (HBr.out.mono HB3r.out.size))
          clear HS0r HS1r HB3r HB5 HSG5 HSW5 HSW HWR HBr
          have HPL1 := plain10_ok wr P0 k k0 ps HM.out (by omega) HSP6.out
          unfold PgPost at HPL1
          rw [HM.out] at HPL1
          have HPL1' := Lib.hid HPL1
          clear HPL1
          go_upto_region 25 with (go_at_call 15; refine HPL1'.out.mono ?_; rintro e w7 ⟨R, kr, rfl, hS, hb, hO⟩; have HSR := Lib.hid hS; have HB7 := Lib.hid hb; clear hS hb hO)
          have HSP7 := Lib.hid (HSP6.out.keep (w' := w7) (fun b hb => HB7.out.block b (HSP6.out.lt hb)))
          have HSQ7 := Lib.hid (HSQ6.out.keep (w' := w7) (fun b hb => HB7.out.block b (HSQ6.out.lt hb)))
          have HB07 := Lib.hid (HB6.out.trans (HB7.out.mono HB6.out.size))
          clear HSP6 HSQ6 HB6 HB7 HPL1'
          have HE0 : Hid (Sl 101 3 (w7.alloc (.cells #[] 101)) (some ⟨w7.heap.size, 0, none⟩) 0 0 []) := ⟨by simp, .inr ⟨w7.heap.size, 0, #[], rfl, CB.new _ _ _, Nat.le_refl _, by omega, by simp, by simp⟩⟩
          have HPQ := Lib.hid (fun W (hW : Below w7.heap.size w7 W) => by
            have := plain10_ok W P1 q k1 qs HQ.out (by omega) (HSQ7.out.keep (fun b hb => hW.block b (HSQ7.out.lt hb)))
            unfold PgPost at this
            rwa [HQ.out] at this)
          go_upto_region 26 with (first
            | (at_builtin; first
              | (refine wpList_append_sl2 rfl (.tmp 84) (.tmp 85) 37 rfl 101 (.agg #[.int .u8 0, .int .u64 0, .int .u64 0]) 3 24 rfl (by omega) Try.underlying37 info_instrR (by omega) (some ⟨w7.heap.size, 0, none⟩) 0 0 [] R k kr (pcells ps) rfl rfl HE0.out (HSR.out.keep (fun b hb => Below.heap_alloc _ _ b (HSR.out.lt hb))) (pcells_one _) (by omega) ?_; intro A8 c8 w8 HO8 HC8 HW8; have HB8 : Hid (Below w7.heap.size w7 w8) := bl_ch (bl_alloc (Below.refl _ _) _) HC8.out (fun b hb => by rw [show w7.heap.size = b by simpa [OwnB] using hb]; exact Nat.le_refl _))
              | (refine wpList_append_sl2 rfl (.tmp 86) (.tmp 88) 37 rfl 101 (.agg #[.int .u8 0, .int .u64 0, .int .u64 0]) 3 24 rfl (by omega) Try.underlying37 info_instrR (by omega) A8 (0 + k) c8 ([] ++ pcells ps) P9 q c9 (pcells qs) ?h1 rfl HO9.out HS9.out (pcells_one _) (by omega) ?_; (case h1 => simp only [Nat.zero_add]; rfl); intro A10 c10 w10 HO10 HC10 HW10; have HB10 : Hid (Below w7.heap.size w7 w10) := bl_ch HB9.out HC10.out (fun b hb => HA8.out b hb)))
            | (go_at_call 15; refine (HPQ.out w8 HB8.out).mono ?_; rintro e w9 ⟨P9, c9, rfl, hS, hb, hO⟩; have HS9 := Lib.hid hS; have HB9 : Hid (Below w7.heap.size w7 w9) := HB8.out.trans (hb.mono HB8.out.size); have HO9 := Lib.hid (HO8.out.keep (fun b hb' => hb.block b (HO8.out.lt hb'))); have HA8 : Hid (∀ b, OwnB A8 b → w7.heap.size ≤ b) := (fun b hb' => (HW8.out b hb').elim (fun h => by have e9 : w7.heap.size = b := (by simpa [OwnB] using h); omega) (fun h => by rw [h]; simp)); clear hS hb hO))
          have HSB : Hid (Sl 101 3 w10 A10 (k + q) c10 (pcells (ps ++ qs))) := by
            have := HO10.out
            rw [List.nil_append, Nat.zero_add, ← pcells_append] at this
            exact this
          have keep7 : ∀ {et : TypeId} {X : Option Addr} {n c : Nat} {xs : List Value}, Sl et 3 w7 X n c xs → ∀ W, Below w10.heap.size w10 W → Sl et 3 W X n c xs := fun h W hW => h.keep (fun b hb => (hW.block b (by have := h.lt hb; have := HB10.out.size; omega)).trans (HB10.out.block b (h.lt hb)))
          have KP := Lib.hid (fun W hW => keep7 HSP7.out W hW)
          have KQ := Lib.hid (fun W hW => keep7 HSQ7.out W hW)
          have KR := Lib.hid (fun W hW => keep7 HSR.out W hW)
          have KB := Lib.hid (fun W (hW : Below w10.heap.size w10 W) => HSB.out.keep (w' := W) (fun b hb => hW.block b (HSB.out.lt hb)))
          have HB010 := Lib.hid (HB07.out.trans (HB10.out.mono HB07.out.size))
          obtain ⟨xs, hxs⟩ : ∃ xs, withoutP ps fx = xs := ⟨_, rfl⟩
          obtain ⟨wl, hwl⟩ : ∃ wl, xs.length = wl := ⟨_, rfl⟩
          have hwb : wl ≤ 40 := by
            have := length_withoutP ps fx
            rw [hxs, hwl, HM.out] at this
            omega
          have htl : (ps ++ qs).length = k + q := by rw [List.length_append, HM.out, HQ.out]
          obtain ⟨ts, hts⟩ : ∃ ts, ps ++ qs = ts := ⟨_, rfl⟩
          rw [hts] at htl
          obtain ⟨tl, htl'⟩ : ∃ tl, k + q = tl := ⟨_, rfl⟩
          have htb : tl ≤ 80 := by omega
          rw [htl'] at htl
          rw [hts, htl'] at KB
          have HWO := Lib.hid (fun W (hW : Below w10.heap.size w10 W) => by
            have := pgWithout_ok W P0 k k0 ps fx HM.out (by omega) (KP.out W hW)
            unfold PgPost at this
            rwa [hxs, hwl] at this)
          have HRW := Lib.hid (fun W (hW : Below w10.heap.size w10 W) => by
            have := refWithout10_ok W R k kr ps fx HM.out (by omega) (KR.out W hW)
            unfold PgPost at this
            rwa [hxs, hwl] at this)
          have HTH := Lib.hid (fun W (hW : Below w10.heap.size w10 W) => by
            have := pgThen_ok W P0 P1 k q k0 k1 ps qs HM.out HQ.out (by omega) (by omega) (KP.out W hW) (KQ.out W hW)
            unfold PgPost at this
            rwa [hts, htl] at this)
          have HPL := Lib.hid (fun W (X : Option Addr) (n c : Nat) (rs : List Ins) (hn : rs.length = n) (hb : n ≤ 1000) (hS : Sl 32 3 W X n c (pcells rs)) => by
            have := plain10_ok W X n c rs hn (by omega) hS
            unfold PgPost at this
            rwa [hn] at this)
          have HXL := Lib.hid hwl
          have HTL := Lib.hid htl
          rw [htl']
          clear HSP7 HSQ7 HSR HSB HO10 HC10 HW10 keep7 HB07 HB10 hxs hwl hts htl' htl HE0 HPQ HO8 HC8 HW8 HB8 HS9 HB9 HO9 HA8
          go_wp2_with (first
            | (go_at_call 17; refine (HWO.out w10 (Below.refl _ _)).mono ?_; rintro e w11 ⟨X, cx, rfl, hS, hb, hO⟩; have HSX := Lib.hid hS; have HB11 := Lib.hid hb; have HP1 := Lib.hid (HPL.out w11 X wl cx xs HXL.out (by omega) hS); clear hS hb hO)
            | (go_at_call 15; first
              | ((with_reducible refine HP1.out.mono ?_); rintro e w12 ⟨Y, cy, rfl, hS, hb, hO⟩; have HSY := Lib.hid hS; have HB12 : Hid (Below w10.heap.size w10 w12) := HB11.out.trans (hb.mono HB11.out.size); clear hS hb hO)
              | ((with_reducible refine HP2.out.mono ?_); rintro e w15 ⟨Y2, cy2, rfl, hS, hb, hO⟩; have HB15 : Hid (Below w10.heap.size w10 w15) := HB14.out.trans (hb.mono HB14.out.size); have HS2 := Lib.hid (refSame10_ok w15 Y2 A10 tl cy2 c10 ts HTL.out (by omega) hS (KB.out w15 HB15.out)); clear hS hb hO)
              | ((with_reducible refine HP3.out.mono ?_); rintro e w16 ⟨Y3, cy3, rfl, hS, hb, hO⟩; have HB16 : Hid (Below w10.heap.size w10 w16) := HB15b.out.trans (hb.mono HB15b.out.size); have HS3 := Lib.hid (refSame10_ok w16 Y3 R k cy3 kr ps HM.out (by omega) hS (KR.out w16 HB16.out)); clear hS hb hO))
            | (go_at_call 18; refine (HRW.out w12 HB12.out).mono ?_; rintro e w13 ⟨Z, cz, rfl, hS, hb, hO⟩; have HB13 : Hid (Below w10.heap.size w10 w13) := HB12.out.trans (hb.mono HB12.out.size); have HS1 := Lib.hid (refSame10_ok w13 Y Z wl cy cz xs HXL.out (by omega) (HSY.out.keep (fun b hb' => hb.block b (HSY.out.lt hb'))) hS); clear hS hb hO)
            | (go_at_call 16; first
              | ((with_reducible refine HS1.out.mono ?_); rintro e w' ⟨rfl, a1, rfl⟩; have HB13b := Lib.hid (below_drewN HB13.out a1))
              | ((with_reducible refine HS2.out.mono ?_); rintro e w' ⟨rfl, a2, rfl⟩; have HB15b := Lib.hid (below_drewN HB15.out a2); have HP3 := Lib.hid (HPL.out (w15.drewN a2) P0 k k0 ps HM.out (by omega) (KP.out _ HB15b.out)))
              | ((with_reducible refine HS3.out.mono ?_); rintro e w' ⟨rfl, a3, rfl⟩; have HB16b := Lib.hid (below_drewN HB16.out a3)))
            | (go_at_call 19; refine (HTH.out _ HB13b.out).mono ?_; rintro e w14 ⟨U, cu, rfl, hS, hb, hO⟩; have HB14 : Hid (Below w10.heap.size w10 w14) := HB13b.out.trans (hb.mono HB13b.out.size); have HP2 := Lib.hid (HPL.out w14 U tl cu ts HTL.out (by omega) hS); clear hS hb hO))
          go_ret
          exact ⟨rfl, HB010.out.trans (HB16b.out.mono HB010.out.size)⟩
end Go.Proofs.Ytngkhligjkcbmaa
