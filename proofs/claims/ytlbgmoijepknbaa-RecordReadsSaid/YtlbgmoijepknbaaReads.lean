/- The law RecordReads returns true. -/
import Derived.Test.YtlbgmoijepknbaaReadV
import Derived.Test.YtlbgmoijepknbaaDevP
import Derived.Test.YtlbgmoijepknbaaAwake
import Derived.Test.YtlbgmoijepknbaaTold
import Derived.Test.YtlbgmoijepknbaaSame
import Derived.Test.YtlbgmoijepknbaaPerm
import Derived.Deep.Cut
namespace Go.Proofs.Ytlbgmoijepknbaa
open Go.RowKit
set_option linter.unusedVariables false

set_option maxRecDepth 100000 in
set_option maxHeartbeats 1000000 in
theorem refPlace (w : World) (off : Int) (h0 : 0 ≤ off) (h64 : off < 18446744073709551616) :
    Calls Try.prog 62 #[.int .u64 off, .int .i64 10, .int .u64 192] w fun e w' => e = .returned (.int .i64 (place off 192)) ∧ w = w' := by
  unfold place
  by_cases h8 : off % 8 = 0
  · have e1 : (off % 8 != 0) = false := by simpa using h8
    rw [if_neg (by simpa using h8)]
    by_cases hg : off > 192
    · rw [if_pos (.inl hg)]
      go_enter Try.func62, Try.ntmps62
      go_wp2
      go_ret
      exact ⟨rfl, rfl⟩
    · have hw1 : IntKind.u64.wrap (192 - off) = 192 - off := IntWalk.u64_in _ (by omega)
      have hw2 : IntKind.u64.wrap ((192 - off) / 8) = (192 - off) / 8 := IntWalk.u64_in _ (by omega)
      have hq : (192 - off).tdiv 8 = (192 - off) / 8 := Int.tdiv_eq_ediv_of_nonneg (by omega)
      by_cases hr : (192 - off) / 8 < 10
      · rw [if_pos (.inr hr)]
        go_enter Try.func62, Try.ntmps62
        go_wp2
        go_ret
        exact ⟨rfl, rfl⟩
      · rw [if_neg (by omega)]
        go_enter Try.func62, Try.ntmps62
        go_wp2
        go_ret
        exact ⟨rfl, rfl⟩
  · have e1 : (off % 8 != 0) = true := by simpa using h8
    rw [if_pos h8]
    go_enter Try.func62, Try.ntmps62
    go_wp2
    go_ret
    exact ⟨rfl, rfl⟩

/-- The first k of some words, in 24 words. -/
def pad24 (xs : List Int) (k : Nat) : List Int := (List.range 24).map fun j => if j < k then xs[j]?.getD 0 else 0
theorem length_pad24 (xs : List Int) (k : Nat) : (pad24 xs k).length = 24 := by simp [pad24]
theorem pad24_zero (xs : List Int) : pad24 xs 0 = List.replicate 24 0 := by
  apply List.ext_getElem
  · simp [pad24]
  · intro n h1 h2
    simp only [pad24, List.getElem_map, List.getElem_replicate]
    rw [if_neg (Nat.not_lt_zero _)]
theorem pad24_set (xs : List Int) (k : Nat) (hk : k < xs.length) : (pad24 xs k).set k xs[k] = pad24 xs (k + 1) := by
  apply List.ext_getElem
  · simp [pad24]
  · intro n h1 h2
    simp only [pad24, List.getElem_set, List.getElem_map, List.getElem_range]
    by_cases hn : k = n
    · subst hn
      rw [if_pos rfl, if_pos (by omega), List.getElem?_eq_getElem hk]; rfl
    · rw [if_neg hn]
      by_cases h3 : n < k
      · rw [if_pos h3, if_pos (by omega)]
      · rw [if_neg h3, if_neg (by omega)]
theorem pad24_past (xs : List Int) (k : Nat) (hk : xs.length ≤ k) : pad24 xs (k + 1) = pad24 xs k := by
  apply List.ext_getElem
  · simp [pad24]
  · intro n h1 h2
    simp only [pad24, List.getElem_map, List.getElem_range]
    by_cases h3 : n < k
    · rw [if_pos h3, if_pos (by omega)]
    · rw [if_neg h3]
      by_cases h4 : n < k + 1
      · rw [if_pos h4, List.getElem?_eq_none (by omega)]; rfl
      · rw [if_neg h4]
theorem pad24_u64 (xs : List Int) (k : Nat) (hx : U64s xs) : U64s (pad24 xs k) := by
  intro x h
  simp only [pad24, List.mem_map] at h
  obtain ⟨j, _, rfl⟩ := h
  split
  · cases hj : xs[j]? with
    | none => simp
    | some y => exact hx y (List.mem_of_getElem? hj)
  · simp

theorem decV_len2 {xs : List Int} {f : Bool} {l : List ByteArray} {o : Option Int} (h : decV xs = some (f, l, o)) : l.length ≤ 2 := by
  unfold decV at h
  split at h
  · cases h
  · cases hS : decSI (xs.drop 1) with
    | none => rw [hS] at h; cases h
    | some lo =>
      rw [hS] at h
      simp only [Option.some.injEq, Prod.mk.injEq] at h
      obtain ⟨_, h1, _⟩ := h
      unfold decSI at hS
      split at hS
      · rename_i l1 o1 hs1 _
        injection hS with hS
        subst hS
        simp only at h1
        subst h1
        unfold decS at hs1
        split at hs1
        · cases hs1
        · split at hs1
          · cases hs1
          · have := namesDec_length hs1
            omega
      · cases hS
/-- A device of three lines, on, with those words. -/
structure RdDev (S : DevS) (ys : List Int) (k : Nat) : Prop where
  cur : S.cur = ys
  off : S.off = false
  armed : S.armed = false
  err : (S.thr 0).err = 0
  lns : S.lns.length = 3
  hist : ∀ l ∈ S.lns, l.hist.length ≤ k
theorem RdDev.new (xs : List Int) : RdDev (newS (List.replicate 24 0) 3) (pad24 xs 0) 0 := by
  refine ⟨by rw [pad24_zero]; rfl, rfl, rfl, rfl, rfl, ?_⟩
  intro l hl
  simp [newS] at hl
  simp [hl]
theorem RdDev.store {S : DevS} {ys : List Int} {n : Nat} (h : RdDev S ys n) (k : Nat) (hk : k < 24) (v : Int) : RdDev (S.store 0 (8 * (k : Int)) v) (ys.set k v) (n + 1) := by
  have hw : S.wordB (8 * (k : Int)) = true := by unfold DevS.wordB; simp [h.lns]; omega
  have hq : ((8 * (k : Int)) / 8).toNat = k := by omega
  have hc : S.cntB true = true := by simp [DevS.cntB, DevS.onB, h.off, h.armed]
  have hE : S.store 0 (8 * (k : Int)) v = ({ S with exec := IntKind.u64.wrap (S.exec + 1) } : DevS).write k v := by
    unfold DevS.store
    rw [hw, hc, if_pos rfl, hq]
    unfold DevS.cnt
    simp [DevS.onB, h.off, h.armed]
  rw [hE]
  refine ⟨by show S.cur.set k v = _; rw [h.cur], h.off, h.armed, h.err, by show (S.lns.modify _ _).length = 3; simp [h.lns], ?_⟩
  intro l hl
  have hl : l ∈ S.lns.modify (k / 8) fun l => { l with hist := l.hist ++ [(8 * (k : Int), v)] } := hl
  obtain ⟨j, hj, rfl⟩ := List.getElem_of_mem hl
  rw [List.getElem_modify]
  split
  · have := h.hist _ (List.getElem_mem (by simpa using hj) : S.lns[j]'(by simpa using hj) ∈ S.lns)
    simp; omega
  · have := h.hist _ (List.getElem_mem (by simpa using hj) : S.lns[j]'(by simpa using hj) ∈ S.lns)
    omega
/-- The loop's invariant. -/
def RdInv (w : World) (d T g : Nat) (xs : List Int) (k : Nat) (wr : World) : Prop :=
  ∃ L S, L.t 0 = T ∧ Dev wr d L S ∧ RdDev S (pad24 xs k) k ∧ (∀ b, Fp L b → w.heap.size ≤ b ∧ b ≠ g) ∧ IB .u64 26 wr g (pad24 xs k) ∧ Below w.heap.size w wr

set_option maxRecDepth 100000 in
set_option maxHeartbeats 4000000 in
theorem law_RecordReads (w : World) (off : Int) (ho : 0 ≤ off ∧ off < 18446744073709551616) (A : Option Addr) (n c : Nat) (xs : List Int) (hx : xs.length = n) (hc : n ≤ c) (hm : c ≤ 9223372036854775807) (hR : Rd .u64 w A xs) (hw : U64s xs) (power : Bool) :
    Calls Try.prog 11 #[.int .u64 off, .slice A n c, .bool power] w fun e w' => e = .returned (.bool true) ∧ Below w.heap.size w w' := by
  have HR := Lib.hid hR
  have HX := Lib.hid hx
  have HW := Lib.hid hw
  have HO := Lib.hid ho
  clear hR hx hw ho
  have hmk := fun W => run_make_z (P := Try.prog) 31 26 .u64 .i64 .i64 24 24 (by omega) Try.underlying31 8 info_u64 (by omega) (by omega) W
  go_enter Try.func11, Try.ntmps11
  go_wp2_with (first
    | (go_at_call 12; refine (awake_any _).mono ?_; rintro e w' ⟨rfl, hb⟩; obtain ⟨x, rfl⟩ := bx_of hb; clear hb)
    | (go_at_call 50; refine (devNew _ 3 (by omega) (by omega)).mono ?_; rintro e w' ⟨d, L, rfl, hD, hb, hF⟩; obtain ⟨y, rfl⟩ := bx_of hb; have HD := Lib.hid hD; have HF := Lib.hid hF; clear hb hD hF)
    | (go_at_call 52; refine (devThread _ d L _ (HD.out.below (by (repeat (first | with_reducible exact Below.refl _ _ | with_reducible refine bl_alloc ?_ _ | with_reducible refine bl_drew ?_ | with_reducible refine bl_drewN ?_ _ | with_reducible refine bl_bx ?_ _ | with_reducible exact BX.below _ | with_reducible refine bl_set ?_ (by first | (exact Nat.le_refl _) | (simp; done) | (simp; omega)) _ | assumption)))) 0 (by omega)).mono ?_; rintro e w' ⟨rfl, rfl⟩))
  have hI0 : Hid (RdInv w d (L.t 0) y.w.heap.size xs 0 (y.w.alloc (.cells (ia .u64 [0, 0, 0, 0, 0, 0, 0, 0, 0, 0, 0, 0, 0, 0, 0, 0, 0, 0, 0, 0, 0, 0, 0, 0]) 26))) := by
    refine ⟨L, _, rfl, HD.out.alloc _, RdDev.new xs, fun b hb => ?_, ?_, ?_⟩
    · have h1 := HF.out b hb
      have h2 := HD.out.fr b hb
      have h3 := x.size
      exact ⟨by omega, by omega⟩
    · rw [pad24_zero]; exact IB.new _ _
    · (repeat (first | with_reducible exact Below.refl _ _ | with_reducible refine bl_alloc ?_ _ | with_reducible refine bl_drew ?_ | with_reducible refine bl_drewN ?_ _ | with_reducible refine bl_bx ?_ _ | with_reducible exact BX.below _ | with_reducible refine bl_set ?_ (by first | (exact Nat.le_refl _) | (simp; done) | (simp; omega)) _ | assumption))
  obtain ⟨g, hg⟩ : ∃ g, y.w.heap.size = g := ⟨_, rfl⟩
  have hgw : w.heap.size ≤ g := by have := x.size; have := y.size; omega
  obtain ⟨T, hT⟩ : ∃ T, L.t 0 = T := ⟨_, rfl⟩
  obtain ⟨W, hW⟩ : ∃ W, y.w.alloc (.cells (ia .u64 [0, 0, 0, 0, 0, 0, 0, 0, 0, 0, 0, 0, 0, 0, 0, 0, 0, 0, 0, 0, 0, 0, 0, 0]) 26) = W := ⟨_, rfl⟩
  rw [hg, hT, hW] at hI0 ⊢
  clear hmk hW hT hg HD HF
  go_loopw [29, 11, 30, 31, 32, 33, 34, 35, 36, 37, 38, 39, 40, 41, 42, 43, 44, 45, 46, 47, 48, 49, 50, 51, 52] (fun i _ _ _ _ _ _ _ _ _ _ _ _ _ _ _ _ _ _ _ _ _ _ _ _ wr => ∃ k : Nat, k ≤ 24 ∧ i = .int .i64 k ∧ RdInv w d T g xs k wr) (fun i _ _ _ _ _ _ _ _ _ _ _ _ _ _ _ _ _ _ _ _ _ _ _ _ _ => 24 - (intOf i).toNat)
  case atStart => exact ⟨0, by omega, rfl, hI0.out⟩
  case round =>
    clear hI0
    obtain ⟨k, hk, rfl, L, S, rfl, hD, hS, hF, hI, hB⟩ := hrel
    have hgl := hI.lt
    have HI := Lib.hid hI
    have HD := Lib.hid hD
    have HS := Lib.hid hS
    have HF := Lib.hid hF
    have HB := Lib.hid hB
    by_cases hlt : k < 24
    · have hlt' : ((k : Int) < 24) := by omega
      by_cases hkn : k < n
      · have hkn' : (k : Int) < (n : Int) := by omega
        have hkx : k < xs.length := by rw [HX.out]; exact hkn
        obtain ⟨b1, o1, rfl, hb1, hc1⟩ := HR.out.at_ hkx
        have a0 : IntKind.u64.wrap (k : Int) = (k : Int) := IntWalk.u64_in _ (by omega)
        have a1 : IntKind.u64.wrap (8 * (k : Int)) = 8 * (k : Int) := IntWalk.u64_in _ (by omega)
        have hbs := hB.size
        have hb1' : b1 < wr.heap.size := by omega
        have hc1' : wr.cell? ⟨b1, o1 + k, none⟩ = some (.int .u64 xs[k]) := (hB.cell (p := ⟨b1, o1 + k, none⟩) hb1).trans hc1
        have hne : ¬ b1 = g := by omega
        have hne' : ¬ g = b1 := by omega
        have hcg := hI.cell (i := k) (by rw [length_pad24]; exact hlt)
        have hfg := hI.frozen k
        have HD1 : Hid (Dev (wr.setCell ⟨g, k, none⟩ (.int .u64 xs[k])) d L S) := by
          show Dev _ _ _ _
          exact hD.ch ((Ch.refl (At g) _).set1 k _) (fun b hb h => (hF b hb).2 h)
        clear hI hD hS hF hB
        go_wp2_with (first | (go_at_call 58; refine (thStore _ d L S HD1.out 0 (by omega) (8 * (k : Int)) (by omega) xs[k] (fun l hl => by have := HS.out.hist l hl; omega)).mono ?_; rintro e w' ⟨rfl, L2, hL2, hD2, hC2, hF2⟩))
        go_roundw
        case rel =>
          refine ⟨k + 1, by omega, by go_num, L2, _, by rw [hL2], hD2, ?_, ?_, ?_, ?_⟩
          · rw [← pad24_set xs k hkx]; exact HS.out.store k hlt _
          · intro b hb
            rcases hF2 b hb with h | h
            · exact HF.out b h
            · simp at h; exact ⟨by omega, by omega⟩
          · rw [← pad24_set xs k hkx]
            exact (HI.out.set k xs[k]).ch hC2 (fun h => (HF.out g h).2 rfl)
          · exact bl_ch (bl_set HB.out hgw _) hC2 (fun b hb => (HF.out b hb).1)
        case measure => simp [intOf]; omega
      · have hkn' : ¬ (k : Int) < (n : Int) := by omega
        clear hI hD hS hF hB
        go_wp2
        go_roundw
        case rel =>
          refine ⟨k + 1, by omega, by go_num, L, S, rfl, HD.out, ?_, HF.out, ?_, HB.out⟩
          · rw [pad24_past xs k (by rw [HX.out]; omega)]; exact ⟨HS.out.cur, HS.out.off, HS.out.armed, HS.out.err, HS.out.lns, fun l hl => Nat.le_succ_of_le (HS.out.hist l hl)⟩
          · rw [pad24_past xs k (by rw [HX.out]; omega)]; exact HI.out
        case measure => simp [intOf]; omega
    · obtain rfl : k = 24 := by omega
      clear hI hD hS hF hB
      go_upto_if 53 with (fail)
      go_cut [] from 53 (fun wx => ∃ S, Dev wx d L S ∧ S.lns.length = 3 ∧ (power = true → (S.thr 0).err = 3) ∧ (power = false → RdDev S (pad24 xs 24) 24) ∧ IB .u64 26 wx g (pad24 xs 24) ∧ Below w.heap.size w wx)
      case first =>
        cases power
        · go_wp2
          go_meet
          case rel => exact ⟨S, HD.out, HS.out.lns, (fun h => by cases h), fun _ => HS.out, HI.out, HB.out⟩
        · have hA : S.arm 0 = { S with armed := true, left := 0 } := by simp [DevS.arm, HS.out.off, imax]
          have hN : (S.arm 0).cntB true = false := by rw [hA]; simp [DevS.cntB]
          have hE : (((S.arm 0).cnt 0 true).thr 0).err = 3 := by rw [hA]; simp [DevS.cnt, DevS.onB, HS.out.off, DevS.fail, HS.out.err, DevS.setErr]
          have hL3 : ((S.arm 0).cnt 0 true).lns.length = 3 := by rw [(cnt_lns _ _ _).1, hA]; exact HS.out.lns
          go_wp2_with (first
            | (go_at_call 59; refine (devArm _ d L S HD.out 0 (by omega)).mono ?_; rintro e w1 ⟨rfl, hD1, hC1⟩)
            | (go_at_call 60; refine (thFence_off _ d L _ hD1 0 (by omega) hN).mono ?_; rintro e w2 ⟨rfl, hD2, hC2⟩))
          go_meet
          case rel => exact ⟨_, hD2, hL3, fun _ => hE, (fun h => by cases h), (HI.out.ch hC1 (fun h => (HF.out g h).2 rfl)).ch hC2 (fun h => (HF.out g h).2 rfl), bl_ch (bl_ch HB.out hC1 (fun b hb => (HF.out b hb).1)) hC2 (fun b hb => (HF.out b hb).1)⟩
      case rest =>
        clear HD HS HI HB hgl hlt hk
        obtain ⟨S2, hD, hL3, hP, hN, hI, hB⟩ := hcut
        have HD := Lib.hid hD
        have HI := Lib.hid hI
        have HB := Lib.hid hB
        have HNP := Lib.hid hN
        have HPP := Lib.hid hP
        clear hD hI hB hN hP
        have ho := HO.out
        by_cases hne : place off 192 ≠ 0
        · have HPL := Lib.hid (fun W => refPlace W off ho.1 ho.2)
          have HRV : Hid (Calls Try.prog 61 #[.iface 115 (.pointer (some ⟨L.t 0, 0, none⟩)), .int .u64 off, .iface 147 codecV] wc fun e w' => e = vNone (place off 192) ∧ Below wc.heap.size wc w') := by
            show Calls _ _ _ _ _
            unfold place at hne ⊢
            by_cases h8 : off % 8 ≠ 0
            · rw [if_pos h8]; exact readV_arg wc _ _ off ho.1 h8
            · rw [if_neg h8] at hne ⊢
              by_cases h9 : (192 < off ∨ (192 - off) / 8 < 10)
              · rw [if_pos h9]; exact readV_range wc d L S2 HD.out 0 (by omega) off ho.1 ho.2 (by omega) (by rw [hL3]; omega)
              · rw [if_neg h9] at hne; exact absurd rfl hne
          obtain ⟨p, hp⟩ : ∃ p, place off 192 = p := ⟨_, rfl⟩
          rw [hp] at HPL HRV hne
          have e1 : (p != 0) = true := by simpa using hne
          have e2 : (p == p) = true := by simp
          clear hp hne ho
          unfold vNone at HRV
          go_wp2_with (first
            | (go_at_call 13; refine (codec11 _).mono ?_; rintro e w' ⟨rfl, rfl⟩)
            | (go_at_call 61; refine HRV.out.mono ?_; rintro e w' ⟨rfl, hb⟩; obtain ⟨z, rfl⟩ := bx_of hb; clear hb)
            | (go_at_call 62; refine (HPL.out _).mono ?_; rintro e w' ⟨rfl, rfl⟩)
            | (go_at_call 16; refine (told11 _ false none 0 0 none none (.inl ⟨rfl, rfl⟩)).mono ?_; rintro e w' ⟨rfl, hb⟩; obtain ⟨u, rfl⟩ := bx_of hb; clear hb)
            | (go_at_call 15; refine (same11_yes _ false false 0 none none 0 0 0 [] rfl .nil .nil (by omega)).mono ?_; rintro e w' ⟨rfl, hb⟩; obtain ⟨v, rfl⟩ := bx_of hb; clear hb))
          go_ret
          exact ⟨rfl, by have HB' := HB.out; (repeat (first | with_reducible exact Below.refl _ _ | with_reducible refine bl_alloc ?_ _ | with_reducible refine bl_drew ?_ | with_reducible refine bl_drewN ?_ _ | with_reducible refine bl_bx ?_ _ | with_reducible exact BX.below _ | with_reducible refine bl_set ?_ (by first | (exact Nat.le_refl _) | (simp; done) | (simp; omega)) _ | assumption))⟩
        · have hpl : place off 192 = 0 := by simpa using hne
          have HPL : Hid (∀ W, Calls Try.prog 62 #[.int .u64 off, .int .i64 10, .int .u64 192] W fun e w' => e = .returned (.int .i64 0) ∧ W = w') := fun W => by have := refPlace W off ho.1 ho.2; rwa [hpl] at this
          obtain ⟨k, rfl, hk⟩ : ∃ k : Nat, off = 8 * (k : Int) ∧ k + 10 ≤ 24 := by
            unfold place at hpl
            by_cases h8 : off % 8 ≠ 0
            · rw [if_pos h8] at hpl; omega
            · rw [if_neg h8] at hpl
              by_cases h9 : (192 < off ∨ (192 - off) / 8 < 10)
              · rw [if_pos h9] at hpl; omega
              · exact ⟨(off / 8).toNat, by omega, by omega⟩
          clear hne hpl ho
          cases power
          · have hS := HNP.out rfl
            have hcl : S2.cur.length = 24 := by rw [hS.cur, length_pad24]
            have hcu : U64s S2.cur := by rw [hS.cur]; exact pad24_u64 _ _ HW.out
            have HRV : Hid (Calls Try.prog 61 #[.iface 115 (.pointer (some ⟨L.t 0, 0, none⟩)), .int .u64 (8 * (k : Int)), .iface 147 codecV] wc (RdVPost wc (decV (((pad24 xs 24).drop k).take 10)))) := by
              have := readV_ok wc d L S2 HD.out 0 (by omega) k (by omega) hS.err hS.off hcu
              rwa [hS.cur] at this
            have q1 : (8 * (k : Int)).tdiv 8 = (k : Int) := by rw [Int.tdiv_eq_ediv_of_nonneg (by omega)]; omega
            have q2 : IntKind.u64.wrap (k : Int) = (k : Int) := IntWalk.u64_in _ (by omega)
            have q3 : IntKind.u64.wrap ((k : Int) + 10) = (k : Int) + 10 := IntWalk.u64_in _ (by omega)
            have k1 : ¬ (24 : Int) < (k : Int) + 10 := by omega
            have k2 : ¬ (k : Int) + 10 < (k : Int) := by omega
            have hyl : (((pad24 xs 24).drop k).take 10).length = 10 := by simp [length_pad24]; omega
            have HRF : Hid (∀ W, IB .u64 26 W g (pad24 xs 24) → Calls Try.prog 49 #[.slice (some ⟨g, k, none⟩) 10 (24 - k)] W (RefDPost W (decV (((pad24 xs 24).drop k).take 10)))) := fun W hI => by
              have h := refDecode_any W (some ⟨g, k, none⟩) 10 (24 - k) (((pad24 xs 24).drop k).take 10) hyl (by omega) (hI.rd k 10) (fun x hx => pad24_u64 _ _ HW.out x (List.mem_of_mem_drop (List.mem_of_mem_take hx)))
              unfold decW at h
              rwa [if_pos hyl] at h
            have hgl : g < wc.heap.size := HI.out.lt
            clear hS hcl hcu hyl
            cases hdec : decV (((pad24 xs 24).drop k).take 10) with
            | none =>
              rw [hdec] at HRV HRF
              unfold RdVPost vNone at HRV
              unfold RefDPost at HRF
              dsimp only at HRV HRF
              clear hdec
              go_wp2_with (first
                | (go_at_call 13; refine (codec11 _).mono ?_; rintro e w' ⟨rfl, rfl⟩)
                | (go_at_call 61; refine HRV.out.mono ?_; rintro e w' ⟨hb, rfl⟩; obtain ⟨z, rfl⟩ := bx_of hb; clear hb)
                | (go_at_call 62; refine (HPL.out _).mono ?_; rintro e w' ⟨rfl, rfl⟩)
                | (go_at_call 49; refine (HRF.out _ ((HI.out.bx z).alloc _)).mono ?_; rintro e w' ⟨hb, rfl⟩; obtain ⟨u, rfl⟩ := bx_of hb; clear hb; have hz4 : z.w.heap.size < u.w.heap.size := u.lt_size (by simp); have hz4' : z.w.heap.size < u.w.heap.size + 1 := (by omega); have hz5 : ¬ z.w.heap.size = u.w.heap.size := (by omega)))
              have HB5 : Hid (Below w.heap.size w (u.w.alloc (.cells #[.bool false, .slice none 0 0, .bool false, .int .i64 0] 24))) := by show Below _ _ _; have HB' := HB.out; (repeat (first | with_reducible exact Below.refl _ _ | with_reducible refine bl_alloc ?_ _ | with_reducible refine bl_drew ?_ | with_reducible refine bl_drewN ?_ _ | with_reducible refine bl_bx ?_ _ | with_reducible exact BX.below _ | with_reducible refine bl_set ?_ (by first | (exact Nat.le_refl _) | (simp; done) | (simp; omega)) _ | assumption))
              refine wp_region_bx (by kernel_rfl) (by kernel_rfl) ?_
              repeat (go_big_quiet_step (first | (go_at_call 16; exact bx_call (told11 _ false none 0 0 none none (.inl ⟨rfl, rfl⟩))) | (go_at_call 15; exact bx_call (same11_yes _ false false 0 none none 0 0 0 [] rfl (.inl rfl) (.inl rfl) (by omega)))))
              refine wpQuiet_nil ?_
              rintro _ ⟨v, rfl⟩
              go_wp2
              go_ret
              exact ⟨rfl, bl_bx HB5.out v⟩
            | some r =>
              obtain ⟨f', l', o'⟩ := r
              have hll : l'.length ≤ 2 := decV_len2 hdec
              rw [hdec] at HRV HRF
              unfold RdVPost at HRV
              unfold RefDPost at HRF
              dsimp only at HRV HRF
              clear hdec
              go_wp2_with (first
                | (go_at_call 13; refine (codec11 _).mono ?_; rintro e w' ⟨rfl, rfl⟩)
                | (go_at_call 61; refine HRV.out.mono ?_; rintro e w' ⟨hb, A5, c5, p5, rfl, hA5, hp5⟩; obtain ⟨z, rfl⟩ := bx_of hb; have HA5 := Lib.hid hA5; have HP5 := Lib.hid hp5; clear hb hA5 hp5)
                | (go_at_call 62; refine (HPL.out _).mono ?_; rintro e w' ⟨rfl, rfl⟩)
                | (go_at_call 49; refine (HRF.out _ ((HI.out.bx z).alloc _)).mono ?_; rintro e w' ⟨hb, A4, c4, rfl, hA4, _⟩; obtain ⟨u, rfl⟩ := bx_of hb; have HA4 := Lib.hid hA4; clear hb hA4; have hz4 : z.w.heap.size < u.w.heap.size := u.lt_size (by simp); have hz4' : z.w.heap.size < u.w.heap.size + 1 := (by omega); have hz5 : ¬ z.w.heap.size = u.w.heap.size := (by omega)))
              have HB5 : Hid (Below w.heap.size w (u.w.alloc (.cells #[.bool f', .slice A4 l'.length c4, .bool o'.isSome, .int .i64 (o'.getD 0)] 24))) := by show Below _ _ _; have HB' := HB.out; (repeat (first | with_reducible exact Below.refl _ _ | with_reducible refine bl_alloc ?_ _ | with_reducible refine bl_drew ?_ | with_reducible refine bl_drewN ?_ _ | with_reducible refine bl_bx ?_ _ | with_reducible exact BX.below _ | with_reducible refine bl_set ?_ (by first | (exact Nat.le_refl _) | (simp; done) | (simp; omega)) _ | assumption))
              refine wp_region_bx (by kernel_rfl) (by kernel_rfl) ?_
              repeat (go_big_quiet_step (first | (go_at_call 16; exact bx_call (told11 _ f' A5 l'.length c5 p5 o' ((((HP5.out.below (bl_alloc (Below.refl _ _) _)).below (BX.below _)).below (bl_alloc (Below.refl _ _) _)).below (BX.below _)))) | (go_at_call 15; exact bx_call (same11_yes _ f' o'.isSome (o'.getD 0) A5 A4 l'.length c5 c4 l' rfl ((((HA5.out.alloc _).bx u).alloc _).bx _) ((HA4.out.alloc _).bx _) (by omega)))))
              refine wpQuiet_nil ?_
              rintro _ ⟨v, rfl⟩
              go_wp2
              go_ret
              exact ⟨rfl, bl_bx HB5.out v⟩
          · have HRV : Hid (Calls Try.prog 61 #[.iface 115 (.pointer (some ⟨L.t 0, 0, none⟩)), .int .u64 (8 * (k : Int)), .iface 147 codecV] wc fun e w' => e = vNone 3 ∧ Below wc.heap.size wc w') := by
              have := readV_err wc d L S2 HD.out 0 (by omega) (8 * (k : Int)) (by omega) (by omega) (by rw [hL3]; omega) (by rw [HPP.out rfl]; omega)
              rwa [HPP.out rfl] at this
            unfold vNone at HRV
            go_wp2_with (first
              | (go_at_call 13; refine (codec11 _).mono ?_; rintro e w' ⟨rfl, rfl⟩)
              | (go_at_call 61; refine HRV.out.mono ?_; rintro e w' ⟨rfl, hb⟩; obtain ⟨z, rfl⟩ := bx_of hb; clear hb)
              | (go_at_call 62; refine (HPL.out _).mono ?_; rintro e w' ⟨rfl, rfl⟩)
              | (go_at_call 16; refine (told11 _ false none 0 0 none none (.inl ⟨rfl, rfl⟩)).mono ?_; rintro e w' ⟨rfl, hb⟩; obtain ⟨u, rfl⟩ := bx_of hb; clear hb)
              | (go_at_call 15; refine (same11_yes _ false false 0 none none 0 0 0 [] rfl .nil .nil (by omega)).mono ?_; rintro e w' ⟨rfl, hb⟩; obtain ⟨v, rfl⟩ := bx_of hb; clear hb))
            go_ret
            exact ⟨rfl, by have HB' := HB.out; (repeat (first | with_reducible exact Below.refl _ _ | with_reducible refine bl_alloc ?_ _ | with_reducible refine bl_drew ?_ | with_reducible refine bl_drewN ?_ _ | with_reducible refine bl_bx ?_ _ | with_reducible exact BX.below _ | with_reducible refine bl_set ?_ (by first | (exact Nat.le_refl _) | (simp; done) | (simp; omega)) _ | assumption))⟩
end Go.Proofs.Ytlbgmoijepknbaa
