/- The law RecordStores (merged imports). -/
import Derived.Test.YtlbgmoijepknbaaGreatKz
import Derived.Test.YtlbgmoijepknbaaGreatKd
import Derived.Test.YtlbgmoijepknbaaGreatAwake
import Derived.Test.YtlbgmoijepknbaaGreatKp
import Derived.Test.YtlbgmoijepknbaaGreatPerm
import Derived.Deep.Cut
namespace Go.Proofs.YtlbgmoijepknbaaGreat
open Go.RowKit
set_option linter.unusedVariables false

set_option maxRecDepth 100000 in
theorem refEncode11_long (w : World) (f has : Bool) (n : Int) (A : Option Addr) (m c : Nat) (hm : 2 < m) (hm2 : m ≤ 9223372036854775807) :
    Calls Tryz.prog 5 #[.agg #[.bool f, .slice A m c, .bool has, .int .i64 n]] w fun e w' => e = .returned (.tuple #[.slice none 0 0, .bool false]) ∧ Below w.heap.size w w' := by
  have hcm : IntKind.u64.wrap (m : Int) = (m : Int) := IntWalk.u64_in _ (by omega)
  have h2' : (2 : Int) < (m : Int) := by omega
  cases f
  all_goals
    go_enter Tryz.func5, Tryz.ntmps5
    go_wp2
    go_ret2
    exact ⟨rfl, (by repeat (first | with_reducible exact Below.refl _ _ | with_reducible refine bl_alloc ?_ _ | with_reducible refine bl_drew ?_ | with_reducible refine bl_drewN ?_ _ | with_reducible refine bl_bx ?_ _ | with_reducible exact BX.below _ | with_reducible refine bl_set ?_ (by first | (exact Nat.le_refl _) | (simp; done) | (simp; omega)) _ | assumption))⟩
theorem refEncode11_any (w : World) (f has : Bool) (n : Int) (A : Option Addr) (m c : Nat) (l : List ByteArray) (hl : l.length = m) (hA : RdV w A (strVals l)) (hm : m ≤ 9223372036854775807) :
    Calls Tryz.prog 5 #[.agg #[.bool f, .slice A m c, .bool has, .int .i64 n]] w (RefEPost w (encV f l (numO has n))) := by
  by_cases h2 : m ≤ 1000000
  · exact refEncode11 w f has n A m c l hl hA h2
  · refine (refEncode11_long w f has n A m c (by omega) hm).mono ?_
    rintro e w' ⟨rfl, hb⟩
    unfold RefEPost
    rw [encV_long f l _ (.inl (by rw [hl]; omega))]
    exact ⟨hb, rfl⟩
theorem encV_two {f : Bool} {l : List ByteArray} {o : Option Int} {es : List Int} (h : encV f l o = some es) : l.length ≤ 2 := by
  by_cases h2 : 2 < l.length
  · rw [encV_long f l o (.inl h2)] at h; cases h
  · omega
theorem pf_pair (off : Int) (ys : List Int) : ∀ (n j : Nat), j < n → (pf off ys n)[j * 2]? = some (off + (j : Int) * 8) ∧ (pf off ys n)[j * 2 + 1]? = some (ys[j]?.getD 0) := by
  intro n
  induction n with
  | zero => intro j h; omega
  | succ n ih =>
    intro j h
    have e : pf off ys (n + 1) = pf off ys n ++ [off + (n : Int) * 8, ys[n]?.getD 0] := by simp [pf, List.range_succ]
    have hl := length_pf off ys n
    rw [e]
    by_cases hj : j < n
    · rw [List.getElem?_append_left (by omega), List.getElem?_append_left (by omega)]
      exact ih j hj
    · obtain rfl : j = n := by omega
      rw [List.getElem?_append_right (by omega), List.getElem?_append_right (by omega), hl, show j * 2 - 2 * j = 0 by omega, show j * 2 + 1 - 2 * j = 1 by omega]
      exact ⟨rfl, rfl⟩
theorem pf_get0 (off : Int) (ys : List Int) (n j : Nat) (h : j < n) (hy : n ≤ ys.length) {h2 : j * 2 < (pf off ys n).length} : (pf off ys n)[j * 2] = off + (j : Int) * 8 := by
  have := (pf_pair off ys n j h).1
  rw [List.getElem?_eq_getElem h2] at this
  injection this
theorem pf_get1 (off : Int) (ys : List Int) (n j : Nat) (h : j < n) (hy : n ≤ ys.length) {h2 : j * 2 + 1 < (pf off ys n).length} : (pf off ys n)[j * 2 + 1] = ys[j]'(by omega) := by
  have := (pf_pair off ys n j h).2
  rw [List.getElem?_eq_getElem h2, List.getElem?_eq_getElem (by omega : j < ys.length)] at this
  injection this
theorem Rd.keepCh {k : IntKind} {w w' : World} {A : Option Addr} {xs : List Int} {S : Nat → Prop} (h : Rd k w A xs) (hc : Ch S w w') (hS : ∀ b, OwnB A b → ¬ S b) : Rd k w' A xs := by
  rcases h with h | ⟨b, off, h1, h2, h3⟩
  · exact .inl h
  · exact .inr ⟨b, off, h1, Nat.lt_of_lt_of_le h2 hc.size, fun i hi => (hc.cells b _ h2 (hS b (by rw [h1]; simp [OwnB]))).trans (h3 i hi)⟩
theorem encV_numO (f has : Bool) (l : List ByteArray) (n : Int) : numO has (if has then n else 0) = numO has n := by cases has <;> rfl

set_option maxRecDepth 100000 in
set_option maxHeartbeats 8000000 in
theorem law_RecordStores (w : World) (f has : Bool) (num : Int) (hnum : -9223372036854775808 ≤ num ∧ num < 9223372036854775808) (A : Option Addr) (m c : Nat) (l : List ByteArray) (hl : l.length = m) (hA : RdV w A (strVals l)) (hmc : m ≤ c) (hcm : c ≤ 9223372036854775807)
    (word : Nat) (hword : word < 256) (B : Option Addr) (n2 c2 : Nat) (hc2 : n2 ≤ c2) (hm2 : c2 ≤ 9223372036854775807) (cs : List Int) (hcs : cs.length = n2) (hR : Rd .u8 w B cs) (hw : ∀ x ∈ cs, 0 ≤ x ∧ x < 256) :
    Calls Tryz.prog 3 #[.agg #[.bool f, .slice A m c, .bool has, .int .i64 num], .int .u8 (word : Int), .slice B n2 c2] w fun e w' => e = .returned (.bool true) ∧ Below w.heap.size w w' := by
  have HA := Lib.hid hA
  have HL := Lib.hid hl
  have HCS := Lib.hid hcs
  have HR := Lib.hid hR
  have HW := Lib.hid hw
  clear hA hl hcs hR hw
  go_enter Tryz.func3, Tryz.ntmps3
  go_upto_region 3 with (go_at_call 4; refine (awake_any _).mono ?_; rintro e w' ⟨rfl, hb⟩; obtain ⟨x, rfl⟩ := bx_of hb; clear hb)
  have hC0 : CB x.w w.heap.size 24 #[.bool f, .slice A m c, .bool has, .int .i64 num] := (CB.new w _ _).bx x
  have hx0 := hC0.lt
  have HC0 := Lib.hid hC0
  have c00 : x.w.cell? ⟨w.heap.size, 0, none⟩ = some (.bool f) := hC0.cell 0
  have c01 : x.w.cell? ⟨w.heap.size, 1, none⟩ = some (.slice A m c) := hC0.cell 1
  have c02 : x.w.cell? ⟨w.heap.size, 2, none⟩ = some (.bool has) := hC0.cell 2
  have c03 : x.w.cell? ⟨w.heap.size, 3, none⟩ = some (.int .i64 num) := hC0.cell 3
  have HBX : Hid (Below w.heap.size w x.w) := by show Below _ _ _; exact (by repeat (first | with_reducible exact Below.refl _ _ | with_reducible refine bl_alloc ?_ _ | with_reducible refine bl_drew ?_ | with_reducible refine bl_drewN ?_ _ | with_reducible refine bl_bx ?_ _ | with_reducible exact BX.below _ | with_reducible refine bl_set ?_ (by first | (exact Nat.le_refl _) | (simp; done) | (simp; omega)) _ | assumption))
  clear hC0
  go_wp2_with fail
  refine (refEncode11_any _ f has num A m c l HL.out (HA.out.below HBX.out) (by omega)).mono ?_
  cases hE : encV f l (numO has num) with
  | none =>
    clear hE
    rintro e w1 ⟨hb1, rfl⟩
    obtain ⟨y, rfl⟩ := bx_of hb1
    clear hb1
    go_wp2_with (go_at_call 6; refine (devNew _ 4 (by omega) (by omega)).mono ?_; rintro e w' ⟨d, L, rfl, hD, hb, hF⟩; obtain ⟨z, rfl⟩ := bx_of hb; clear hb hD hF)
    go_ret
    exact ⟨rfl, by have HB' := HBX.out; (repeat (first | with_reducible exact Below.refl _ _ | with_reducible refine bl_alloc ?_ _ | with_reducible refine bl_drew ?_ | with_reducible refine bl_drewN ?_ _ | with_reducible refine bl_bx ?_ _ | with_reducible exact BX.below _ | with_reducible refine bl_set ?_ (by first | (exact Nat.le_refl _) | (simp; done) | (simp; omega)) _ | assumption))⟩
  | some es =>
    have HE := Lib.hid hE
    clear hE
    rintro e w1 ⟨hb1, A1, c1, rfl, hR1, hl1, hf1⟩
    obtain ⟨y, rfl⟩ := bx_of hb1
    have HR1 := Lib.hid hR1
    have HL1 := Lib.hid hl1
    have HF1 := Lib.hid hf1
    have HEU : Hid (U64s es) := encV_u64 f l _ es HE.out
    clear hb1 hR1 hl1 hf1
    have hC1 : CB y.w w.heap.size 24 #[.bool f, .slice A m c, .bool has, .int .i64 num] := HC0.out.bx y
    have HC1 := Lib.hid hC1
    have hy0 := hC1.lt
    have HBY : Hid (Below w.heap.size w y.w) := bl_bx HBX.out y
    clear hC1 c00 c01 c02 c03 HC0
    go_upto_if 39 with (go_at_call 6; refine (devNew _ 4 (by omega) (by omega)).mono ?_; rintro e w' ⟨d, L, rfl, hD, hb, hF⟩; obtain ⟨z, rfl⟩ := bx_of hb; have HD := Lib.hid hD; have HFP := Lib.hid hF; clear hb hD hF; have c02 : z.w.cell? ⟨w.heap.size, 2, none⟩ = some (.bool has) := ((HC1.out.bx z).cell 2); have hz0 : w.heap.size < z.w.heap.size := z.lt_size hy0)
    have HCz : Hid (CB z.w w.heap.size 24 #[.bool f, .slice A m c, .bool has, .int .i64 num]) := HC1.out.bx z
    have c03 : z.w.cell? ⟨w.heap.size, 3, none⟩ = some (.int .i64 num) := HCz.out.cell 3
    have f03 := HCz.out.frozen 3
    have HRz : Hid (Rd .u64 z.w A1 es) := HR1.out.below z.below
    have HDV : Hid (DV (fun b => y.w.heap.size ≤ b) d L.t z.w (newS (List.replicate 32 0) 4)) := ⟨fun b hb => by have := z.size; omega, L, rfl, HD.out, fun b hb => HFP.out b hb⟩
    have HBz : Hid (Below w.heap.size w z.w) := bl_bx HBY.out z
    go_cut [] from 18 (fun wx => CB wx w.heap.size 24 #[.bool f, .slice A m c, .bool has, .int .i64 (if has then num else 0)] ∧ DV (fun b => y.w.heap.size ≤ b) d L.t wx (newS (List.replicate 32 0) 4) ∧ Rd .u64 wx A1 es ∧ Below w.heap.size w wx)
    case first =>
      cases has
      · go_wp2
        go_meet
        case rel =>
          refine ⟨HCz.out.set 3 (.int .i64 0), ?_, ?_, bl_set HBz.out (Nat.le_refl _) _⟩
          · exact HDV.out.ch (T := At w.heap.size) ((Ch.refl _ _).set1 3 _) (fun b _ hb h => by unfold At at h; omega)
          · exact HRz.out.keepCh (S := At w.heap.size) ((Ch.refl _ _).set1 3 _) (fun b hb h => by unfold At at h; have := HF1.out b hb; have := x.size; simp at this; omega)
      · go_wp2
        go_meet
        case rel => exact ⟨HCz.out, HDV.out, HRz.out, HBz.out⟩
    case rest =>
      obtain ⟨hC, hDV, hRc, hB⟩ := hcut
      obtain ⟨n', hn'⟩ : ∃ n', (if has then num else 0) = n' := ⟨_, rfl⟩
      have HEc : Hid (encV f l (numO has n') = some es) := by show _ = _; rw [← hn', encV_numO f has l num]; exact HE.out
      have HN' : Hid (n' = if has then num else 0) := hn'.symm
      rw [hn'] at hC
      clear hn' c02 c03 f03 hz0 HCz HRz HDV HBz HE HD HFP
      have HC := Lib.hid hC
      have HDV := Lib.hid hDV
      have HRc := Lib.hid hRc
      have HB := Lib.hid hB
      have hs0 := hC.lt
      have c00 : wc.cell? ⟨w.heap.size, 0, none⟩ = some (.bool f) := hC.cell 0
      have c01 : wc.cell? ⟨w.heap.size, 1, none⟩ = some (.slice A m c) := hC.cell 1
      have c02 : wc.cell? ⟨w.heap.size, 2, none⟩ = some (.bool has) := hC.cell 2
      have c03 : wc.cell? ⟨w.heap.size, 3, none⟩ = some (.int .i64 n') := hC.cell 3
      have HAc : Hid (RdV wc A (strVals l)) := HA.out.below hB
      clear hC hDV hRc hB
      obtain ⟨k, hk⟩ : ∃ k, word % 40 = k := ⟨_, rfl⟩
      have hk40 : k < 40 := by omega
      have ek : (word : Int) % 40 = (k : Int) := by rw [← hk]; rfl
      have ew : IntKind.u64.wrap (k : Int) = (k : Int) := IntWalk.u64_in _ (by omega)
      have ew8 : IntKind.u64.wrap (8 * (k : Int)) = 8 * (k : Int) := IntWalk.u64_in _ (by omega)
      have hl2 := encV_two HEc.out
      have hm2' : m ≤ 1000000 := by rw [← HL.out]; omega
      clear hk
      go_upto_region 10 with (fail)
      obtain ⟨W1, hW1⟩ : ∃ W1, W1 = wc := ⟨_, rfl⟩
      subst hW1
      go_cut [12, 10] from 18 (fun s12 s10 wx => ∃ g, s12 = .slice (some ⟨g, 0, none⟩) 10 10 ∧ s10 = .int .i64 0 ∧ IB .u64 48 wx g (pf (8 * (k : Int)) es 10) ∧ W1.heap.size ≤ g ∧ Below W1.heap.size W1 wx)
      case first =>
        clear HDV HRc HR HW HCS HB
        have HVA : Hid (∀ W, Below W1.heap.size W1 W → Calls Tryz.prog 9 #[.agg #[.bool f, .slice A m c, .bool has, .int .i64 n']] W (ValPost W f l (numO has n'))) := by
          show ∀ W, _ → _
          intro W hW
          exact value11 W f has A m c l HL.out (HAc.out.below hW) n' hm2'
        have HPV : Hid (∀ W A5 c5 p5, RdV W A5 (strVals l) → PtrI W p5 (numO has n') → Calls Tryz.prog 7 #[.int .u64 (8 * (k : Int)), .iface 99 codecV, .agg #[.bool f, .slice A5 l.length c5, .pointer p5]] W fun e w' => ∃ g, e = .returned (.tuple #[.slice (some ⟨g, 0, none⟩) 10 10, .int .i64 0]) ∧ IB .u64 48 w' g (pf (8 * (k : Int)) es 10) ∧ W.heap.size ≤ g ∧ Below W.heap.size W w') := by
          show ∀ W A5 c5 p5, _ → _ → _
          intro W A5 c5 p5 h1 h2
          have := planV_ok W (8 * k) f A5 c5 l.length l rfl h1 p5 (numO has n') h2 es HEc.out (by omega) (by omega)
          rwa [show ((8 * k : Nat) : Int) = 8 * (k : Int) by omega] at this
        unfold codecV at HPV
        go_region_with (first
          | (go_at_call 8; refine (codec11 _).mono ?_; rintro e w' ⟨rfl, rfl⟩)
          | (go_at_call 9; refine (HVA.out _ (by (repeat (first | with_reducible exact Below.refl _ _ | with_reducible refine bl_alloc ?_ _ | with_reducible refine bl_drew ?_ | with_reducible refine bl_drewN ?_ _ | with_reducible refine bl_bx ?_ _ | with_reducible exact BX.below _ | with_reducible refine bl_set ?_ (by first | (exact Nat.le_refl _) | (simp; done) | (simp; omega)) _ | assumption)))).mono ?_; rintro e w5 ⟨hb5, A5, c5, p5, rfl, hA5, hp5⟩; obtain ⟨x5, rfl⟩ := bx_of hb5; have HA5 := Lib.hid hA5; have HP5 := Lib.hid hp5; clear hb5 hA5 hp5)
          | (go_at_call 7; refine (HPV.out _ A5 c5 p5 (HA5.out.below (by (repeat (first | with_reducible exact Below.refl _ _ | with_reducible refine bl_alloc ?_ _ | with_reducible refine bl_drew ?_ | with_reducible refine bl_drewN ?_ _ | with_reducible refine bl_bx ?_ _ | with_reducible exact BX.below _ | with_reducible refine bl_set ?_ (by first | (exact Nat.le_refl _) | (simp; done) | (simp; omega)) _ | assumption)))) (HP5.out.below (by (repeat (first | with_reducible exact Below.refl _ _ | with_reducible refine bl_alloc ?_ _ | with_reducible refine bl_drew ?_ | with_reducible refine bl_drewN ?_ _ | with_reducible refine bl_bx ?_ _ | with_reducible exact BX.below _ | with_reducible refine bl_set ?_ (by first | (exact Nat.le_refl _) | (simp; done) | (simp; omega)) _ | assumption))))).mono ?_; rintro e w6 ⟨g, rfl, hI6, hg6, hb6⟩; obtain ⟨x6, rfl⟩ := bx_of hb6; have HI6 := Lib.hid hI6; have HG6 := Lib.hid hg6; clear hb6 hI6 hg6))
        · go_wp2
          go_meet
          case rel => exact ⟨g, rfl, rfl, HI6.out, by have h1 := HG6.out; have h2 := x5.size; simp at h1 h2; omega, by (repeat (first | with_reducible exact Below.refl _ _ | with_reducible refine bl_alloc ?_ _ | with_reducible refine bl_drew ?_ | with_reducible refine bl_drewN ?_ _ | with_reducible refine bl_bx ?_ _ | with_reducible exact BX.below _ | with_reducible refine bl_set ?_ (by first | (exact Nat.le_refl _) | (simp; done) | (simp; omega)) _ | assumption))⟩
        · go_wp2
          go_meet
          case rel => exact ⟨g, rfl, rfl, HI6.out, by have h1 := HG6.out; have h2 := x5.size; simp at h1 h2; omega, by (repeat (first | with_reducible exact Below.refl _ _ | with_reducible refine bl_alloc ?_ _ | with_reducible refine bl_drew ?_ | with_reducible refine bl_drewN ?_ _ | with_reducible refine bl_bx ?_ _ | with_reducible exact BX.below _ | with_reducible refine bl_set ?_ (by first | (exact Nat.le_refl _) | (simp; done) | (simp; omega)) _ | assumption))⟩
      case rest =>
        obtain ⟨g, rfl, rfl, hI, hg, hB2⟩ := hcut
        have HI := Lib.hid hI
        have HB2 := Lib.hid hB2
        have hgl := hI.lt
        have hc2 : CB wc w.heap.size 24 #[.bool f, .slice A m c, .bool has, .int .i64 n'] := HC.out.below hB2
        have HC2 := Lib.hid hc2
        have hs2 := hc2.lt
        have HDV2 := Lib.hid (HDV.out.below hB2)
        have HR2 := Lib.hid (HRc.out.below hB2)
        have HBf : Hid (Below w.heap.size w wc) := HB.out.trans (hB2.mono HB.out.size)
        have HAf : Hid (RdV wc A (strVals l)) := HAc.out.below hB2
        clear hI hB2 hc2 c00 c01 c02 c03 HC HDV HRc HB HAc
        go_upto_region 13 with (fail)
        obtain ⟨W2, hW2⟩ : ∃ W2, W2 = wc := ⟨_, rfl⟩
        subst hW2
        have hgw : ¬ w.heap.size = W2.heap.size := by omega
        go_wp2
        go_loopw [62, 13, 14, 63, 64, 65, 66, 67, 68, 69, 70, 71, 72, 73, 74, 75, 76, 77, 78, 79, 80, 81, 82, 83, 84] (fun i _ _ _ _ _ _ _ _ _ _ _ _ _ _ _ _ _ _ _ _ _ _ _ _ wr => ∃ j : Nat, j ≤ 10 ∧ i = .int .i64 j ∧ Below W2.heap.size W2 wr) (fun i _ _ _ _ _ _ _ _ _ _ _ _ _ _ _ _ _ _ _ _ _ _ _ _ _ => 10 - (intOf i).toNat)
        case atStart => exact ⟨0, by omega, rfl, Below.refl _ _⟩
        case round =>
          obtain ⟨j, hj, rfl, hBr⟩ := hrel
          obtain ⟨q, rfl⟩ := bx_of hBr
          clear hBr
          by_cases hlt : j < 10
          · have hlt' : (j : Int) < 10 := by omega
            have hjy : j < es.length := by rw [HL1.out]; exact hlt
            have hIq := HI.out.bx q
            have h0 := hIq.cell (i := j * 2) (by rw [length_pf]; omega)
            have h1 := hIq.cell (i := j * 2 + 1) (by rw [length_pf]; omega)
            rw [pf_get0 _ es 10 j hlt (by rw [HL1.out]; omega)] at h0
            rw [pf_get1 _ es 10 j hlt (by rw [HL1.out]; omega)] at h1
            obtain ⟨b1, o1, rfl, hb1, hc1'⟩ := (HR2.out.below q.below).at_ hjy
            have ej : IntKind.u64.wrap (j : Int) = (j : Int) := IntWalk.u64_in _ (by omega)
            have ej8 : IntKind.u64.wrap (8 * (j : Int)) = 8 * (j : Int) := IntWalk.u64_in _ (by omega)
            have ejk : IntKind.u64.wrap (8 * (k : Int) + 8 * (j : Int)) = 8 * (k : Int) + 8 * (j : Int) := IntWalk.u64_in _ (by omega)
            have ejm : 8 * (k : Int) + (j : Int) * 8 = 8 * (k : Int) + 8 * (j : Int) := by omega
            rw [ejm] at h0
            clear hIq
            have hbq : ¬ b1 = q.w.heap.size := by omega
            have hbq1 : b1 < q.w.heap.size + 1 := by omega
            go_wp2
            go_quiet (fail)
            go_wp2
            go_roundw
            case rel => exact ⟨j + 1, by omega, by go_num, (by repeat (first | with_reducible exact Below.refl _ _ | with_reducible refine bl_alloc ?_ _ | with_reducible refine bl_drew ?_ | with_reducible refine bl_drewN ?_ _ | with_reducible refine bl_bx ?_ _ | with_reducible exact BX.below _ | with_reducible refine bl_set ?_ (by first | (exact Nat.le_refl _) | (simp; done) | (simp; omega)) _ | assumption))⟩
            case measure => simp [intOf]; omega
          · obtain rfl : j = 10 := by omega
            obtain ⟨vs, hvs⟩ : ∃ vs, planW (8 * (k : Int)) es = vs := ⟨_, rfl⟩
            have HVS := Lib.hid hvs
            have HSl : Hid (Sl 48 2 q.w (some ⟨g, 0, none⟩) 10 10 (wcells vs)) := by
              show Sl _ _ _ _ _ _ _
              rw [← hvs]; exact sl_plan (HI.out.bx q) HL1.out (by omega)
            have hvl : vs.length = 10 := by rw [← hvs, length_planW, HL1.out]
            have hpl := length_storesP vs
            have hvr : ∀ p ∈ vs, 0 ≤ p.1 ∧ p.1 < 1000000 ∧ 0 ≤ p.2 ∧ p.2 < 18446744073709551616 := by
              rw [← hvs]
              intro p hp
              obtain ⟨i, hi, rfl⟩ := mem_planW hp
              have h1 := HEU.out _ (List.getElem_mem hi)
              rw [HL1.out] at hi
              exact ⟨by show (0 : Int) ≤ 8 * (k : Int) + (i : Int) * 8; omega, by show 8 * (k : Int) + (i : Int) * 8 < _; omega, h1.1, h1.2⟩
            have hso : (starts vs).Pairwise (· ≤ ·) := by rw [← hvs]; exact plan_sorted k es
            have hpo := storesP_ok vs hvr
            obtain ⟨ps, hps⟩ : ∃ ps, storesP vs = ps := ⟨_, rfl⟩
            have HPS := Lib.hid hps
            have HVL := Lib.hid hvl
            have HVR := Lib.hid hvr
            have HSO := Lib.hid hso
            have HPO := Lib.hid hpo
            rw [hps] at HPO hpl
            rw [hvl] at hpl
            have HMS : Hid (∀ W, Below q.w.heap.size q.w W → Calls Tryz.prog 10 #[.slice (some ⟨g, 0, none⟩) 10 10] W (StoPost W ps)) := by
              show ∀ W, _ → _
              intro W hW
              have := memStores W (some ⟨g, 0, none⟩) 10 10 vs HVL.out (by omega) (by omega) (HSl.out.ch (S := fun _ => False) (Ch.of_below hW) (fun _ _ h => h)) (fun p hp => ⟨(HVR.out p hp).1, by have := (HVR.out p hp).2.1; omega⟩) HSO.out
              rwa [hps] at this
            clear hvs hvl hvr hso hpo hps
            obtain ⟨S0, hS0⟩ : ∃ S0, newS (List.replicate 32 0) 4 = S0 := ⟨_, rfl⟩
            have HZC : Hid (Clean S0 4 (List.replicate 32 0) 0) := by show Clean _ _ _ _; rw [← hS0]; exact zero_clean
            have HZF : Hid (FitS S0) := by show FitS _; rw [← hS0]; exact zero_fits
            have HDq := Lib.hid (HDV2.out.bx q)
            rw [hS0] at HDq
            clear hS0
            go_upto_region 20 with (first
              | (go_at_call 10; refine (HMS.out _ (Below.refl _ _)).mono ?_; rintro e w5 ⟨A5, c5, rfl, hS5, hb5, hA5⟩; have HS5 := Lib.hid hS5; have HB5 := Lib.hid hb5; have HA5 := Lib.hid hA5; have HDu := Lib.hid (HDq.out.less hb5 (fun b => q.w.heap.size ≤ b ∧ b < w5.heap.size) (fun b hb => hb)); clear hS5 hb5 hA5)
              | (go_at_call 12; refine (thV HDu.out 0 (by omega)).mono ?_; rintro e w' ⟨rfl, rfl⟩)
              | (go_at_call 11; refine (memRun _ HDu.out 0 (by omega) HZC.out.good A5 ps.length c5 ps rfl HS5.out (fun b hb hF => hF.2 ⟨HA5.out b hb, HS5.out.lt hb⟩) (by omega) (fun p hp => ⟨(HPO.out p hp).1, (HPO.out p hp).2.1, (HPO.out p hp).2.2.1⟩)).mono ?_; rintro e w6 ⟨rfl, hV6, hC6⟩; have HV6 := Lib.hid hV6; have HC6 := Lib.hid hC6; clear hV6 hC6))
            obtain ⟨S1, hS1⟩ : ∃ S1, S0.runP 0 ps = S1 := ⟨_, rfl⟩
            have hG1 : Good S1 (0 + ps.length) := by rw [← hS1]; exact Good.runP (by omega) ps HZC.out.good (fun p hp => (HPO.out p hp).2.1) (by omega)
            have hF1 : FitS S1 := by rw [← hS1]; exact FitS.runP 0 ps HZF.out (fun p hp => (HPO.out p hp).2.2.2)
            have hn1 : S1.lns.length = 4 := by rw [← hS1, nl_runP]; exact HZC.out.nl
            have hB5 : Below w.heap.size w w5 := (bl_bx HBf.out q).trans (HB5.out.mono (by have := HBf.out.size; have := q.size; omega))
            have hB6 : Below w.heap.size w w6 := bl_ch hB5 HC6.out (fun b hb => by have := hb.1; omega)
            have hCr5 : CB w5 w.heap.size 24 #[.bool f, .slice A m c, .bool has, .int .i64 n'] := (HC2.out.bx q).below HB5.out
            have hCr6 : CB w6 w.heap.size 24 #[.bool f, .slice A m c, .bool has, .int .i64 n'] := hCr5.ch HC6.out (fun h => by have := h.1; omega)
            have HCZ : Hid (Calls Tryz.prog 13 #[.pointer (some ⟨d, 0, none⟩), .slice B n2 c2] w6 (CrZ w6 S1 4)) := by
              show Calls _ _ _ _ _
              have hV := HV6.out
              rw [hS1] at hV
              exact crashZ hV hG1 (by omega) hF1 hn1 (by omega) (by omega) B n2 c2 cs HCS.out (by omega) (HR.out.below hB6) HW.out
            have HB6 := Lib.hid hB6
            have HCr6 := Lib.hid hCr6
            have HA6 : Hid (RdV w6 A (strVals l)) := HA.out.below hB6
            have hsz6 : w.heap.size < w6.heap.size := hCr6.lt
            clear hB5 hB6 hCr5 hCr6 hG1 hn1
            have ek1 : IntKind.u64.wrap (8 * (k : Int) + 80) = 8 * (k : Int) + 80 := IntWalk.u64_in _ (by omega)
            by_cases hin : k ≤ 22
            · have hcl : Clean S1 4 (applyW (List.replicate 32 0) vs) (0 + ps.length) := by
                have := HZC.out.stores (i := 0) (by omega) vs (by rw [← HVS.out]; exact planW_ok k es (by rw [HL1.out]; omega)) (by rw [HPS.out]; omega)
                rwa [HPS.out, hS1] at this
              obtain ⟨xs1, hx1⟩ : ∃ xs1, applyW (List.replicate 32 0) vs = xs1 := ⟨_, rfl⟩
              rw [hx1] at hcl
              have hxl : xs1.length = 32 := by rw [← hx1, length_applyW]; simp
              have hrd : (xs1.drop k).take 10 = es := by
                have := read_plan k es (List.replicate 32 0) (by rw [HL1.out]; simp; omega)
                rwa [HVS.out, hx1, HL1.out] at this
              have ho : ∀ n, numO has n' = some n → -9223372036854775808 ≤ n ∧ n < 9223372036854775808 := by
                intro n hn
                have := HN'.out
                cases has
                · cases hn
                · injection hn with hn
                  rw [← hn, this]; exact hnum
              have HDEC : Hid (decV ((xs1.drop k).take 10) = some (f, l, numO has n')) := by show _ = _; rw [hrd]; exact (decV_encV f l _ ho es HEc.out).1
              have hu1 : U64s xs1 := by have := hF1.pers; rwa [hcl.pers] at this
              have he1 : (S1.thr 0).err = 0 := hcl.err 0
              have HIMG : Hid (∀ K, (S1.upto K).pers = xs1) := hcl.img
              have HRV : Hid (∀ W d' t', DV (fun b => w6.heap.size ≤ b) d' t' W (newS xs1 4) → Calls Tryz.prog 14 #[.iface 53 (.pointer (some ⟨t' 1, 0, none⟩)), .int .u64 (8 * (k : Int)), .iface 99 codecV] W (RdVPost W (some (f, l, numO has n')))) := by
                show ∀ W d' t', _ → _
                rintro W d' t' ⟨_, L', rfl, hD', _⟩
                have := readV_ok W d' L' (newS xs1 4) hD' 1 (by omega) k (by show k + 10 ≤ xs1.length; omega) rfl rfl hu1
                rwa [show (newS xs1 4).cur = xs1 from rfl, HDEC.out] at this
              unfold codecV at HRV
              unfold RdVPost at HRV
              dsimp only at HRV
              have hng : ¬ (256 : Int) < 8 * (k : Int) + 80 := by omega
              have hsm : (numO has n').isSome = has := by cases has <;> rfl
              have hgn : (numO has n').getD 0 = n' := by have := HN'.out; cases has <;> simp [numO] <;> simp at this <;> omega
              have HTO : Hid (∀ W A' c' p', PtrI W p' (numO has n') → Calls Tryz.prog 16 #[.agg #[.bool f, .slice A' m c', .pointer p']] W fun e w' => e = .returned (.agg #[.bool f, .slice A' m c', .bool has, .int .i64 n']) ∧ Below W.heap.size W w') := by
                show ∀ W A' c' p', _ → _
                intro W A' c' p' hp
                have := told11 W f A' m c' p' (numO has n') hp
                rwa [hsm, hgn] at this
              rw [hS1, he1]
              clear hcl hx1 hrd hu1 he1 hxl hF1 hS1 ho hsm hgn HDEC
              go_upto_region 24 with (first
                | (go_at_call 13; refine HCZ.out.mono ?_; rintro e w7 ⟨d', t', K, rfl, hV7, _, _, hb7⟩; rw [HIMG.out K] at hV7; have HV7 := Lib.hid hV7; have HB7 := Lib.hid hb7; clear hV7 hb7)
                | (go_at_call 12; refine (thV HV7.out 1 (by omega)).mono ?_; rintro e w' ⟨rfl, rfl⟩)
                | (go_at_call 8; refine (codec11 _).mono ?_; rintro e w' ⟨rfl, rfl⟩)
                | (go_at_call 14; refine (HRV.out _ d' t' HV7.out).mono ?_; rintro e w8 ⟨hb8, A8, c8, p8, he8, hA8, hp8⟩; rw [HL.out] at he8; subst he8; obtain ⟨y8, rfl⟩ := bx_of hb8; have HA8 := Lib.hid hA8; have HP8 := Lib.hid hp8; clear hb8 hA8 hp8))
              have HCr8 : Hid (CB y8.w w.heap.size 24 #[.bool f, .slice A m c, .bool has, .int .i64 n']) := (HCr6.out.below HB7.out).bx y8
              have hs8 : w.heap.size < y8.w.heap.size := HCr8.out.lt
              have hs8n : ¬ w.heap.size = y8.w.heap.size := by omega
              have c00 : y8.w.cell? ⟨w.heap.size, 0, none⟩ = some (.bool f) := HCr8.out.cell 0
              have c01 : y8.w.cell? ⟨w.heap.size, 1, none⟩ = some (.slice A m c) := HCr8.out.cell 1
              have c02 : y8.w.cell? ⟨w.heap.size, 2, none⟩ = some (.bool has) := HCr8.out.cell 2
              have c03 : y8.w.cell? ⟨w.heap.size, 3, none⟩ = some (.int .i64 n') := HCr8.out.cell 3
              have HA9 : Hid (RdV y8.w A (strVals l)) := (HA6.out.below HB7.out).below y8.below
              have HBf8 : Hid (Below w.heap.size w y8.w) := bl_bx (HB6.out.trans (HB7.out.mono HB6.out.size)) y8
              have HSA : Hid (∀ W, Below y8.w.heap.size y8.w W → Calls Tryz.prog 15 #[.agg #[.bool f, .slice A8 m c8, .bool has, .int .i64 n'], .agg #[.bool f, .slice A m c, .bool has, .int .i64 n']] W fun e w' => e = .returned (.bool true) ∧ Below W.heap.size W w') := by
                show ∀ W, _ → _
                intro W hW
                exact same11_yes W f has n' A8 A m c8 c l HL.out (HA8.out.below hW) (HA9.out.below hW) hm2'
              have HTO8 : Hid (∀ W, Below y8.w.heap.size y8.w W → Calls Tryz.prog 16 #[.agg #[.bool f, .slice A8 m c8, .pointer p8]] W fun e w' => e = .returned (.agg #[.bool f, .slice A8 m c8, .bool has, .int .i64 n']) ∧ Below W.heap.size W w') := by
                show ∀ W, _ → _
                intro W hW
                exact HTO.out W A8 c8 p8 (HP8.out.below hW)
              clear HRV HTO HDV2 HR2
              refine wp_region_bx (by kernel_rfl) (by kernel_rfl) ?_
              repeat (go_big_quiet_step (first | (go_at_call 16; exact bx_call (HTO8.out _ (by (repeat (first | with_reducible exact Below.refl _ _ | with_reducible refine bl_alloc ?_ _ | with_reducible refine bl_drew ?_ | with_reducible refine bl_drewN ?_ _ | with_reducible refine bl_bx ?_ _ | with_reducible exact BX.below _ | with_reducible refine bl_set ?_ (by first | (exact Nat.le_refl _) | (simp; done) | (simp; omega)) _ | assumption))))) | (go_at_call 15; exact bx_call (HSA.out _ (by (repeat (first | with_reducible exact Below.refl _ _ | with_reducible refine bl_alloc ?_ _ | with_reducible refine bl_drew ?_ | with_reducible refine bl_drewN ?_ _ | with_reducible refine bl_bx ?_ _ | with_reducible exact BX.below _ | with_reducible refine bl_set ?_ (by first | (exact Nat.le_refl _) | (simp; done) | (simp; omega)) _ | assumption)))))))
              refine wpQuiet_nil ?_
              rintro _ ⟨v9, rfl⟩
              go_wp2
              go_ret
              exact ⟨rfl, bl_bx (bl_alloc HBf8.out _) v9⟩
            · have he2 : (S1.thr 0).err = 2 := by
                rw [← hS1]
                refine runP_bad 0 ps HZC.out.off HZC.out.armed (.inr ⟨HZC.out.err 0, ?_⟩)
                rw [← HPS.out, ← HVS.out]
                exact storesP_bad S0 HZC.out.nl k es HL1.out (by omega)
              have hg : (256 : Int) < 8 * (k : Int) + 80 := by omega
              have HRV : Hid (∀ W d' t' xs1, DV (fun b => w6.heap.size ≤ b) d' t' W (newS xs1 4) → Calls Tryz.prog 14 #[.iface 53 (.pointer (some ⟨t' 1, 0, none⟩)), .int .u64 (8 * (k : Int)), .iface 99 codecV] W fun e w' => e = vNone 2 ∧ Below W.heap.size W w') := by
                show ∀ W d' t' xs1, _ → _
                rintro W d' t' xs1 ⟨_, L', rfl, hD', _⟩
                have hl4 : (newS xs1 4).lns.length = 4 := by simp [newS]
                exact readV_range W d' L' (newS xs1 4) hD' 1 (by omega) (8 * (k : Int)) (by omega) (by omega) (by omega) (by rw [hl4]; omega)
              unfold codecV vNone at HRV
              rw [hS1, he2]
              clear hF1 hS1 he2 HDV2 HR2
              go_wp2_with (first
                | (go_at_call 13; refine HCZ.out.mono ?_; rintro e w7 ⟨d', t', K, rfl, hV7, _, _, hb7⟩; have HV7 := Lib.hid hV7; have HB7 := Lib.hid hb7; clear hV7 hb7)
                | (go_at_call 12; refine (thV HV7.out 1 (by omega)).mono ?_; rintro e w' ⟨rfl, rfl⟩)
                | (go_at_call 8; refine (codec11 _).mono ?_; rintro e w' ⟨rfl, rfl⟩)
                | (go_at_call 14; refine (HRV.out _ d' t' _ HV7.out).mono ?_; rintro e w8 ⟨rfl, hb8⟩; obtain ⟨y8, rfl⟩ := bx_of hb8; clear hb8))
              go_ret
              exact ⟨rfl, bl_alloc (bl_bx (HB6.out.trans (HB7.out.mono HB6.out.size)) y8) _⟩
end Go.Proofs.YtlbgmoijepknbaaGreat
