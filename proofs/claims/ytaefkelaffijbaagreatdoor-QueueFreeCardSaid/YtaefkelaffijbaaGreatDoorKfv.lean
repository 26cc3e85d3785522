/- Books, the reference's Apply, a run of one call (merged). -/
import Derived.Test.YtaefkelaffijbaaGreatDoorKft
import Derived.Test.YtaefkelaffijbaaGreatDoorKfa
import Derived.Deep.RegionHeld3
import Derived.Test.YtaefkelaffijbaaGreatDoorKfu
namespace Go.Proofs.YtaefkelaffijbaaGreatDoor
open Go.RowKit
set_option linter.unusedVariables false
set_option linter.unusedSimpArgs false
section
variable {K : Nat → Prop} {p d q n lines P N f : Nat} {t : Nat → Nat} {bs : Nat → Option Nat} {w w' : World} {σ : PwS} {xs : List Int} {L : Nat → Int} {qs : List Int}
set_option maxRecDepth 100000 in
set_option maxHeartbeats 2000000 in
theorem fbooks30 (h : QuV K p d q n lines P t bs w σ xs N L f qs) (A : Option Addr) (m c : Nat) (hm : qs.length = m) (hR : Rd .u64 w A qs) : Calls Tryz.prog 25 #[.pointer (some ⟨q, 0, none⟩), .slice A m c] w fun e w' => e = .returned (.bool true) ∧ Below w.heap.size w w' := by
 have hle := h.ab.le
 have hP := h.hP
 have HND : Hid (Calls Tryz.prog 45 #[.pointer (some ⟨q, 0, none⟩)] w (NdP ((P : Int) - (m : Int)) (m : Int) w)) := by have := quNodes h; rw [hm] at this; exact this
 have HAL : Hid (∀ W, Below w.heap.size w W → Calls Tryz.prog 13 #[.pointer (some ⟨q, 0, none⟩)] W (AllP qs W)) := fun W hW => quAll (h.bl hW)
 have HCA : Hid (∀ W, Below w.heap.size w W → Calls Tryz.prog 24 #[.pointer (some ⟨q, 0, none⟩)] W fun e w' => e = .returned (.int .i64 (P : Int)) ∧ W = w') := fun W hW => quCap (h.bl hW)
 have HSM : Hid (∀ W A2 c2, Below w.heap.size w W → Rd .u64 W A2 qs → Calls Tryz.prog 16 #[.slice A2 m c2, .slice A m c] W fun e w' => e = .returned (.bool true) ∧ Below W.heap.size W w') := fun W A2 c2 hW hR2 => by
  have := refSame30 W A2 A m c2 m c qs qs hm hm (by omega) hR2 (hR.below hW)
  rw [beq_self_eq_true] at this
  exact this
 have HM := Lib.hid hm
 have e1 : IntKind.i64.wrap ((P : Int) - (m : Int)) = (P : Int) - (m : Int) := IntWalk.i64_in _ (by omega)
 clear h hR hm hle hP
 go_enter Tryz.func25, Tryz.ntmps25
 go_wp2_with (first
  | (go_at_call 45; (with_reducible refine HND.out.mono ?_); rintro e w1 ⟨rfl, hb⟩; obtain ⟨x, rfl⟩ := bx_of hb; clear hb)
  | (go_at_call 13; (with_reducible refine (HAL.out _ (by (repeat (first | with_reducible (first | exact Below.refl _ _ | refine bl_alloc ?_ _ | refine bl_drew ?_ | refine bl_drewN ?_ _ | refine bl_bx ?_ _ | exact BX.below _ | refine bl_set ?_ (by first | (exact Nat.le_refl _) | (simp; done) | (simp; omega)) _) | assumption)))).mono ?_); rintro e w2 ⟨A2, c2, rfl, hr2, hb, _⟩; have HR2 := Lib.hid hr2; obtain ⟨y, rfl⟩ := bx_of hb; clear hb hr2; simp only [HM.out])
  | (go_at_call 16; (with_reducible refine (HSM.out _ _ _ (by (repeat (first | with_reducible (first | exact Below.refl _ _ | refine bl_alloc ?_ _ | refine bl_drew ?_ | refine bl_drewN ?_ _ | refine bl_bx ?_ _ | exact BX.below _ | refine bl_set ?_ (by first | (exact Nat.le_refl _) | (simp; done) | (simp; omega)) _) | assumption))) HR2.out).mono ?_); rintro e w3 ⟨rfl, hb⟩; obtain ⟨z, rfl⟩ := bx_of hb; clear hb)
  | (go_at_call 24; (with_reducible refine (HCA.out _ (by (repeat (first | with_reducible (first | exact Below.refl _ _ | refine bl_alloc ?_ _ | refine bl_drew ?_ | refine bl_drewN ?_ _ | refine bl_bx ?_ _ | exact BX.below _ | refine bl_set ?_ (by first | (exact Nat.le_refl _) | (simp; done) | (simp; omega)) _) | assumption)))).mono ?_); rintro e w4 ⟨rfl, rfl⟩))
 exact bodyPost_ret (v := .bool true) (by simp [results, Tryz.results25, go_sem]) rfl ⟨rfl, by (repeat (first | with_reducible (first | exact Below.refl _ _ | refine bl_alloc ?_ _ | refine bl_drew ?_ | refine bl_drewN ?_ _ | refine bl_bx ?_ _ | exact BX.below _ | refine bl_set ?_ (by first | (exact Nat.le_refl _) | (simp; done) | (simp; omega)) _) | assumption))⟩
end
theorem step_append_ints {P : Program} {w : World} {ops : Array Oper} {o : Oper} {a : Act} {K : Act → World → Prop} {Q : Exit → Act → World → Prop} {E : Prop} (hgd : o.guard = none) (s x : Operand) (t : TypeId)
 (ho : o.op = .call { callee := .builtin .append, args := #[s, x], argTypes := #[t, t] }) (e : TypeId) (k : IntKind) (by_ : Nat) (ht : P.underlying t = some (.slice e)) (hinfo : (P.info? e).map (fun i => (i.zero, i.size, i.bytes)) = some (some (.int k 0), 1, by_)) (hby : by_ ≤ 8)
 (base : Nat) (A : Option Addr) (c : Nat) (xs : List Int) (n : Nat) (sp : Option Addr) (m d : Nat) (ys : List Int) (hse : a.eval s = .slice A n c) (hxe : a.eval x = .slice sp m d)
 (hn : xs.length = n) (hown : OwnI k e w base A c xs) (hm : ys.length = m) (hr : Rd k w sp ys)
 (hbound : xs.length + ys.length ≤ 1000000000000) (hbase : base ≤ w.heap.size)
 (h : ∀ A' c' w', Hid (OwnI k e w' base A' c' (xs ++ ys)) → Hid (Ch (OwnB A) w w') → Hid (∀ b, OwnB A' b → OwnB A b ∨ b = w.heap.size) → K (a.put o.dst (.slice A' (n + m) c')) w') :
 if Region.wanted o (yielded ops a.tmps) = true then Oper.wp P o a w K Q else E := by
 have hw : Region.wanted o (yielded ops a.tmps) = true := by simp [Region.wanted, hgd]
 rw [if_pos hw]
 obtain ⟨A', c', w', hrun, h1, h2, h3⟩ := run_append_ints (P := P) w t o.type e k by_ ht hinfo hby base A c xs n hn hown sp m d ys hm hr hbound hbase
 unfold Oper.wp
 simp [execOp, ho, resolve, invoke, builtin, hse, hxe, hrun, Result.andThen]
 exact h A' c' w' h1 h2 h3
/-- What Apply leaves. -/
def ApP30 (A0 : Option Addr) (w : World) (r : List Int × Int × Int) (e : Ending) (w' : World) : Prop := ∃ A m c, e = .returned (.tuple #[.slice A m c, .int .u64 r.2.1, .int .i64 r.2.2]) ∧ r.1.length = m ∧ m ≤ c ∧ Rd .u64 w' A r.1 ∧ Below w.heap.size w w' ∧ ∀ b, OwnB A b → (w.heap.size ≤ b ∧ b < w'.heap.size) ∨ OwnB A0 b
theorem ownI_le {k : IntKind} {e : TypeId} {w : World} {base : Nat} {A : Option Addr} {c : Nat} {xs : List Int} (h : OwnI k e w base A c xs) : xs.length ≤ c := by
 rcases h.cases with ⟨_, rfl, rfl⟩ | ⟨g, cur, _, _, _, h, _⟩
 · simp
 · exact h
set_option maxRecDepth 100000 in
set_option maxHeartbeats 4000000 in
theorem refApply30 (w : World) (A : Option Addr) (m c : Nat) (vs : List Int) (hm : vs.length = m) (hm2 : m ≤ 1000) (hmc : m ≤ c) (hR : Rd .u64 w A vs) (P : Nat) (hP : P ≤ 1000) (put : Bool) (v : Int) :
 Calls Tryz.prog 23 #[.slice A m c, .int .i64 (P : Int), .bool put, .int .u64 v] w (ApP30 A w (qApp P vs put v)) := by
 cases put with
 | true =>
   by_cases hf : P ≤ m
   · have e1 : qApp P vs true v = (vs, 0, 4) := by unfold qApp; rw [if_pos rfl, if_pos (by omega)]
     have hf' : (P : Int) ≤ (m : Int) := by omega
     rw [e1]
     have HR := Lib.hid hR
     have HM := Lib.hid (And.intro hm hmc)
     clear hR hm hmc e1
     go_enter Tryz.func23, Tryz.ntmps23
     go_wp2
     exact bodyPost_ret (v := .tuple #[.slice A m c, .int .u64 0, .int .i64 4]) (by simp [results, Tryz.results23, go_sem]) rfl ⟨A, m, c, rfl, HM.out.1, HM.out.2, HR.out, Below.refl _ _, fun b hb => .inr hb⟩
   · have e1 : qApp P vs true v = (vs ++ [v], v, 0) := by unfold qApp; rw [if_pos rfl, if_neg (by omega)]
     have hf' : ¬ (P : Int) ≤ (m : Int) := by omega
     rw [e1]
     have HR := Lib.hid hR
     have HM := Lib.hid (And.intro hm hm2)
     clear hR hm hmc e1
     go_enter Tryz.func23, Tryz.ntmps23
     go_wp2_with (first
      | (at_builtin; refine wpList_append_ints rfl (.tmp 17) (.tmp 18) 40 rfl 34 .u64 8 Tryz.underlying40 info_u64 (by omega) w.heap.size (some ⟨w.heap.size, 0, none⟩) 0 [] 0 A m c vs rfl rfl rfl (OwnI.made w 0 (by omega) (Nat.le_refl _)) HM.out.1 (HR.out.alloc _) (by rw [HM.out.1]; simp; omega) (by simp) ?_; intro A2 c2 w2 HO2 HC2 HW2; have HB2 : Hid (Below w.heap.size w w2) := bl_ch (bl_alloc (Below.refl _ _) _) HC2.out (fun b hb => by simp [OwnB] at hb; omega))
      | (at_builtin; refine wpList_append_ints rfl (.tmp 19) (.tmp 21) 40 rfl 34 .u64 8 Tryz.underlying40 info_u64 (by omega) w.heap.size A2 c2 ([] ++ vs) m (some ⟨w2.heap.size, 0, none⟩) 1 1 [v] rfl rfl (by simp; exact HM.out.1) (HO2.out.alloc _) rfl (rd_one30 _ _) (by simp; have := HM.out; omega) (by have := HB2.out.size; simp; omega) ?_; intro A3 c3 w3 HO3 HC3 HW3; have HB3 : Hid (Below w.heap.size w w3) := bl_ch (bl_alloc HB2.out _) HC3.out (fun b hb => (HO2.out.lt hb).1)))
     refine bodyPost_ret (v := .tuple #[.slice A3 (m + 1) c3, .int .u64 v, .int .i64 0]) (by simp [results, Tryz.results23, go_sem]) rfl ⟨A3, m + 1, c3, rfl, by simp; have := HM.out.1; omega, by have := ownI_le HO3.out; simp at this; have := HM.out.1; omega, HO3.out.rd, HB3.out, fun b hb => .inl (HO3.out.lt hb)⟩
 | false =>
   match vs, hm, hR with
   | [], hm, hR =>
     obtain rfl : m = 0 := by simpa using hm.symm
     have e1 : qApp P [] false v = ([], 0, 5) := rfl
     rw [e1]
     clear hR hm hmc e1
     go_enter Tryz.func23, Tryz.ntmps23
     go_wp2
     exact bodyPost_ret (v := .tuple #[.slice A 0 c, .int .u64 0, .int .i64 5]) (by simp [results, Tryz.results23, go_sem]) rfl ⟨A, 0, c, rfl, rfl, Nat.zero_le _, Rd.nil, Below.refl _ _, fun b hb => .inr hb⟩
   | x :: r, hm, hR =>
     have e1 : qApp P (x :: r) false v = (r, x, 0) := rfl
     rw [e1]
     obtain ⟨g, off, rfl, hg, hc0⟩ := hR.at_ (i := 0) (by simp)
     have hc : w.cell? ⟨g, off, none⟩ = some (.int .u64 x) := hc0
     have hm0 : ¬ (m : Int) = 0 := by have : 0 < m := by rw [← hm]; simp
                                      omega
     have hm1 : 0 < m := by omega
     have hc1 : 1 ≤ c := by omega
     have b1 : (1 : Int) ≤ (m : Int) := by omega
     have b2 : (m : Int) ≤ (c : Int) := by omega
     have hrl : r.length = m - 1 := by rw [← hm]; simp
     have HRL := Lib.hid hrl
     have HRR : Hid (c ≠ 1 → Rd .u64 w (some ⟨g, off + 1, none⟩) r) := fun _ => by have := hR.drop 1; simpa using this
     have HR1 : Hid (c = 1 → r = []) := fun h => List.eq_nil_of_length_eq_zero (by omega)
     clear hR hm e1 hrl hc0
     by_cases hcc : c = 1
     · subst hcc
       have HT : Hid (Rd .u64 w (some ⟨g, off, none⟩) r ∧ r.length = 0) := by
        first
         | exact ⟨HRR.out hcc, HRL.out⟩
         | (have h9 := HR1.out rfl; exact ⟨by rw [h9]; exact Rd.nil, by rw [h9]; rfl⟩)
       clear HRR HR1
       go_enter Tryz.func23, Tryz.ntmps23
       go_upto_region 7 with (fail)
       go_region_held3 (fun w' => w'.cell? ⟨g, off, none⟩ = some (.int .u64 x) ∧ g < w'.heap.size)
        ((refine ⟨?_, ?_⟩ <;> first | assumption | (go_simp; done) | (simp; omega)))
        (first | (refine step_append_ints rfl (.tmp 28) (.tmp 30) 40 rfl 34 .u64 8 Tryz.underlying40 info_u64 (by omega) w.heap.size (some ⟨w.heap.size, 0, none⟩) 0 [] 0 (some ⟨g, off, none⟩) 0 0 r rfl rfl rfl (OwnI.made w 0 (by omega) (Nat.le_refl _)) HT.out.2 (HT.out.1.alloc _) (by rw [HT.out.2]; first | (simp; done) | (simp; omega)) (by simp) ?_; intro A2 c2 w2 HO2 HC2 HW2; have z0 : w2.cell? ⟨g, off, none⟩ = some (.int .u64 x) := (HC2.out.cells g off (by first | (simp; done) | (simp; omega) | omega) (fun hx => by simp [OwnB] at hx; omega)).trans (by go_simp); have z1 : g < w2.heap.size := Nat.lt_of_lt_of_le (by first | (simp; done) | (simp; omega) | omega) HC2.out.size))
       all_goals go_wp2
       all_goals exact bodyPost_ret (v := .tuple #[.slice A2 0 c2, .int .u64 x, .int .i64 0]) (by simp [results, Tryz.results23, go_sem]) rfl ⟨A2, 0, c2, rfl, HT.out.2, by have h9 := ownI_le HO2.out; simp at h9; have := HT.out.2; omega, HO2.out.rd, bl_ch (bl_drew (bl_alloc (Below.refl _ _) _)) HC2.out (fun b hb => by simp [OwnB] at hb; omega), fun b hb => .inl (HO2.out.lt hb)⟩
     · skip
       have HT : Hid (Rd .u64 w (some ⟨g, off + 1, none⟩) r ∧ r.length = (m - 1)) := by
        first
         | exact ⟨HRR.out hcc, HRL.out⟩
         | (have h9 := HR1.out rfl; exact ⟨by rw [h9]; exact Rd.nil, by rw [h9]; rfl⟩)
       clear HRR HR1
       go_enter Tryz.func23, Tryz.ntmps23
       go_upto_region 7 with (fail)
       go_region_held3 (fun w' => w'.cell? ⟨g, off, none⟩ = some (.int .u64 x) ∧ g < w'.heap.size)
        ((refine ⟨?_, ?_⟩ <;> first | assumption | (go_simp; done) | (simp; omega)))
        (first | (refine step_append_ints rfl (.tmp 28) (.tmp 30) 40 rfl 34 .u64 8 Tryz.underlying40 info_u64 (by omega) w.heap.size (some ⟨w.heap.size, 0, none⟩) 0 [] 0 (some ⟨g, off + 1, none⟩) (m - 1) (c - 1) r rfl rfl rfl (OwnI.made w 0 (by omega) (Nat.le_refl _)) HT.out.2 (HT.out.1.alloc _) (by rw [HT.out.2]; first | (simp; done) | (simp; omega)) (by simp) ?_; intro A2 c2 w2 HO2 HC2 HW2; have z0 : w2.cell? ⟨g, off, none⟩ = some (.int .u64 x) := (HC2.out.cells g off (by first | (simp; done) | (simp; omega) | omega) (fun hx => by simp [OwnB] at hx; omega)).trans (by go_simp); have z1 : g < w2.heap.size := Nat.lt_of_lt_of_le (by first | (simp; done) | (simp; omega) | omega) HC2.out.size))
       all_goals go_wp2
       all_goals exact bodyPost_ret (v := .tuple #[.slice A2 (m - 1) c2, .int .u64 x, .int .i64 0]) (by simp [results, Tryz.results23, go_sem]) rfl ⟨A2, (m - 1), c2, rfl, HT.out.2, by have h9 := ownI_le HO2.out; simp at h9; have := HT.out.2; omega, HO2.out.rd, bl_ch (bl_drew (bl_alloc (Below.refl _ _) _)) HC2.out (fun b hb => by simp [OwnB] at hb; omega), fun b hb => .inl (HO2.out.lt hb)⟩
theorem rdK {κ : Nat → Nat} {w w' : World} {A : Option Addr} {vs : List Int} (h : Rd .u64 w A vs) (hA : ∀ b, OwnB A b → κ b = 1) (hC : Ch (fun b => κ b = 0 ∨ κ b = 2) w w') : Rd .u64 w' A vs := by
 rcases h with h | ⟨b, off, h1, h2, h3⟩
 · exact .inl h
 · have hk := hA b (by rw [h1]; rfl)
   exact .inr ⟨b, off, h1, Nat.lt_of_lt_of_le h2 hC.size, fun i hi => (hC.cells b _ h2 (fun hx => by omega)).trans (h3 i hi)⟩
/-- What a run of one call leaves. -/
def OneP (κ : Nat → Nat) (p d q n lines P : Nat) (t : Nat → Nat) (vs : List Int) (N : Nat) (ins : Bool) (val : Int) (w : World) (e : Ending) (w' : World) : Prop :=
 ∃ (gA oA cm g1 a : Nat) (bg en : Int) (κ' : Nat → Nat) (N' : Nat) (σ : PwS) (xs : List Int) (L : Nat → Int), e = .returned (.tuple #[.slice (some ⟨gA, oA, none⟩) 1 cm, .bool true]) ∧ w'.cell? ⟨gA, oA, none⟩ = some (.pointer (some ⟨g1, 0, none⟩)) ∧ gA < w'.heap.size ∧
  CB w' g1 39 #[.pointer (some ⟨a, 0, none⟩), .bool ins, .int .u64 val, .int .i64 bg, .int .i64 en, .bool true, .int .u64 (qApp P vs ins val).2.1, .int .i64 (qApp P vs ins val).2.2, .bool true, .bool true] ∧
  QRs κ' p d q n lines P t w' (qApp P vs ins val).1 N' σ xs L ∧ N' ≤ N + 4559 ∧ (∀ b, b < w.heap.size → κ' b = κ b) ∧ Ch (fun b => κ b = 0 ∨ κ b = 2) w w'
section
variable {κ : Nat → Nat} {p d q n lines P N : Nat} {t : Nat → Nat} {vs : List Int} {w : World} {σ : PwS} {xs : List Int} {L : Nat → Int}
theorem frunOne (h : QRs κ p d q n lines P t w vs N σ xs L) (Ac : Option Addr) (cc : Nat) (c : Bool × Int × Int) (hcs : LfV κ w Ac 1 cc [c]) (hcr : (0 ≤ c.2.1 ∧ c.2.1 < 18446744073709551616) ∧ (-9223372036854775808 ≤ c.2.2 ∧ c.2.2 < 9223372036854775808)) (hN : N + 4559 < 1000000) :
 Calls Tryz.prog 12 #[.pointer (some ⟨q, 0, none⟩), .slice Ac 1 cc, .slice none 0 0, .bool true] w (OneP κ p d q n lines P t vs N c.1 (c.2.1 % 1099511627776) w) := by
 refine (frunAll h Ac 1 cc [c] (by omega) hcs (fun x hx => by rw [List.mem_singleton.1 hx]; exact hcr) none 0 0 [] rfl (by omega) Rd.nil (fun b hb => by simp [OwnB] at hb) (fun z hz => by simp at hz) (by show N + 4559 * 1 < 1000000; omega)).mono ?_
 rintro e w' ⟨Am, cm, ms, ord, κ', N', σ', xs', L', rfl, hR', hM, hO, hk, hC, hN'⟩
 obtain ⟨m, rfl, h1, h2, h3, h4⟩ := RunOk.one (c := (c.1, c.2.1 % 1099511627776, (c.2.2 % 3).toNat)) hO (by show (c.2.2 % 3).toNat < 3; omega)
 dsimp only at h1 h2 h3 h4
 rw [h3] at hR'
 obtain ⟨gs, oz, hS, hg, _, hm⟩ := hM
 obtain ⟨gA, oA, hA, hgl, hc2⟩ := hS.at_ (j := 0) (by simp [hg])
 obtain ⟨hm2, _⟩ := hm 0 m rfl
 have hx : (gs.map mpV)[0]'(by simp [hg]) = .pointer (some ⟨gs.getD 0 0, 0, none⟩) := by
  rw [List.getElem_map, List.getD_eq_getElem?_getD, List.getElem?_eq_getElem (by rw [hg]; simp)]; rfl
 rw [hx] at hc2
 have hmq : mqc m (oz.getD 0 0) = #[.pointer (some ⟨oz.getD 0 0, 0, none⟩), .bool c.1, .int .u64 (c.2.1 % 1099511627776), .int .i64 m.bg, .int .i64 m.en, .bool true, .int .u64 (qApp P vs c.1 (c.2.1 % 1099511627776)).2.1, .int .i64 (qApp P vs c.1 (c.2.1 % 1099511627776)).2.2, .bool true, .bool true] := by
  unfold mqc
  rw [h1, h2, h4]
  rfl
 rw [hmq] at hm2
 subst hA
 exact ⟨gA, oA, cm, gs.getD 0 0, oz.getD 0 0, m.bg, m.en, κ', N', σ', xs', L', rfl, hc2, hgl, hm2, hR', by have h9 : N' ≤ N + 4559 * 1 := hN'; omega, hk, hC⟩
end
end Go.Proofs.YtaefkelaffijbaaGreatDoor
