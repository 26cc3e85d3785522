/- The law MwcasSolo (merged). -/
import Derived.Test.YtjaohgnloddgfaaGreatDoorKmt
namespace Go.Proofs.YtjaohgnloddgfaaGreatDoor
open Go.RowKit
set_option linter.unusedVariables false
set_option linter.unusedSimpArgs false

/-- Counts behind one more call; y of its entries. -/
def soC (cn : List Int) (es : List REnt) (y : Nat) : List Int := (List.range 8).map fun j => gt0 cn j + ((es.take y).countP (fun e => e.word == j) : Nat)
theorem length_soC (cn : List Int) (es : List REnt) (y : Nat) : (soC cn es y).length = 8 := by simp [soC]
theorem soC_get (cn : List Int) (es : List REnt) (y : Nat) {j : Nat} (hj : j < 8) : gt0 (soC cn es y) j = gt0 cn j + ((es.take y).countP (fun e => e.word == j) : Nat) := by simp [gt0, soC, hj]
theorem soC_zero (cn : List Int) (es : List REnt) (hl : cn.length = 8) : soC cn es 0 = cn := list8_ext (length_soC _ _ _) hl (fun j hj => by rw [soC_get cn es 0 hj]; simp)
theorem soC_succ (cn : List Int) (es : List REnt) {y : Nat} (hy : y < es.length) (hw : (es.getD y RE0).word < 8) : soC cn es (y + 1) = (soC cn es y).set (es.getD y RE0).word (gt0 (soC cn es y) (es.getD y RE0).word + 1) := by
  rw [soC_get cn es y hw]
  apply List.ext_getElem
  · simp [soC]
  · intro j h1 h2
    simp only [soC, List.getElem_set, List.getElem_map, List.getElem_range]
    rw [List.take_succ_eq_append_getElem hy, List.countP_append]
    have he : es[y] = es.getD y RE0 := by rw [List.getD_eq_getElem?_getD, List.getElem?_eq_getElem hy]; rfl
    rw [he]
    by_cases hj : (es.getD y RE0).word = j
    · subst hj
      rw [if_pos rfl]
      simp
      omega
    · rw [if_neg hj]
      have h0 : ((es.getD y RE0).word == j) = false := by simpa using hj
      have h1 : List.countP (fun e => e.word == j) [es.getD y RE0] = 0 := by rw [List.countP_cons, h0]; rfl
      rw [h1]; rfl
theorem soC_le (cn : List Int) (es : List REnt) (y : Nat) {j : Nat} (hj : j < 8) {b : Int} (hb : 0 ≤ gt0 cn j ∧ gt0 cn j ≤ b) : 0 ≤ gt0 (soC cn es y) j ∧ gt0 (soC cn es y) j ≤ b + es.length := by
  rw [soC_get cn es y hj]
  have h4 : (es.take y).countP (fun e => e.word == j) ≤ (es.take y).length := List.countP_le_length
  simp at h4
  omega
/-- The state between two calls. -/
structure SoI (κ0 : Nat → Nat) (p d : Nat) (t : Nat → Nat) (n0 gC x : Nat) (vs cn : List Int) (An : Option Addr) (cN : Nat) (w0 wr : World) : Prop where
  ex : ∃ κ σ L, BegS κ p d t L (fun _ => 0) (1000 + 8000 * x) n0 wr [] [] wr σ [] ∧ (∀ j, j < 8 → L (288 + j) = gt0 vs j + gt0 cn j * 1099511627776) ∧ vsOf L = vs ∧ (∀ b, OwnB An b → κ b = 1)
  rd : Rd .u64 wr An vs
  ct : IB .u64 23 wr gC cn
  vr : ∀ j, 0 ≤ gt0 vs j ∧ gt0 vs j < 256
  vl : vs.length = 8
  cl : cn.length = 8
  cr : ∀ j, j < 8 → 0 ≤ gt0 cn j ∧ gt0 cn j ≤ x
  bl : Below w0.heap.size w0 wr
  gb : w0.heap.size ≤ gC ∧ gC < n0
  dj : ∀ b, OwnB An b → b ≠ gC
theorem rSet_range {vs : List Int} {es : List REnt} (h : RIn es) (hv : ∀ j, 0 ≤ gt0 vs j ∧ gt0 vs j < 256) : ∀ j, 0 ≤ gt0 (rSet vs es) j ∧ gt0 (rSet vs es) j < 256 := by
  have key : ∀ (es : List REnt) (vs : List Int), (∀ e ∈ es, 0 ≤ e.new ∧ e.new < 256) → (∀ j, 0 ≤ gt0 vs j ∧ gt0 vs j < 256) → ∀ j, 0 ≤ gt0 (rSet vs es) j ∧ gt0 (rSet vs es) j < 256 := by
    intro es
    induction es with
    | nil => intro vs _ hv; exact hv
    | cons e es ih =>
      intro vs he hv
      have h1 := he e (by simp)
      refine ih (vs.set e.word e.new) (fun e' he' => he e' (by simp [he'])) (fun j => ?_)
      unfold gt0
      rw [List.getD_eq_getElem?_getD, List.getElem?_set]
      split
      · split
        · exact h1
        · simp
      · exact hv j
  exact key es vs (fun e he => by have := h.w e he; omega) hv
theorem rApply_range {vs : List Int} {es : List REnt} (h : RIn es) (hv : ∀ j, 0 ≤ gt0 vs j ∧ gt0 vs j < 256) : ∀ j, 0 ≤ gt0 (rApply vs es) j ∧ gt0 (rApply vs es) j < 256 := by
  unfold rApply
  split
  · exact rSet_range h hv
  · exact hv
theorem length_rApply (vs : List Int) (es : List REnt) : (rApply vs es).length = vs.length := by
  unfold rApply
  split
  · exact length_rSet vs es
  · rfl
/-- A word is its value and its change count. -/
theorem word_split {L : Nat → Int} {vs : List Int} {j : Nat} {c : Int} (hL : 0 ≤ L (288 + j)) (hj : j < 8) (hv : vsOf L = vs) (hc : L (288 + j) / 1099511627776 = c) : L (288 + j) = gt0 vs j + c * 1099511627776 := by
  have h1 : gt0 vs j = L (288 + j) % 1099511627776 := by rw [← hv]; exact vsOf_get hj
  rw [h1, ← hc]
  have := Int.emod_add_mul_ediv (L (288 + j)) 1099511627776
  omega
end Go.Proofs.YtjaohgnloddgfaaGreatDoor

namespace Go.Proofs.YtjaohgnloddgfaaGreatDoor
open Go.RowKit
set_option linter.unusedVariables false
set_option linter.unusedSimpArgs false

theorem Rd.keepB {k : IntKind} {w w' : World} {A : Option Addr} {xs : List Int} (h : Rd k w A xs) (hs : w.heap.size ≤ w'.heap.size) (hb : ∀ b, b < w.heap.size → OwnB A b → w'.heap[b]? = w.heap[b]?) : Rd k w' A xs := by
  rcases h with rfl | ⟨b, o, hA, hl, hc⟩
  · exact .inl rfl
  · refine .inr ⟨b, o, hA, Nat.lt_of_lt_of_le hl hs, fun i hi => ?_⟩
    have hbb := hb b hl (by rw [hA]; simp [OwnB])
    have : w'.cell? ⟨b, o + i, none⟩ = w.cell? ⟨b, o + i, none⟩ := by
      unfold World.cell?
      dsimp only
      rw [hbb]
    rw [this]; exact hc i hi
/-- Behind the changes of one call's result. -/
structure SoB (gC : Nat) (vs cn : List Int) (An : Option Addr) (w2 wx : World) : Prop where
  rd : Rd .u64 wx An vs
  ct : IB .u64 23 wx gC cn
  ch : Ch (At gC) w2 wx
section
variable {κ0 κ : Nat → Nat} {p d : Nat} {t : Nat → Nat} {n0 gC x ne : Nat} {vs cn : List Int} {An An' As : Option Addr} {cN cN' : Nat} {w wr w2 wf : World} {L L2 : Nat → Int} {q : TdS} {m : MaS}
theorem SoI.below (h : SoI κ0 p d t n0 gC x vs cn An cN w wr) (hB : Below wr.heap.size wr wf) : SoI κ0 p d t n0 gC x vs cn An cN w wf := by
  obtain ⟨κ, σ, L, h1, h2, h3, h4⟩ := h.ex
  exact ⟨⟨κ, σ, L, h1.poke (κ' := κ) (T := fun _ => False) (Ch.of_below hB) (fun _ _ hx => hx.elim) (fun hx => hx) (fun _ _ => rfl) (fun _ hx => .inl hx), h2, h3, h4⟩, h.rd.below hB, h.ct.keep (hB.block gC h.ct.lt), h.vr, h.vl, h.cl, h.cr, h.bl.trans (hB.mono h.bl.size), h.gb, h.dj⟩
theorem SoI.next (hS : SoI κ0 p d t n0 gC x vs cn An cN w wr) (hw0 : 0 < w.heap.size) (hOn : ∀ b, OwnB An b → κ b = 1) (hLw : ∀ j, j < 8 → L (288 + j) = gt0 vs j + gt0 cn j * 1099511627776) (hvL : vsOf L = vs) (hx8 : x < 8) (hE : RunO κ wr p d t L (1000 + 8000 * x) n0 wr q As m L2 w2) (hne : q.es.length = ne)
    (hB : SoB gC (if m.ok then rApply vs q.es else vs) (if m.ok then soC cn q.es ne else cn) An' w2 wf) (hO : ∀ b, OwnB An' b → OwnB An b ∨ (w2.heap.size ≤ b ∧ b < wf.heap.size)) :
    SoI κ0 p d t n0 gC (x + 1) (if m.ok then rApply vs q.es else vs) (if m.ok then soC cn q.es ne else cn) An' cN' w wf := by
  obtain ⟨κ2, σ2, hB2, hKp⟩ := hE.nx
  have hcr := hS.cr
  have hgC0 : gC ≠ 0 := by have := hS.gb.1; omega
  have hk2 : κ2 gC = 1 := hB2.kb gC hS.gb.2
  have hvs : vsOf L2 = if m.ok then rApply vs q.es else vs := by rw [hE.vs, hvL]
  have hcn : ∀ j, j < 8 → L2 (288 + j) / 1099511627776 = gt0 (if m.ok then soC cn q.es ne else cn) j ∧ 0 ≤ gt0 (if m.ok then soC cn q.es ne else cn) j ∧ gt0 (if m.ok then soC cn q.es ne else cn) j ≤ x + 1 := fun j hj => by
    have h0 := hcr j hj
    have hv := hS.vr j
    have h1 : L (288 + j) / 1099511627776 = (((gt0 cn j).toNat : Nat) : Int) := by rw [hLw j hj]; omega
    have h2 := hE.ct j hj (gt0 cn j).toNat h1 (by omega)
    have h3 := ctN_le m.ok hE.td j
    rw [h2]
    unfold ctN at h3 ⊢
    cases hok : m.ok with
    | true =>
      rw [hok] at h3
      simp only [if_true] at h3 ⊢
      rw [soC_get cn q.es ne hj, ← hne, List.take_length]
      omega
    | false =>
      simp only [Bool.false_eq_true, if_false] at h3 ⊢
      omega
  refine ⟨⟨fun b => if w2.heap.size ≤ b ∧ b < wf.heap.size then 1 else κ2 b, σ2, L2, ?_, fun j hj => ?_, hvs, fun b hb => ?_⟩, hB.rd, hB.ct, ?_, ?_, ?_, fun j hj => ⟨(hcn j hj).2.1, by have := (hcn j hj).2.2; omega⟩, ?_, hS.gb, fun b hb => ?_⟩
  · have hlt : ∀ b, κ2 b ≠ 0 → b < w2.heap.size := fun b hb => hB2.pm.lk (K := fun b => κ2 b ≠ 0) hb
    have hp := hB2.poke (κ' := fun b => if w2.heap.size ≤ b ∧ b < wf.heap.size then 1 else κ2 b) hB.ch (fun b _ hb => by rw [show b = gC from hb]; exact hk2) (fun hx => hgC0 hx.symm) (fun b hb => if_neg (by have := hlt b hb; omega)) (fun b hb => by
      by_cases hx : w2.heap.size ≤ b ∧ b < wf.heap.size
      · exact .inr hx
      · left
        have hb : (if w2.heap.size ≤ b ∧ b < wf.heap.size then 1 else κ2 b) ≠ 0 := hb
        rwa [if_neg hx] at hb)
    have e : 1000 + 8000 * x + 8000 = 1000 + 8000 * (x + 1) := by omega
    rw [e] at hp
    exact hp
  · exact word_split (hE.hL _ (by unfold M17; omega)).1 hj hvs (hcn j hj).1
  · show (if w2.heap.size ≤ b ∧ b < wf.heap.size then 1 else κ2 b) = 1
    rcases hO b hb with h | h
    · have := (hKp b (hOn b h)).1
      split
      · rfl
      · exact this
    · rw [if_pos h]
  · split
    · exact rApply_range hE.td.2 hS.vr
    · exact hS.vr
  · split
    · rw [length_rApply]; exact hS.vl
    · exact hS.vl
  · split
    · exact length_soC _ _ _
    · exact hS.cl
  · have h1 : Below w.heap.size w w2 := hS.bl.trans (hB2.bl.mono (Nat.le_trans hS.gb.1 (Nat.le_of_lt hS.gb.2)))
    exact bl_ch h1 hB.ch (fun b hb => by rw [show b = gC from hb]; exact hS.gb.1)
  · rcases hO b hb with h | h
    · exact hS.dj b h
    · have := hS.gb.2
      have := hB2.nl
      omega
/-- What the law asks between two calls. -/
theorem SoI.calls (h : SoI κ0 p d t n0 gC x vs cn An cN w wr) : (∀ W, Below wr.heap.size wr W → Calls Tryz.prog 24 #[.pointer (some ⟨d, 0, none⟩), .int .i64 0] W fun e w' => e = .returned (.pointer (some ⟨t 0, 0, none⟩)) ∧ W = w') ∧
    (∀ W, Below wr.heap.size wr W → ∀ j, j < 8 → Calls Tryz.prog 25 #[.pointer (some ⟨t 0, 0, none⟩), .int .u64 (8 * ((288 + j : Nat) : Int))] W fun e w' => e = .returned (.int .u64 (gt0 vs j + gt0 cn j * 1099511627776)) ∧ W = w') ∧
    ∀ W, Below wr.heap.size wr W → Calls Tryz.prog 35 #[.pointer (some ⟨p, 0, none⟩)] W fun e w' => e = .returned (.int .i64 8) ∧ W = w' := by
  obtain ⟨κ, σ, L, h1, h2, h3, h4⟩ := h.ex
  obtain ⟨N, xs, hI, hN⟩ := h1.ex
  refine ⟨fun W hW => ?_, fun W hW j hj => ?_, fun W hW => ?_⟩
  · obtain ⟨role, bb, hp, hK⟩ := h1.pm.bl0 hW
    exact vThread hp.dv 0 (by omega)
  · obtain ⟨role, bb, hp, hK⟩ := h1.pm.bl0 hW
    rw [← h2 j hj]
    exact vLoad hp.dv 0 (by omega) hI.on.off _ _ (by rw [hI.on.cur]; exact hI.idle h1.cur _ (by unfold M17; omega))
  · have hf := h1.bz.free (fun i m hi => by simp at hi)
    have := pwFree (h1.pm.bl0 hW) (by rw [hf]; rfl)
    rw [hf] at this
    exact this
end
end Go.Proofs.YtjaohgnloddgfaaGreatDoor

namespace Go.Proofs.YtjaohgnloddgfaaGreatDoor
open Go.RowKit
set_option linter.unusedVariables false
set_option linter.unusedSimpArgs false

theorem LcV.sub {w : World} {g o n c x : Nat} {cs : List (Int × Int × List (Int × Int × Int))} (h : LcV w (some ⟨g, o, none⟩) n c cs) (hx : x < n) : LcV w (some ⟨g, o + x * 3, none⟩) 1 (c - x) [cs.getD x C0] := by
  refine ⟨rfl, by have := h.2.1; omega, fun k hk => ?_⟩
  have hk0 : k = 0 := by omega
  subst hk0
  obtain ⟨g2, o2, A', n', c', hA, h2, h3, t0, t1, t2, h4⟩ := h.2.2 x hx
  injection hA with hA
  injection hA with e1 e2
  subst e1 e2
  exact ⟨g, o + x * 3, A', n', c', rfl, h2, h3, by simpa using t0, by simpa using t1, by simpa using t2, h4⟩
set_option maxRecDepth 100000 in
set_option maxHeartbeats 32000000 in
theorem walkSolo (w : World) (hT : Tab w) (A : Option Addr) (n c : Nat) (zs : List Int) (hn : zs.length = n) (hn2 : n < 9223372036854775808) (hR : Rd .u64 w A zs) (hz : ∀ z ∈ zs, 0 ≤ z ∧ z < 18446744073709551616)
    (A1 : Option Addr) (n1 c1 : Nat) (cs : List (Int × Int × List (Int × Int × Int))) (hn1 : n1 < 9223372036854775808) (hc1 : c1 ≤ 9223372036854775807) (hLC : LcV w A1 n1 c1 cs) (hLW : LcW cs) :
    Calls Tryz.prog 8 #[.slice A n c, .slice A1 n1 c1] w fun e w' => e = .returned (.bool true) ∧ Below w.heap.size w w' := by
  have HT := Lib.hid hT
  have HLC := Lib.hid hLC
  have HLW := Lib.hid hLW
  have HVA := Lib.hid (values17 w A n c zs hn hn2 hR hz)
  have hvr := vals17_range zs
  have hvl := length_vals17 zs
  obtain ⟨vs, hvs⟩ : ∃ vs, vals17 zs = vs := ⟨_, rfl⟩
  rw [hvs] at HVA hvr hvl
  have HVR := Lib.hid hvr
  have HVL := Lib.hid hvl
  have HSU : Hid (∀ (W : World) g, IB .u64 23 W g vs → Calls Tryz.prog 13 #[.slice (some ⟨g, 0, none⟩) 8 8] W (SetPost W vs)) := fun W g hI => setup17 W _ 8 _ HVL.out hI.rd0 HVR.out
  have HAW : Hid (∀ W, Below w.heap.size w W → Calls Tryz.prog 15 #[] W fun e w' => e = .returned (.bool true) ∧ Below W.heap.size W w') := fun W hW => awake17 W (HT.out.ch (Ch.of_below (S := fun _ => False) hW) (fun h => h))
  have hmk := fun W => run_make_z (P := Tryz.prog) 28 23 .u64 .i64 .i64 8 8 rfl Tryz.underlying28 8 info_u64 (by omega) (by omega) W
  have hmc := hLC.2.1
  clear hT hR hz hvs hvr hvl hLC hLW
  go_enter Tryz.func8, Tryz.ntmps8
  go_upto_region 3 with (go_at_call 14; refine HVA.out.mono ?_; rintro e w' ⟨g0, rfl, hI, hg, hb⟩; have HI := Lib.hid hI; have HG0 := Lib.hid hg; have hgl0 := hI.lt; obtain ⟨x0, rfl⟩ := bx_of hb; clear hI hg hb)
  have HC0 : Hid (IB .u64 23 (x0.w.alloc (.cells (ia .u64 [0, 0, 0, 0, 0, 0, 0, 0]) 23)) x0.w.heap.size [0, 0, 0, 0, 0, 0, 0, 0]) := IB.new _ _
  have HIA : Hid (IB .u64 23 (x0.w.alloc (.cells (ia .u64 [0, 0, 0, 0, 0, 0, 0, 0]) 23)) g0 vs) := HI.out.alloc _
  have HBA : Hid (Below w.heap.size w (x0.w.alloc (.cells (ia .u64 [0, 0, 0, 0, 0, 0, 0, 0]) 23))) := bl_alloc x0.below _
  have HGC : Hid (w.heap.size ≤ x0.w.heap.size) := x0.size
  obtain ⟨gC, hgC⟩ : ∃ gC, x0.w.heap.size = gC := ⟨_, rfl⟩
  obtain ⟨W0, hW0⟩ : ∃ W0, x0.w.alloc (.cells (ia .u64 [0, 0, 0, 0, 0, 0, 0, 0]) 23) = W0 := ⟨_, rfl⟩
  have HNE0 : Hid (g0 < gC) := by show _ < _; rw [← hgC]; exact hgl0
  rw [hW0, hgC] at HC0
  rw [hW0] at HIA HBA ⊢
  rw [hgC] at HGC
  simp only [hgC]
  have HGL : Hid (gC < W0.heap.size ∧ g0 < W0.heap.size) := ⟨HC0.out.lt, HIA.out.lt⟩
  clear hgC hW0 hmk HI hgl0
  go_upto_region 7 with (first
    | (go_at_call 13; refine (HSU.out _ _ HIA.out).mono ?_; rintro e w1 ⟨p, d, t, S, rfl, hP, hcl, hb⟩; have HP := Lib.hid hP; have HCL := Lib.hid hcl; obtain ⟨x, rfl⟩ := bx_of hb; clear hP hcl hb)
    | (go_at_call 15; refine (HAW.out _ (bl_bx HBA.out x)).mono ?_; rintro e w2 ⟨rfl, hb⟩; obtain ⟨y, rfl⟩ := bx_of hb; have HBE0 := Lib.hid ((BegS.start HVR.out HP.out HCL.out x.below (HT.out.ch (Ch.of_below (S := fun _ => False) HBA.out) (fun h => h))).below y.below); clear hb)
    | (go_at_call 35; refine (pwFree HBE0.out.pm rfl).mono ?_; rintro e w' ⟨rfl, rfl⟩))
  have HBE : Hid (SoI (kap0 W0.heap.size) p d t W0.heap.size gC 0 vs [0, 0, 0, 0, 0, 0, 0, 0] (some ⟨g0, 0, none⟩) 8 w y.w) := by
    have hL := L17_ok vs HVR.out
    refine ⟨⟨kap0 W0.heap.size, _, L17 vs, HBE0.out.poke (κ' := kap0 W0.heap.size) (T := fun _ => False) (w' := y.w) (Ch.refl _ _) (fun _ _ h => h.elim) (fun h => h) (fun _ _ => rfl) (fun _ h => .inl h), fun j hj => ?_, vs17 vs HVL.out HVR.out, fun b hb => ?_⟩, (HIA.out.rd0.below x.below).below y.below, (HC0.out.keep (x.below.block gC HC0.out.lt)).keep (y.below.block gC (x.lt_size HC0.out.lt)), HVR.out, HVL.out, rfl, fun j hj => ?_, bl_bx (bl_bx HBA.out x) y, ⟨HGC.out, HGL.out.1⟩, fun b hb => by have hb : g0 = b := (by simpa [OwnB] using hb); have := HNE0.out; omega⟩
    · rw [L17_get vs hj]
      have : gt0 ([0, 0, 0, 0, 0, 0, 0, 0] : List Int) j = 0 := by rcases (by omega : j = 0 ∨ j = 1 ∨ j = 2 ∨ j = 3 ∨ j = 4 ∨ j = 5 ∨ j = 6 ∨ j = 7) with rfl | rfl | rfl | rfl | rfl | rfl | rfl | rfl <;> rfl
      rw [this]; omega
    · have hb : g0 = b := by simpa [OwnB] using hb
      rw [← hb]; exact if_pos HGL.out.2
    · have : gt0 ([0, 0, 0, 0, 0, 0, 0, 0] : List Int) j = 0 := by rcases (by omega : j = 0 ∨ j = 1 ∨ j = 2 ∨ j = 3 ∨ j = 4 ∨ j = 5 ∨ j = 6 ∨ j = 7) with rfl | rfl | rfl | rfl | rfl | rfl | rfl | rfl <;> rfl
      rw [this]; omega
  obtain ⟨n0, hn0⟩ : ∃ n0, W0.heap.size = n0 := ⟨_, rfl⟩
  rw [hn0] at HBE
  have HLCA : Hid (∀ W, Below w.heap.size w W → LcV W A1 n1 c1 cs) := fun W hW => HLC.out.bl hW
  obtain ⟨WW, hWW⟩ : ∃ WW, y.w = WW := ⟨_, rfl⟩
  rw [hWW] at HBE ⊢
  clear hn0 hWW HBE0 HP HCL HIA HC0 HBA HGC HGL HSU HAW HVA HLC HG0 HVR HVL
  go_wp2
  go_loopw [10, 5, 4, 11, 12, 13, 15, 16, 33, 34, 35, 36, 37, 38, 39, 40, 41, 42, 43, 44, 45, 46, 47, 48, 49, 50, 51, 52, 53, 54, 55, 56, 57, 58, 59, 60, 61, 62, 63, 64, 65, 66, 67, 68, 69, 70, 71, 72, 73, 74, 75, 76, 77, 78, 79, 80, 81, 82, 83, 84, 85, 86, 87, 88, 89, 90, 91, 92, 93, 94, 95, 96, 97, 98, 99, 100, 101, 102, 103, 104, 105, 106, 107, 108, 109, 110, 111, 112, 113, 114, 115, 116, 117, 118, 119, 120, 121, 122, 123, 124, 125, 126, 127, 128, 129, 130, 131, 132, 133, 134, 135, 136, 137, 138, 139, 140, 141, 142, 143, 144, 145, 146, 147, 148, 149, 150, 151, 152, 153, 154, 155, 156, 157, 158] (fun i s _ _ _ _ _ _ _ _ _ _ _ _ _ _ _ _ _ _ _ _ _ _ _ _ _ _ _ _ _ _ _ _ _ _ _ _ _ _ _ _ _ _ _ _ _ _ _ _ _ _ _ _ _ _ _ _ _ _ _ _ _ _ _ _ _ _ _ _ _ _ _ _ _ _ _ _ _ _ _ _ _ _ _ _ _ _ _ _ _ _ _ _ _ _ _ _ _ _ _ _ _ _ _ _ _ _ _ _ _ _ _ _ _ _ _ _ _ _ _ _ _ _ _ _ _ _ _ _ _ _ _ _ wr => ∃ (x : Nat) (vs cn : List Int) (An : Option Addr) (cN : Nat), x ≤ n1 ∧ x ≤ 8 ∧ i = .int .i64 x ∧ s = .slice An 8 cN ∧ SoI (kap0 n0) p d t n0 gC x vs cn An cN w wr) (fun i s _ _ _ _ _ _ _ _ _ _ _ _ _ _ _ _ _ _ _ _ _ _ _ _ _ _ _ _ _ _ _ _ _ _ _ _ _ _ _ _ _ _ _ _ _ _ _ _ _ _ _ _ _ _ _ _ _ _ _ _ _ _ _ _ _ _ _ _ _ _ _ _ _ _ _ _ _ _ _ _ _ _ _ _ _ _ _ _ _ _ _ _ _ _ _ _ _ _ _ _ _ _ _ _ _ _ _ _ _ _ _ _ _ _ _ _ _ _ _ _ _ _ _ _ _ _ _ _ _ _ _ _ _ => 8 - (intOf i).toNat)
  case atStart => exact ⟨0, vs, [0, 0, 0, 0, 0, 0, 0, 0], some ⟨g0, 0, none⟩, 8, by omega, by omega, rfl, rfl, HBE.out⟩
  case round =>
    clear HBE
    obtain ⟨x, vs, cn, An, cN, hxn, hx8, rfl, rfl, hS⟩ := hrel
    have HS := Lib.hid hS
    by_cases hlt : x < n1
    · have hlt' : (x : Int) < (n1 : Int) := by omega
      by_cases hlt8 : x < 8
      · have hlt8' : (x : Int) < 8 := by omega
        obtain ⟨κ, σ, L, hBe, hLw, hvL, hOn⟩ := hS.ex
        have hl0 := HLCA.out wr hS.bl
        obtain ⟨g1, o1, _, _, _, hA1, hg1, _⟩ := hl0.2.2 x hlt
        have HA1 := Lib.hid hA1
        have hxc : x < cs.length := by rw [hl0.1]; exact hlt
        have HRN : Hid (Calls Tryz.prog 23 #[.pointer (some ⟨p, 0, none⟩), .slice (some ⟨g1, o1 + x * 3, none⟩) 1 (c1 - x), .slice none 0 0, .bool true] wr (RnPost κ wr p d t L (1000 + 8000 * x) n0 wr [cs.getD x C0] true)) :=
          run17 (by omega) hBe _ 1 (c1 - x) [cs.getD x C0] (by omega) (fun W hW => by
            have h2 := HLCA.out W (hS.bl.trans (hW.mono (Nat.le_trans hS.gb.1 (Nat.le_of_lt hS.gb.2))))
            rw [hA1] at h2
            exact h2.sub hlt) (fun c hc => HLW.out c (by rw [List.mem_singleton.1 hc]; exact getD_mem cs C0 hxc)) none 0 0 [] rfl (by omega) (fun W hW => .inl rfl) (by simp) true
        have HQ : Hid (TdOk (qOf (cs.getD x C0))) := qOf_ok _
        obtain ⟨cx, hcx⟩ : ∃ cx, cs.getD x C0 = cx := ⟨_, rfl⟩
        rw [hcx] at HRN HQ
        subst hA1
        have hx1 : (x : Int) + 1 ≤ (c1 : Int) := by omega
        have HON := Lib.hid hOn
        have HKG : Hid (κ gC = 1) := hBe.kb gC hS.gb.2
        have HLWD := Lib.hid hLw
        have HVL2 := Lib.hid hvL
        clear hS hBe hLw hvL hOn hl0 hxc hcx
        go_upto_region 13 with (go_at_call 23; refine HRN.out.mono ?_; intro e w2 hrn; obtain ⟨As, cA, m, L2, rfl, hE⟩ := hrn.one; have HE := Lib.hid hE; clear hE hrn)
        obtain ⟨q, hq⟩ : ∃ q, qOf cx = q := ⟨_, rfl⟩
        rw [hq] at HE HQ
        clear hq HRN
        have HRD2 : Hid (Rd .u64 w2 An vs) := by
          obtain ⟨κ2, σ2, hB2, hKp⟩ := HE.out.nx
          refine HS.out.rd.keepB ?_ (fun b hb ho => (hKp b (HON.out b ho)).2)
          obtain ⟨κ3, σ3, L3, hB3, _⟩ := HS.out.ex
          exact hB2.bl.size
        have HIC2 : Hid (IB .u64 23 w2 gC cn) := by
          obtain ⟨κ2, σ2, hB2, hKp⟩ := HE.out.nx
          exact HS.out.ct.keep (hKp gC HKG.out).2
        obtain ⟨gS, oS, g, Am, cp, hAs, hgS, hcS, hCB, hRs⟩ := HE.out.sn
        obtain ⟨k0, k1, k2, k3, k4, k5, k6, k7, k8, k9, k10, k11, hgl, _⟩ := mcs_cells hCB
        have hwn := HQ.out.1
        have HRI : Hid (RIn q.es) := HQ.out.2
        have hne6 := HQ.out.2.l
        rw [HE.out.en] at k7
        have HRS := Lib.hid hRs
        obtain ⟨ne, hne⟩ : ∃ ne, q.es.length = ne := ⟨_, rfl⟩
        have HNE := Lib.hid hne
        rw [hne] at k4 HRS hne6
        have HWD8 : Hid (∀ e ∈ q.es, e.word < 8) := fun e he => (HRI.out.w e he).1
        have hwn' : (q.word : Int) < 8 := by omega
        obtain ⟨gn, on, hAn, hgn, hcn⟩ := HRD2.out.at_ (i := q.word) (by rw [HS.out.vl]; exact hwn)
        have hcc := HIC2.out.cell (i := q.word) (by rw [HS.out.cl]; exact hwn)
        rw [← gt0_eq (by rw [HS.out.vl]; exact hwn)] at hcn
        rw [← gt0_eq (by rw [HS.out.cl]; exact hwn)] at hcc
        have hnv := HS.out.vr q.word
        have hcv := HS.out.cr q.word hwn
        have hLq := HLWD.out q.word hwn
        obtain ⟨nv, hnv2⟩ : ∃ nv, gt0 vs q.word = nv := ⟨_, rfl⟩
        obtain ⟨cv, hcv2⟩ : ∃ cv, gt0 cn q.word = cv := ⟨_, rfl⟩
        rw [hnv2] at hcn hnv hLq
        rw [hcv2] at hcc hcv hLq
        have hgCl := HIC2.out.lt
        have HAN := Lib.hid hAn
        have e1 : IntKind.u64.wrap (cv * 1099511627776) = cv * 1099511627776 := IntWalk.u64_in _ (by omega)
        have e2 : IntKind.u64.wrap (nv + cv * 1099511627776) = nv + cv * 1099511627776 := IntWalk.u64_in _ (by omega)
        have HRDX : Hid (q.es = [] → m.val = nv ∧ rdP m = .pointer (some ⟨m.blk, 0, none⟩) ∧ ∀ W, Below w2.heap.size w2 W → Calls Tryz.prog 20 #[.pointer (some ⟨m.blk, 0, none⟩)] W fun x w' => x = .returned (.int .u64 (nv + cv * 1099511627776)) ∧ Below W.heap.size W w') := fun hes => by
          obtain ⟨r1, r2, r3, r4, r5⟩ := HE.out.rd hes
          refine ⟨by rw [r1, hLq]; omega, r2, fun W hW => ?_⟩
          have := rdWord W (r3.keep (hW.block _ r3.lt))
          rw [r4, r5, hLq] at this
          simpa using this
        have HOPX : Hid (q.es ≠ [] → m.ok = rSat vs q.es) := fun hes => by rw [HE.out.op hes, HVL2.out]
        have HSAT : Hid (∀ W, Below w2.heap.size w2 W → Calls Tryz.prog 36 #[.slice An 8 cN, .slice Am ne cp] W fun r w' => r = .returned (.bool (rSat vs q.es)) ∧ Below W.heap.size W w') := fun W hW => refSat W An cN vs HS.out.vl (HRD2.out.below hW) Am ne cp q.es (by omega) (HRS.out.bl hW) HWD8.out
        subst hAs
        have HEW : Hid (∀ b, OwnB Am b → 0 < ne → b ≠ gC) := fun b hb h0 hx => by
          obtain ⟨ge, oe, hAe, hgel, t0, _⟩ := HRS.out.2.2 0 h0
          rw [hAe] at hb
          have hb : ge = b := by simpa [OwnB] using hb
          rw [hb, hx] at t0
          have h2 := CB.cell (cs := ia .u64 cn) (e := 23) (g := gC) (w := w2) HIC2.out (oe + 0 * 3)
          rw [h2] at t0
          simp [ia] at t0
        have HRW : Hid (∀ W, Ch (At gC) w2 W → RsV W Am ne cp q.es) := fun W hW => by
          by_cases h0 : 0 < ne
          · exact HRS.out.keep hW.size (fun b hb ho => hW.block b hb (fun hx => HEW.out b ho h0 hx))
          · exact ⟨HRS.out.1, HRS.out.2.1, fun k hk => by omega⟩
        have HRN2 : Hid (∀ W, Ch (At gC) w2 W → Rd .u64 W An vs) := fun W hW => HRD2.out.keepB hW.size (fun b hb ho => hW.block b hb (fun hx => HS.out.dj b ho hx))
        have HAPP : Hid (∀ W, Ch (At gC) w2 W → Calls Tryz.prog 37 #[.slice An 8 cN, .slice Am ne cp] W (ApPost W (rApply vs q.es))) := fun W hW =>
          refApply W An cN vs HS.out.vl (HRN2.out W hW) Am ne cp q.es (by omega) (HRW.out W hW) HWD8.out
        subst hAn
        obtain ⟨okb, hokb⟩ : ∃ okb, m.ok = okb := ⟨_, rfl⟩
        have HOKB := Lib.hid hokb
        rw [hokb] at k8 HOPX
        clear hCB hRs hne hnv2 hcv2 hnv hcv hLq k10 k11 k0 hokb
        by_cases hes : q.es = []
        · have em1 : q.es.isEmpty = true := by rw [hes]; rfl
          obtain ⟨r1, r2, r3⟩ := HRDX.out hes
          rw [em1] at k2
          rw [r1] at k9
          rw [r2] at k1
          have HWD := Lib.hid r3
          have HES := Lib.hid hes
          clear r1 r2 r3 em1 hes HRDX HOPX HSAT
          go_upto_region 14 with (fail)
          · refine wp_region_bx (by kernel_rfl) (by kernel_rfl) ?_
            repeat (go_big_quiet_step ((go_at_call 20; exact bx_call (HWD.out _ (by (repeat (first | with_reducible exact Below.refl _ _ | with_reducible refine bl_alloc ?_ _ | with_reducible refine bl_drew ?_ | with_reducible refine bl_drewN ?_ _ | with_reducible refine bl_bx ?_ _ | with_reducible exact BX.below _ | with_reducible refine bl_set ?_ (by first | (exact Nat.le_refl _) | (simp; done) | (simp; omega)) _ | assumption)))))))
            refine wpQuiet_nil ?_
            rintro _ ⟨z, rfl⟩
            have HB4 : Hid (Below w2.heap.size w2 z.w) := bl_bx (bl_alloc (Below.refl _ _) _) z
            have HT4 : Hid (CB z.w w2.heap.size 52 #[.bool true, .int .i64 q.word, .slice Am ne cp, .int .i64 m.bg, .int .i64 m.en, .bool true, .bool okb, .int .u64 nv]) := (CB.new _ _ _).bx z
            obtain ⟨gb, hgb⟩ : ∃ gb, w2.heap.size = gb := ⟨_, rfl⟩
            obtain ⟨W4, hW4⟩ : ∃ W4, z.w = W4 := ⟨_, rfl⟩
            rw [hW4] at HB4 HT4 ⊢
            simp only [hgb]
            have HGB := Lib.hid hgb
            rw [hgb] at HT4
            have y2 := HT4.out.cell 2
            have y6 := HT4.out.cell 6
            simp only [List.getElem?_toArray, List.getElem?_cons_succ, List.getElem?_cons_zero] at y2 y6
            have hgbl := HT4.out.lt
            clear hgb hW4
            go_upto_if 115 with (fail)
            go_cut [5, 15] from 116 (fun s _ wx => ∃ (An' : Option Addr) (cN' : Nat), s = .slice An' 8 cN' ∧ SoB gC (if okb then rApply vs q.es else vs) (if okb then soC cn q.es ne else cn) An' w2 wx ∧ ∀ b, OwnB An' b → OwnB (some ⟨gn, on, none⟩) b ∨ (w2.heap.size ≤ b ∧ b < wx.heap.size))
            case first =>
              cases okb with
              | false =>
                go_wp2
                go_meet
                case rel => exact ⟨some ⟨gn, on, none⟩, cN, rfl, ⟨HRN2.out W4 (Ch.of_below HB4.out), HIC2.out.keep (HB4.out.block gC hgCl), Ch.of_below HB4.out⟩, fun b hb => .inl hb⟩
              | true =>
                have HI4 : Hid (IB .u64 23 W4 gC (soC cn q.es 0)) := by rw [soC_zero cn q.es HS.out.cl]; exact HIC2.out.keep (HB4.out.block gC hgCl)
                go_wp2
                go_loopw [119, 15, 120, 121, 122, 123, 124, 125, 126, 127, 128, 129, 130] (fun i _ _ _ _ _ _ _ _ _ _ _ _ wr => ∃ y : Nat, y ≤ ne ∧ i = .int .i64 y ∧ IB .u64 23 wr gC (soC cn q.es y) ∧ Ch (At gC) w2 wr ∧ CB wr gb 52 #[.bool true, .int .i64 q.word, .slice Am ne cp, .int .i64 m.bg, .int .i64 m.en, .bool true, .bool true, .int .u64 nv]) (fun i _ _ _ _ _ _ _ _ _ _ _ _ _ => ne - (intOf i).toNat)
                case atStart => exact ⟨0, by omega, rfl, HI4.out, Ch.of_below HB4.out, HT4.out⟩
                case round =>
                  clear HI4
                  obtain ⟨y, hy, rfl, hI, hB, hTB⟩ := hrel
                  have HTB := Lib.hid hTB
                  have HI := Lib.hid hI
                  have HB := Lib.hid hB
                  by_cases hlt2 : y < ne
                  · have hlt2' : (y : Int) < (ne : Int) := by omega
                    have hye : y < q.es.length := by rw [HNE.out]; exact hlt2
                    obtain ⟨ge, oe, hAe, hgel, t0, t1, t2⟩ := (HRW.out wr hB).2.2 y hlt2
                    have hwd := (HRI.out.w _ (getD_mem q.es RE0 hye)).1
                    have HSU := Lib.hid (soC_succ cn q.es hye hwd)
                    have hle := soC_le cn q.es y hwd (HS.out.cr _ hwd)
                    have hlen := length_soC cn q.es y
                    obtain ⟨e, he⟩ : ∃ e, q.es.getD y RE0 = e := ⟨_, rfl⟩
                    rw [he] at t0 t1 t2 hwd HSU hle
                    obtain ⟨ew, eo, en⟩ := e
                    dsimp only at t0 t1 t2 hwd HSU hle
                    have hwd' : (ew : Int) < 8 := by omega
                    have hcc2 := hI.cell (i := ew) (by rw [hlen]; exact hwd)
                    rw [← gt0_eq (by rw [hlen]; exact hwd)] at hcc2
                    have hfz := hI.frozen ew
                    have hgCl2 := hI.lt
                    obtain ⟨v, hv⟩ : ∃ v, gt0 (soC cn q.es y) ew = v := ⟨_, rfl⟩
                    rw [hv] at hcc2 HSU hle
                    have hvr : 0 ≤ v ∧ v + 1 < 18446744073709551616 := by rw [HNE.out] at hle; omega
                    have hwrap : IntKind.u64.wrap (v + 1) = v + 1 := IntWalk.u64_in _ (by omega)
                    have HAE := Lib.hid hAe
                    subst hAe
                    clear hI hB hTB he hv hle hlen
                    go_wp2
                    refine ⟨⟨y + 1, by omega, by go_num, ?_, ?_, ?_⟩, by simp [intOf]; omega⟩
                    · rw [HSU.out]
                      exact (HI.out.set ew (v + 1)).alloc _
                    · exact (HB.out.set1 ew _).trans (Ch.of_below (S := At gC) (bl_alloc (Below.refl _ _) _)) (fun _ hx _ => hx)
                    · exact (HTB.out.keep (Below.heap_setCell _ _ _ _ (by show gb ≠ gC; have := HGB.out; omega))).alloc _
                  · obtain rfl : y = ne := by omega
                    have x2 := HTB.out.cell 2
                    simp only [List.getElem?_toArray, List.getElem?_cons_succ, List.getElem?_cons_zero] at x2
                    have hgbl2 := HTB.out.lt
                    clear hI hB hTB y2 y6
                    go_wp2_with (go_at_call 37; refine (HAPP.out _ HB.out).mono ?_; rintro e w' ⟨A5, c5, rfl, hR5, hb, hO5⟩; have HR5 := Lib.hid hR5; have HB5 := Lib.hid hb; have HO5 := Lib.hid hO5; clear hR5 hb hO5)
                    go_meet
                    case rel => exact ⟨A5, c5, rfl, ⟨HR5.out, HI.out.keep (HB5.out.block gC HI.out.lt), HB.out.trans (Ch.of_below (S := At gC) HB5.out) (fun _ hx _ => hx)⟩, fun b hb => .inr ⟨Nat.le_trans HB.out.size (HO5.out b hb).1, (HO5.out b hb).2⟩⟩
            case rest =>
              obtain ⟨An', cN', rfl, hSB, hOB⟩ := hcut
              have hNX : SoI (kap0 n0) p d t n0 gC (x + 1) (if okb then rApply vs q.es else vs) (if okb then soC cn q.es ne else cn) An' cN' w wc := by
                have h0 := HOKB.out
                rw [← h0] at hSB ⊢
                exact HS.out.next HT.out.1 HON.out HLWD.out HVL2.out hlt8 HE.out HNE.out hSB hOB
              obtain ⟨vs', hvs'⟩ : ∃ vs', (if okb then rApply vs q.es else vs) = vs' := ⟨_, rfl⟩
              obtain ⟨cn', hcn'⟩ : ∃ cn', (if okb then soC cn q.es ne else cn) = cn' := ⟨_, rfl⟩
              rw [hvs', hcn'] at hNX
              have HNX := Lib.hid hNX
              obtain ⟨hTH, hLD, hFR⟩ := hNX.calls
              have HTH := Lib.hid hTH
              have HLD := Lib.hid hLD
              have HFR := Lib.hid hFR
              have hgC5 := hNX.ct.lt
              clear hSB hOB hNX hvs' hcn' hTH hLD hFR y2 y6 hgbl
              go_wp2
              go_loopw [135, 4, 16, 136, 137, 138, 139, 140, 141, 142, 143, 144, 145, 146, 147, 148, 149, 150, 151, 152, 153, 154] (fun i _ _ _ _ _ _ _ _ _ _ _ _ _ _ _ _ _ _ _ _ _ wr => ∃ k : Nat, k ≤ 8 ∧ i = .int .i64 k ∧ Below wc.heap.size wc wr) (fun i _ _ _ _ _ _ _ _ _ _ _ _ _ _ _ _ _ _ _ _ _ _ => 8 - (intOf i).toNat)
              case atStart => exact ⟨0, by omega, rfl, Below.refl _ _⟩
              case round =>
                obtain ⟨k, hk, rfl, hB⟩ := hrel
                have HB := Lib.hid hB
                by_cases hk8 : k < 8
                · have hk8' : (k : Int) < 8 := by omega
                  obtain ⟨gn2, on2, hAn2, hgn2, hcn2⟩ := (HNX.out.rd.below hB).at_ (i := k) (by rw [HNX.out.vl]; exact hk8)
                  have hcc2 := (HNX.out.ct.keep (hB.block gC hgC5)).cell (i := k) (by rw [HNX.out.cl]; exact hk8)
                  rw [← gt0_eq (by rw [HNX.out.vl]; exact hk8)] at hcn2
                  rw [← gt0_eq (by rw [HNX.out.cl]; exact hk8)] at hcc2
                  have hnv2 := HNX.out.vr k
                  have hcv2 := HNX.out.cr k hk8
                  have HLK := Lib.hid (fun W hW => HLD.out W hW k hk8)
                  have HOF := Lib.hid (fun W => off17 W k hk8)
                  obtain ⟨of, hof⟩ : ∃ of, 8 * ((288 + k : Nat) : Int) = of := ⟨_, rfl⟩
                  rw [hof] at HLK HOF
                  obtain ⟨nv2, hn2⟩ : ∃ nv2, gt0 vs' k = nv2 := ⟨_, rfl⟩
                  obtain ⟨cv2, hc2⟩ : ∃ cv2, gt0 cn' k = cv2 := ⟨_, rfl⟩
                  rw [hn2] at hcn2 hnv2 HLK
                  rw [hc2] at hcc2 hcv2 HLK
                  have e3 : IntKind.u64.wrap (cv2 * 1099511627776) = cv2 * 1099511627776 := IntWalk.u64_in _ (by omega)
                  have e4 : IntKind.u64.wrap (nv2 + cv2 * 1099511627776) = nv2 + cv2 * 1099511627776 := IntWalk.u64_in _ (by omega)
                  have hgCw : gC < wr.heap.size := Nat.lt_of_lt_of_le hgC5 hB.size
                  have HAN2 := Lib.hid hAn2
                  rw [hAn2]
                  clear hB hof hn2 hc2 hAn2
                  go_upto_region 26 with (fail)
                  refine wp_region_bx (by kernel_rfl) (by kernel_rfl) ?_
                  repeat (go_big_quiet_step (first | (go_at_call 24; exact bx_calle (HTH.out _ (HB.out.trans ((by (repeat (first | with_reducible exact Below.refl _ _ | with_reducible refine bl_alloc ?_ _ | with_reducible refine bl_drew ?_ | with_reducible refine bl_drewN ?_ _ | with_reducible refine bl_bx ?_ _ | with_reducible exact BX.below _ | with_reducible refine bl_set ?_ (by first | (exact Nat.le_refl _) | (simp; done) | (simp; omega)) _ | assumption)) : Below wr.heap.size wr _).mono HB.out.size)))) | (go_at_call 26; exact bx_calle (HOF.out _)) | (go_at_call 25; exact bx_calle (HLK.out _ (HB.out.trans ((by (repeat (first | with_reducible exact Below.refl _ _ | with_reducible refine bl_alloc ?_ _ | with_reducible refine bl_drew ?_ | with_reducible refine bl_drewN ?_ _ | with_reducible refine bl_bx ?_ _ | with_reducible exact BX.below _ | with_reducible refine bl_set ?_ (by first | (exact Nat.le_refl _) | (simp; done) | (simp; omega)) _ | assumption)) : Below wr.heap.size wr _).mono HB.out.size))))))
                  refine wpQuiet_nil ?_
                  rintro _ ⟨z2, rfl⟩
                  go_wp2
                  exact ⟨⟨k + 1, by omega, by go_num, bl_bx HB.out z2⟩, by simp [intOf]; omega⟩
                · obtain rfl : k = 8 := by omega
                  have HX : Hid (SoI (kap0 n0) p d t n0 gC (x + 1) vs' cn' An' cN' w wr) := HNX.out.below HB.out
                  clear hB
                  go_wp2_with (go_at_call 35; refine (HFR.out _ HB.out).mono ?_; rintro e w' ⟨rfl, rfl⟩)
                  exact ⟨⟨x + 1, vs', cn', An', cN', by omega, by omega, by go_num, rfl, HX.out⟩, by simp [intOf]; omega⟩
        · have em1 : q.es.isEmpty = false := by cases hq : q.es with
            | nil => exact absurd hq hes
            | cons x l => rfl
          have hk := HOPX.out hes
          rw [← hk] at HSAT
          rw [em1] at k2
          have HES := Lib.hid hes
          clear em1 hes HRDX HOPX hk k1
          go_upto_region 14 with (fail)
          · refine wp_region_bx (by kernel_rfl) (by kernel_rfl) ?_
            repeat (go_big_quiet_step ((go_at_call 36; exact bx_call (HSAT.out _ (by (repeat (first | with_reducible exact Below.refl _ _ | with_reducible refine bl_alloc ?_ _ | with_reducible refine bl_drew ?_ | with_reducible refine bl_drewN ?_ _ | with_reducible refine bl_bx ?_ _ | with_reducible exact BX.below _ | with_reducible refine bl_set ?_ (by first | (exact Nat.le_refl _) | (simp; done) | (simp; omega)) _ | assumption)))))))
            refine wpQuiet_nil ?_
            rintro _ ⟨z, rfl⟩
            have HB4 : Hid (Below w2.heap.size w2 z.w) := bl_bx (bl_alloc (Below.refl _ _) _) z
            have HT4 : Hid (CB z.w w2.heap.size 52 #[.bool false, .int .i64 q.word, .slice Am ne cp, .int .i64 m.bg, .int .i64 m.en, .bool true, .bool okb, .int .u64 m.val]) := (CB.new _ _ _).bx z
            obtain ⟨gb, hgb⟩ : ∃ gb, w2.heap.size = gb := ⟨_, rfl⟩
            obtain ⟨W4, hW4⟩ : ∃ W4, z.w = W4 := ⟨_, rfl⟩
            rw [hW4] at HB4 HT4 ⊢
            simp only [hgb]
            have HGB := Lib.hid hgb
            rw [hgb] at HT4
            have y2 := HT4.out.cell 2
            have y6 := HT4.out.cell 6
            simp only [List.getElem?_toArray, List.getElem?_cons_succ, List.getElem?_cons_zero] at y2 y6
            have hgbl := HT4.out.lt
            clear hgb hW4
            go_upto_if 115 with (fail)
            go_cut [5, 15] from 116 (fun s _ wx => ∃ (An' : Option Addr) (cN' : Nat), s = .slice An' 8 cN' ∧ SoB gC (if okb then rApply vs q.es else vs) (if okb then soC cn q.es ne else cn) An' w2 wx ∧ ∀ b, OwnB An' b → OwnB (some ⟨gn, on, none⟩) b ∨ (w2.heap.size ≤ b ∧ b < wx.heap.size))
            case first =>
              cases okb with
              | false =>
                go_wp2
                go_meet
                case rel => exact ⟨some ⟨gn, on, none⟩, cN, rfl, ⟨HRN2.out W4 (Ch.of_below HB4.out), HIC2.out.keep (HB4.out.block gC hgCl), Ch.of_below HB4.out⟩, fun b hb => .inl hb⟩
              | true =>
                have HI4 : Hid (IB .u64 23 W4 gC (soC cn q.es 0)) := by rw [soC_zero cn q.es HS.out.cl]; exact HIC2.out.keep (HB4.out.block gC hgCl)
                go_wp2
                go_loopw [119, 15, 120, 121, 122, 123, 124, 125, 126, 127, 128, 129, 130] (fun i _ _ _ _ _ _ _ _ _ _ _ _ wr => ∃ y : Nat, y ≤ ne ∧ i = .int .i64 y ∧ IB .u64 23 wr gC (soC cn q.es y) ∧ Ch (At gC) w2 wr ∧ CB wr gb 52 #[.bool false, .int .i64 q.word, .slice Am ne cp, .int .i64 m.bg, .int .i64 m.en, .bool true, .bool true, .int .u64 m.val]) (fun i _ _ _ _ _ _ _ _ _ _ _ _ _ => ne - (intOf i).toNat)
                case atStart => exact ⟨0, by omega, rfl, HI4.out, Ch.of_below HB4.out, HT4.out⟩
                case round =>
                  clear HI4
                  obtain ⟨y, hy, rfl, hI, hB, hTB⟩ := hrel
                  have HTB := Lib.hid hTB
                  have HI := Lib.hid hI
                  have HB := Lib.hid hB
                  by_cases hlt2 : y < ne
                  · have hlt2' : (y : Int) < (ne : Int) := by omega
                    have hye : y < q.es.length := by rw [HNE.out]; exact hlt2
                    obtain ⟨ge, oe, hAe, hgel, t0, t1, t2⟩ := (HRW.out wr hB).2.2 y hlt2
                    have hwd := (HRI.out.w _ (getD_mem q.es RE0 hye)).1
                    have HSU := Lib.hid (soC_succ cn q.es hye hwd)
                    have hle := soC_le cn q.es y hwd (HS.out.cr _ hwd)
                    have hlen := length_soC cn q.es y
                    obtain ⟨e, he⟩ : ∃ e, q.es.getD y RE0 = e := ⟨_, rfl⟩
                    rw [he] at t0 t1 t2 hwd HSU hle
                    obtain ⟨ew, eo, en⟩ := e
                    dsimp only at t0 t1 t2 hwd HSU hle
                    have hwd' : (ew : Int) < 8 := by omega
                    have hcc2 := hI.cell (i := ew) (by rw [hlen]; exact hwd)
                    rw [← gt0_eq (by rw [hlen]; exact hwd)] at hcc2
                    have hfz := hI.frozen ew
                    have hgCl2 := hI.lt
                    obtain ⟨v, hv⟩ : ∃ v, gt0 (soC cn q.es y) ew = v := ⟨_, rfl⟩
                    rw [hv] at hcc2 HSU hle
                    have hvr : 0 ≤ v ∧ v + 1 < 18446744073709551616 := by rw [HNE.out] at hle; omega
                    have hwrap : IntKind.u64.wrap (v + 1) = v + 1 := IntWalk.u64_in _ (by omega)
                    have HAE := Lib.hid hAe
                    subst hAe
                    clear hI hB hTB he hv hle hlen
                    go_wp2
                    refine ⟨⟨y + 1, by omega, by go_num, ?_, ?_, ?_⟩, by simp [intOf]; omega⟩
                    · rw [HSU.out]
                      exact (HI.out.set ew (v + 1)).alloc _
                    · exact (HB.out.set1 ew _).trans (Ch.of_below (S := At gC) (bl_alloc (Below.refl _ _) _)) (fun _ hx _ => hx)
                    · exact (HTB.out.keep (Below.heap_setCell _ _ _ _ (by show gb ≠ gC; have := HGB.out; omega))).alloc _
                  · obtain rfl : y = ne := by omega
                    have x2 := HTB.out.cell 2
                    simp only [List.getElem?_toArray, List.getElem?_cons_succ, List.getElem?_cons_zero] at x2
                    have hgbl2 := HTB.out.lt
                    clear hI hB hTB y2 y6
                    go_wp2_with (go_at_call 37; refine (HAPP.out _ HB.out).mono ?_; rintro e w' ⟨A5, c5, rfl, hR5, hb, hO5⟩; have HR5 := Lib.hid hR5; have HB5 := Lib.hid hb; have HO5 := Lib.hid hO5; clear hR5 hb hO5)
                    go_meet
                    case rel => exact ⟨A5, c5, rfl, ⟨HR5.out, HI.out.keep (HB5.out.block gC HI.out.lt), HB.out.trans (Ch.of_below (S := At gC) HB5.out) (fun _ hx _ => hx)⟩, fun b hb => .inr ⟨Nat.le_trans HB.out.size (HO5.out b hb).1, (HO5.out b hb).2⟩⟩
            case rest =>
              obtain ⟨An', cN', rfl, hSB, hOB⟩ := hcut
              have hNX : SoI (kap0 n0) p d t n0 gC (x + 1) (if okb then rApply vs q.es else vs) (if okb then soC cn q.es ne else cn) An' cN' w wc := by
                have h0 := HOKB.out
                rw [← h0] at hSB ⊢
                exact HS.out.next HT.out.1 HON.out HLWD.out HVL2.out hlt8 HE.out HNE.out hSB hOB
              obtain ⟨vs', hvs'⟩ : ∃ vs', (if okb then rApply vs q.es else vs) = vs' := ⟨_, rfl⟩
              obtain ⟨cn', hcn'⟩ : ∃ cn', (if okb then soC cn q.es ne else cn) = cn' := ⟨_, rfl⟩
              rw [hvs', hcn'] at hNX
              have HNX := Lib.hid hNX
              obtain ⟨hTH, hLD, hFR⟩ := hNX.calls
              have HTH := Lib.hid hTH
              have HLD := Lib.hid hLD
              have HFR := Lib.hid hFR
              have hgC5 := hNX.ct.lt
              clear hSB hOB hNX hvs' hcn' hTH hLD hFR y2 y6 hgbl
              go_wp2
              go_loopw [135, 4, 16, 136, 137, 138, 139, 140, 141, 142, 143, 144, 145, 146, 147, 148, 149, 150, 151, 152, 153, 154] (fun i _ _ _ _ _ _ _ _ _ _ _ _ _ _ _ _ _ _ _ _ _ wr => ∃ k : Nat, k ≤ 8 ∧ i = .int .i64 k ∧ Below wc.heap.size wc wr) (fun i _ _ _ _ _ _ _ _ _ _ _ _ _ _ _ _ _ _ _ _ _ _ => 8 - (intOf i).toNat)
              case atStart => exact ⟨0, by omega, rfl, Below.refl _ _⟩
              case round =>
                obtain ⟨k, hk, rfl, hB⟩ := hrel
                have HB := Lib.hid hB
                by_cases hk8 : k < 8
                · have hk8' : (k : Int) < 8 := by omega
                  obtain ⟨gn2, on2, hAn2, hgn2, hcn2⟩ := (HNX.out.rd.below hB).at_ (i := k) (by rw [HNX.out.vl]; exact hk8)
                  have hcc2 := (HNX.out.ct.keep (hB.block gC hgC5)).cell (i := k) (by rw [HNX.out.cl]; exact hk8)
                  rw [← gt0_eq (by rw [HNX.out.vl]; exact hk8)] at hcn2
                  rw [← gt0_eq (by rw [HNX.out.cl]; exact hk8)] at hcc2
                  have hnv2 := HNX.out.vr k
                  have hcv2 := HNX.out.cr k hk8
                  have HLK := Lib.hid (fun W hW => HLD.out W hW k hk8)
                  have HOF := Lib.hid (fun W => off17 W k hk8)
                  obtain ⟨of, hof⟩ : ∃ of, 8 * ((288 + k : Nat) : Int) = of := ⟨_, rfl⟩
                  rw [hof] at HLK HOF
                  obtain ⟨nv2, hn2⟩ : ∃ nv2, gt0 vs' k = nv2 := ⟨_, rfl⟩
                  obtain ⟨cv2, hc2⟩ : ∃ cv2, gt0 cn' k = cv2 := ⟨_, rfl⟩
                  rw [hn2] at hcn2 hnv2 HLK
                  rw [hc2] at hcc2 hcv2 HLK
                  have e3 : IntKind.u64.wrap (cv2 * 1099511627776) = cv2 * 1099511627776 := IntWalk.u64_in _ (by omega)
                  have e4 : IntKind.u64.wrap (nv2 + cv2 * 1099511627776) = nv2 + cv2 * 1099511627776 := IntWalk.u64_in _ (by omega)
                  have hgCw : gC < wr.heap.size := Nat.lt_of_lt_of_le hgC5 hB.size
                  have HAN2 := Lib.hid hAn2
                  rw [hAn2]
                  clear hB hof hn2 hc2 hAn2
                  go_upto_region 26 with (fail)
                  refine wp_region_bx (by kernel_rfl) (by kernel_rfl) ?_
                  repeat (go_big_quiet_step (first | (go_at_call 24; exact bx_calle (HTH.out _ (HB.out.trans ((by (repeat (first | with_reducible exact Below.refl _ _ | with_reducible refine bl_alloc ?_ _ | with_reducible refine bl_drew ?_ | with_reducible refine bl_drewN ?_ _ | with_reducible refine bl_bx ?_ _ | with_reducible exact BX.below _ | with_reducible refine bl_set ?_ (by first | (exact Nat.le_refl _) | (simp; done) | (simp; omega)) _ | assumption)) : Below wr.heap.size wr _).mono HB.out.size)))) | (go_at_call 26; exact bx_calle (HOF.out _)) | (go_at_call 25; exact bx_calle (HLK.out _ (HB.out.trans ((by (repeat (first | with_reducible exact Below.refl _ _ | with_reducible refine bl_alloc ?_ _ | with_reducible refine bl_drew ?_ | with_reducible refine bl_drewN ?_ _ | with_reducible refine bl_bx ?_ _ | with_reducible exact BX.below _ | with_reducible refine bl_set ?_ (by first | (exact Nat.le_refl _) | (simp; done) | (simp; omega)) _ | assumption)) : Below wr.heap.size wr _).mono HB.out.size))))))
                  refine wpQuiet_nil ?_
                  rintro _ ⟨z2, rfl⟩
                  go_wp2
                  exact ⟨⟨k + 1, by omega, by go_num, bl_bx HB.out z2⟩, by simp [intOf]; omega⟩
                · obtain rfl : k = 8 := by omega
                  have HX : Hid (SoI (kap0 n0) p d t n0 gC (x + 1) vs' cn' An' cN' w wr) := HNX.out.below HB.out
                  clear hB
                  go_wp2_with (go_at_call 35; refine (HFR.out _ HB.out).mono ?_; rintro e w' ⟨rfl, rfl⟩)
                  exact ⟨⟨x + 1, vs', cn', An', cN', by omega, by omega, by go_num, rfl, HX.out⟩, by simp [intOf]; omega⟩
      · have hlt8' : ¬ (x : Int) < 8 := by omega
        have HF : Hid (Below w.heap.size w wr) := hS.bl
        clear hS
        go_wp2
        exact bodyPost_ret (v := .bool true) (by simp [results, Tryz.results8, go_sem]) rfl ⟨rfl, HF.out⟩
    · have hlt' : ¬ (x : Int) < (n1 : Int) := by omega
      have HF : Hid (Below w.heap.size w wr) := hS.bl
      clear hS
      go_wp2
      exact bodyPost_ret (v := .bool true) (by simp [results, Tryz.results8, go_sem]) rfl ⟨rfl, HF.out⟩
end Go.Proofs.YtjaohgnloddgfaaGreatDoor
