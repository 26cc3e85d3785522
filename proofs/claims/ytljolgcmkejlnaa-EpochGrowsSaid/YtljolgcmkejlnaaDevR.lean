/- Contract of persist of a device. -/
import Derived.Test.YtljolgcmkejlnaaDevQ
namespace Go.Proofs.Ytljolgcmkejlnaa
open Go.RowKit
set_option linter.unusedVariables false

/-- The layout when the history of line q begins elsewhere in its block. -/
def Lay.slide (L : Lay) (q : Nat) (A : Option Addr) (c : Nat) : Lay :=
  { L with ha := fun j => if j = q then A else L.ha j, hc := fun j => if j = q then c else L.hc j }
def DevS.persist (S : DevS) (q k : Nat) : DevS :=
  { S with pers := applyW S.pers ((S.lns[q]?.map (·.hist)).getD [] |>.take k), lns := S.lns.modify q fun l => ⟨IntKind.u64.wrap (l.done + k), l.hist.drop k⟩ }

section
variable {w w' : World} {d : Nat} {L : Lay} {S : DevS}
theorem Dev.setPersist (h : Dev w d L S) {q k : Nat} (hql : q < S.lns.length) (A : Option Addr) (c : Nat)
    (hb : ∀ b, Fp L b → b ≠ L.pb → b ≠ L.lb → w'.heap[b]? = w.heap[b]?) (hs : w.heap.size ≤ w'.heap.size)
    (hA : ∀ b, OwnB A b → OwnB (L.ha q) b)
    (hpers : Sl 25 1 w' (some ⟨L.pb, 0, none⟩) S.pers.length L.pc (uints (applyW S.pers (S.lns[q].hist.take k))))
    (hlin : ∀ cs, CB w L.lb 116 cs → CB w' L.lb 116 ((cs.setIfInBounds (2 * q) (.int .u64 (IntKind.u64.wrap (S.lns[q].done + k)))).setIfInBounds (2 * q + 1) (.slice A (S.lns[q].hist.length - k) c)))
    (hhis : Sl 90 2 w' A (S.lns[q].hist.length - k) c (wcells (S.lns[q].hist.drop k))) :
    Dev w' d (L.slide q A c) (S.persist q k) := by
  have hlen : (S.persist q k).lns.length = S.lns.length := by simp [DevS.persist]
  have hpl : (S.persist q k).pers.length = S.pers.length := by simp [DevS.persist, length_applyW]
  have hpp : (S.persist q k).pers = applyW S.pers (S.lns[q].hist.take k) := by simp [DevS.persist, hql]
  have hk1 : ∀ b, Fp L b → L.role b ≠ 4 → L.role b ≠ 2 → w'.heap[b]? = w.heap[b]? := fun b hf h4 h3 => hb b hf (by rintro rfl; exact h3 h.rp) (by rintro rfl; exact h4 h.rl)
  have hg : ∀ j (hj : j < S.lns.length), (S.persist q k).lns[j]'(by rw [hlen]; exact hj) = if j = q then ⟨IntKind.u64.wrap (S.lns[q].done + k), S.lns[q].hist.drop k⟩ else S.lns[j] := by
    intro j hj
    simp only [DevS.persist]
    rw [List.getElem_modify]
    by_cases hjq : q = j
    · subst hjq; simp
    · rw [if_neg hjq, if_neg (fun h => hjq h.symm)]
  constructor
  case dev =>
    have := h.dev.keep (hk1 d (by unfold Fp; rw [h.rd]; omega) (by rw [h.rd]; omega) (by rw [h.rd]; omega))
    simp only [devCells, hpl, hlen]
    exact this
  case pers => rw [hpl, hpp]; exact hpers
  case cur => exact h.cur.keep fun b hb' => by
                have : L.cb = b := by simpa [OwnB] using hb'
                subst this
                exact hk1 _ (by unfold Fp; rw [h.rc]; omega) (by rw [h.rc]; omega) (by rw [h.rc]; omega)
  case np => rw [hlen, hpl]; exact h.np
  case nc => rw [hlen]; exact h.nc
  case nl => rw [hlen]; exact h.nl
  case lf => exact h.lf
  case ex => exact h.ex
  case lin =>
    obtain ⟨cs, h1, h2, h3⟩ := h.lin
    refine ⟨_, hlin cs h1, by rw [hlen]; simpa using h2, fun j hj => ?_⟩
    rw [hlen] at hj
    rw [hg j hj]
    obtain ⟨h4, h5⟩ := h3 j hj
    by_cases hjq : j = q
    · subst hjq
      rw [if_pos rfl]
      refine ⟨?_, ?_⟩
      · rw [Array.getElem?_setIfInBounds, if_neg (by omega), Array.getElem?_setIfInBounds, if_pos rfl, if_pos (by omega)]
      · rw [Array.getElem?_setIfInBounds, if_pos rfl, if_pos (by simp; omega)]
        simp [Lay.slide]
    · rw [if_neg hjq]
      refine ⟨?_, ?_⟩
      · rw [Array.getElem?_setIfInBounds, if_neg (by omega), Array.getElem?_setIfInBounds, if_neg (by omega)]; exact h4
      · rw [Array.getElem?_setIfInBounds, if_neg (by omega), Array.getElem?_setIfInBounds, if_neg (by omega), h5]
        simp [Lay.slide, hjq]
  case his =>
    intro j hj
    rw [hlen] at hj
    rw [hg j hj]
    by_cases hjq : j = q
    · subst hjq
      rw [if_pos rfl]
      simpa [Lay.slide] using hhis
    · rw [if_neg hjq]
      have := (h.his j hj).keep (w' := w') fun b hb' => hk1 b (by unfold Fp; rw [h.rh j hj b hb']; omega) (by rw [h.rh j hj b hb']; omega) (by rw [h.rh j hj b hb']; omega)
      simpa [Lay.slide, hjq] using this
  case thr =>
    intro j hj
    exact (h.thr j hj).keep (hk1 _ (by unfold Fp; rw [h.rt j hj]; omega) (by rw [h.rt j hj]; omega) (by rw [h.rt j hj]; omega))
  case nts =>
    intro j hj
    exact (h.nts j hj).keep (hk1 _ (by unfold Fp; rw [h.rm j hj]; omega) (by rw [h.rm j hj]; omega) (by rw [h.rm j hj]; omega))
  case rd => exact h.rd
  case rp => exact h.rp
  case rc => exact h.rc
  case rl => exact h.rl
  case rt => exact h.rt
  case rm => exact h.rm
  case rh =>
    intro j hj b hb'
    rw [hlen] at hj
    by_cases hjq : j = q
    · subst hjq
      exact h.rh j hj b (hA b (by simpa [Lay.slide] using hb'))
    · exact h.rh j hj b (by simpa [Lay.slide, hjq] using hb')
  case fr => exact fun b hb' => Nat.lt_of_lt_of_le (h.fr b hb') hs
end

theorem CB.set3 {w : World} {g : Nat} {e : TypeId} {cs : Array Value} (h : CB w g e cs) (i : Nat) (v : Value) (j : Nat) (x y : Value) :
    CB (((w.setCell ⟨g, i, none⟩ v).setCell ⟨g, j, none⟩ x).setCell ⟨g, j, none⟩ y) g e ((cs.setIfInBounds i v).setIfInBounds j y) := by
  have h2 := ((h.set i v).set j x).set j y
  have e1 : ((cs.setIfInBounds i v).setIfInBounds j x).setIfInBounds j y = (cs.setIfInBounds i v).setIfInBounds j y := by simp
  rwa [e1] at h2
theorem wcells_cons (p : Int × Int) (ws : List (Int × Int)) : wcells (p :: ws) = .int .u64 p.1 :: .int .u64 p.2 :: wcells ws := by simp [wcells]
theorem wcells_take (ws : List (Int × Int)) : ∀ k, (wcells ws).take (k * 2) = wcells (ws.take k) := by
  induction ws with
  | nil => intro k; simp [wcells]
  | cons p ws ih =>
    intro k
    cases k with
    | zero => simp [wcells]
    | succ k =>
      rw [List.take_succ_cons, wcells_cons, wcells_cons, show (k + 1) * 2 = k * 2 + 1 + 1 by omega, List.take_succ_cons, List.take_succ_cons, ih]
theorem wcells_drop (ws : List (Int × Int)) : ∀ k, (wcells ws).drop (k * 2) = wcells (ws.drop k) := by
  induction ws with
  | nil => intro k; simp [wcells]
  | cons p ws ih =>
    intro k
    cases k with
    | zero => simp
    | succ k =>
      rw [List.drop_succ_cons, wcells_cons, show (k + 1) * 2 = k * 2 + 1 + 1 by omega, List.drop_succ_cons, List.drop_succ_cons, ih]

set_option maxRecDepth 100000 in
set_option maxHeartbeats 2000000 in
/-- persist of the first k stores of line q, k at least one. -/
theorem devPersist (w : World) (d : Nat) (L : Lay) (S : DevS) (h : Dev w d L S) (q k : Nat) (hq : q < S.lns.length) (hk1 : 1 ≤ k) (hk : k ≤ S.lns[q].hist.length)
    (hws : ∀ p ∈ S.lns[q].hist, 0 ≤ p.1 ∧ p.1 / 8 < (S.pers.length : Int)) :
    Calls Try.prog 104 #[.pointer (some ⟨d, 0, none⟩), .int .i64 (q : Int), .int .i64 (k : Int)] w fun e w' => e = .returned (.tuple #[]) ∧ (∃ A c, Dev w' d (L.slide q A c) (S.persist q k)) ∧ Ch (fun b => b = L.pb ∨ b = L.lb) w w' := by
  obtain ⟨cs, hL, hLs, hLc⟩ := h.lin
  obtain ⟨l1, l2⟩ := hLc q hq
  have hH := h.his q hq
  have d0 : w.cell? ⟨d, 0, none⟩ = some (.slice (some ⟨L.pb, 0, none⟩) S.pers.length L.pc) := h.dev.cell_some (i := 0) rfl
  have d2 : w.cell? ⟨d, 2, none⟩ = some (.slice (some ⟨L.lb, 0, none⟩) S.lns.length S.lns.length) := h.dev.cell_some (i := 2) rfl
  have hdl := h.dev.lt
  have hll := hL.lt
  obtain ⟨g', off, hA, hgl, _⟩ := hH.at_ (j := 0) (by rw [length_wcells]; omega)
  have hrg := h.rh q hq g' (by rw [hA]; simp [OwnB])
  have hgp : L.pb ≠ g' := by rintro h'; rw [← h', h.rp] at hrg; omega
  have hglb : L.lb ≠ g' := by rintro h'; rw [← h', h.rl] at hrg; omega
  have hlp : L.lb ≠ L.pb := by rintro h'; have := h.rl; rw [h', h.rp] at this; omega
  obtain ⟨m, hm⟩ : ∃ m, S.lns[q].hist.length = m := ⟨_, rfl⟩
  obtain ⟨dn, hdn⟩ : ∃ dn, S.lns[q].done = dn := ⟨_, rfl⟩
  obtain ⟨c, hc⟩ : ∃ c, L.hc q = c := ⟨_, rfl⟩
  obtain ⟨N, hN⟩ : ∃ N, S.lns.length = N := ⟨_, rfl⟩
  have hcl := hL.cell_some l1
  have hch := hL.cell_some l2
  have hfr1 := hL.frozen (2 * q)
  have hfr2 := hL.frozen (2 * q + 1)
  have hn2 := h.nl
  rw [hdn] at hcl
  rw [hA, hm, hc] at hch hH
  rw [hm] at hk
  rw [hN] at d2 hn2
  have hmc : m ≤ c ∧ c ≤ maxLen := by
    rcases hH.2 with ⟨hx, _⟩ | ⟨_, _, _, _, _, h1, h2, _⟩
    · cases hx
    · exact ⟨h1, h2⟩
  have hmx : c ≤ 9223372036854775807 := by have := hmc.2; unfold maxLen at this; omega
  have hmc1 := hmc.1
  have hqN : q < N := by omega
  have HAP : Hid (∀ W, Below w.heap.size w W → Calls Try.prog 62 #[.slice (some ⟨L.pb, 0, none⟩) S.pers.length L.pc, .slice (some ⟨g', off, none⟩) k c] W fun e w' => e = .returned (.tuple #[]) ∧ Sl 25 1 w' (some ⟨L.pb, 0, none⟩) S.pers.length L.pc (uints (applyW S.pers (S.lns[q].hist.take k))) ∧ Ch (At L.pb) W w') := fun W hW => (devApply W L.pb S.pers.length L.pc k c S.pers (some ⟨g', off, none⟩) (S.lns[q].hist.take k) ((h.below hW).pers) rfl (by
      have := (hH.keep (fun b hb => hW.block b (hH.lt hb))).take k hk
      have e : (wcells S.lns[q].hist).take (k * 2) = wcells (S.lns[q].hist.take k) := wcells_take _ _
      rwa [e] at this) (by rw [List.length_take, hm]; omega) (by simp [OwnB]; exact fun h => hgp h.symm) (fun p hp => hws p (List.mem_of_mem_take hp)) (by omega) (by rw [h.np, hN]; omega))
  have H := Lib.hid h
  have HH := Lib.hid hH
  have HL := Lib.hid hL
  have HE := Lib.hid (And.intro hm (And.intro hdn (And.intro hc (And.intro hN hA))))
  rw [show 2 * q = q * 2 by omega] at hcl hch hfr1 hfr2
  clear hws hL hLs hLc l1 l2 hH hm hdn hc hN hmc hA h
  go_enter Try.func104, Try.ntmps104
  go_upto_region 1 with (fail)
  go_cut [] from 13 (fun wx => Sl 25 1 wx (some ⟨L.pb, 0, none⟩) S.pers.length L.pc (uints (applyW S.pers (S.lns[q].hist.take k))) ∧ Ch (At L.pb) w wx)
  case first =>
    go_region_with (first | (go_at_call 62; refine (HAP.out _ (bl_drew (Below.refl _ _))).mono ?_; rintro e w1 ⟨rfl, hP, hC⟩; have HP := Lib.hid hP; have HC := Lib.hid hC; clear hP hC))
    all_goals
      go_wp2
      go_meet
      case rel => exact ⟨HP.out, (Ch.refl _ _).drew.trans HC.out (fun b h _ => h)⟩
  case rest =>
    obtain ⟨hP, hC⟩ := hcut
    have HP := Lib.hid hP
    have HC := Lib.hid hC
    clear hP
    have hcl' : wc.cell? ⟨L.lb, q * 2, none⟩ = some (.int .u64 dn) := (hC.cells _ _ hll (fun h => hlp h)).trans hcl
    have hch' : wc.cell? ⟨L.lb, q * 2 + 1, none⟩ = some (.slice (some ⟨g', off, none⟩) m c) := (hC.cells _ _ hll (fun h => hlp h)).trans hch
    have hf1' : wc.frozen? ⟨L.lb, q * 2, none⟩ = false := (hC.frozens _ _ hll (fun h => hlp h)).trans hfr1
    have hf2' : wc.frozen? ⟨L.lb, q * 2 + 1, none⟩ = false := (hC.frozens _ _ hll (fun h => hlp h)).trans hfr2
    have hlw : L.lb < wc.heap.size := Nat.lt_of_lt_of_le hll hC.size
    clear hC
    have hku : IntKind.u64.wrap (k : Int) = (k : Int) := IntWalk.u64_in _ (by omega)
    have HF : Hid (∀ W A c', Ch (fun b => b = L.pb ∨ b = L.lb) w W → (∀ b, b ≠ L.lb → W.heap[b]? = wc.heap[b]?) → (∀ b, OwnB A b → b = g') → (∀ cs, CB wc L.lb 116 cs → CB W L.lb 116 ((cs.setIfInBounds (q * 2) (.int .u64 (IntKind.u64.wrap (dn + k)))).setIfInBounds (q * 2 + 1) (.slice A (m - k) c'))) →
        (Sl 90 2 W (some ⟨g', off, none⟩) m c (wcells S.lns[q].hist) → Sl 90 2 W A (m - k) c' (wcells (S.lns[q].hist.drop k))) → (∃ A c, Dev W d (L.slide q A c) (S.persist q k)) ∧ Ch (fun b => b = L.pb ∨ b = L.lb) w W) := by
      intro W A c' hCh hW hA hlin hhis
      obtain ⟨e1, e2, e3, e4, e5⟩ := HE.out
      refine ⟨⟨A, c', H.out.setPersist hq A c' (fun b hf h1 h2 => hCh.block b (H.out.fr b hf) (by rintro (h | h); exact h1 h; exact h2 h)) hCh.size (fun b hb => by rw [e5, hA b hb]; simp [OwnB]) (HP.out.keep fun b hb => hW b ?_) (fun cs hcs => ?_) ?_⟩, hCh⟩
      · have : L.pb = b := by simpa [OwnB] using hb
        subst this; exact fun h => hlp h.symm
      · rw [e1, e2, show 2 * q = q * 2 by omega]
        exact hlin cs (hcs.ch HC.out (fun h => hlp h))
      · rw [e1]
        refine hhis (HH.out.keep fun b hb => hCh.block b (HH.out.lt hb) ?_)
        have : g' = b := by simpa [OwnB] using hb
        subst this
        rintro (h | h)
        · exact hgp h.symm
        · exact hglb h.symm
    by_cases hmk : m = k
    · subst hmk
      by_cases hcm : c = m
      · subst hcm
        go_wp2
        go_end0
        refine ⟨rfl, HF.out _ none 0 ?_ ?_ (by simp [OwnB]) ?_ ?_⟩
        · exact (((HC.out.mono (fun b h _ => .inl h)).setCell (.inl (.inr rfl)) _).setCell (.inl (.inr rfl)) _).setCell (.inl (.inr rfl)) _
        · intro b hb
          rw [Below.heap_setCell _ _ _ _ hb, Below.heap_setCell _ _ _ _ hb, Below.heap_setCell _ _ _ _ hb]
        · intro cs hcs
          rw [Nat.sub_self]
          exact hcs.set3 _ _ _ _ _
        · intro _
          rw [Nat.sub_self, List.drop_of_length_le (by rw [HE.out.1]; exact Nat.le_refl _)]
          exact Sl.nil
      · have hcm' : m < c := by omega
        go_wp2
        go_end0
        refine ⟨rfl, HF.out _ none 0 ?_ ?_ (by simp [OwnB]) ?_ ?_⟩
        · exact (((HC.out.mono (fun b h _ => .inl h)).setCell (.inl (.inr rfl)) _).setCell (.inl (.inr rfl)) _).setCell (.inl (.inr rfl)) _
        · intro b hb
          rw [Below.heap_setCell _ _ _ _ hb, Below.heap_setCell _ _ _ _ hb, Below.heap_setCell _ _ _ _ hb]
        · intro cs hcs
          rw [Nat.sub_self]
          exact hcs.set3 _ _ _ _ _
        · intro _
          rw [Nat.sub_self, List.drop_of_length_le (by rw [HE.out.1]; exact Nat.le_refl _)]
          exact Sl.nil
    · have hmk' : k < m := by omega
      have hck' : k < c := by omega
      go_wp2
      go_end0
      refine ⟨rfl, HF.out _ (some ⟨g', off + k * 2, none⟩) (c - k) ?_ ?_ (fun b hb => ?_) ?_ ?_⟩
      · exact ((HC.out.mono (fun b h _ => .inl h)).setCell (.inl (.inr rfl)) _).setCell (.inl (.inr rfl)) _
      · intro b hb
        rw [Below.heap_setCell _ _ _ _ hb, Below.heap_setCell _ _ _ _ hb]
      · have : g' = b := by simpa [OwnB] using hb
        exact this.symm
      · intro cs hcs
        exact (hcs.set _ _).set _ _
      · intro hS
        have := hS.drop k (by omega) g' off rfl
        rwa [wcells_drop] at this
end Go.Proofs.Ytljolgcmkejlnaa
