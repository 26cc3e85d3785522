/- A run of one call (merged). -/
import Derived.Test.YtjaohgnloddgfaaGreatDoorKmq
namespace Go.Proofs.YtjaohgnloddgfaaGreatDoor
open Go.RowKit
set_option linter.unusedVariables false
set_option linter.unusedSimpArgs false

/-- A run of one call. -/
structure RunO (κ0 : Nat → Nat) (w0 : World) (p d : Nat) (t : Nat → Nat) (L0 : Nat → Int) (B n0 : Nat) (wB : World) (q : TdS) (As : Option Addr) (m : MaS) (L : Nat → Int) (w' : World) : Prop where
  pl : ∃ K σ N xs, PMx K p d t 0 32 ((40 : Nat) * 64) w' σ ∧ On σ.dev 40 xs N ∧ (∀ k, M17 k → xs[k]? = some (L k)) ∧ σ.busy = List.replicate 8 false
  hL : ∀ k, M17 k → 0 ≤ L k ∧ L k < 4611686018427387904
  sn : ∃ gS oS g A c, As = some ⟨gS, oS, none⟩ ∧ gS < w'.heap.size ∧ w'.cell? ⟨gS, oS, none⟩ = some (.pointer (some ⟨g, 0, none⟩)) ∧ CB w' g 54 (mcs m q A c) ∧ RsV w' A q.es.length c q.es
  td : TdOk q
  en : m.ended = true
  rd : q.es = [] → m.val = L0 (288 + q.word) % 1099511627776 ∧ rdP m = .pointer (some ⟨m.blk, 0, none⟩) ∧ CB w' m.blk 130 (rdcells (.pointer (some ⟨p, 0, none⟩)) (.pointer (some ⟨t m.rs.th, 0, none⟩)) m.rs) ∧ m.rs.ended = true ∧ m.rs.raw = L0 (288 + q.word)
  op : q.es ≠ [] → m.ok = rSat (vsOf L0) q.es
  vs : vsOf L = if m.ok then rApply (vsOf L0) q.es else vsOf L0
  ct : ∀ j, j < 8 → ∀ c0 : Nat, L0 (288 + j) / 1099511627776 = (c0 : Int) → c0 ≤ 1000 → L (288 + j) / 1099511627776 = ((c0 + ctN m.ok q j : Nat) : Int)
  nx : ∃ κ σ, BegS κ p d t L (fun _ => 0) (B + 8000) n0 wB [] [] w' σ [] ∧ Kp κ0 w0 κ w'
theorem RnPost.one {κ0 : Nat → Nat} {w0 : World} {p d : Nat} {t : Nat → Nat} {L0 : Nat → Int} {B n0 : Nat} {wB : World} {c : Int × Int × List (Int × Int × Int)} {e : Ending} {w' : World} (h : RnPost κ0 w0 p d t L0 B n0 wB [c] true e w') : ∃ As cA m L, e = .returned (.tuple #[.slice As 1 cA, .bool true]) ∧ RunO κ0 w0 p d t L0 B n0 wB (qOf c) As m L w' := by
  obtain ⟨As', M, cA, ms', qs', L, he, hE⟩ := id h.ended
  obtain ⟨κ, dk, ks, gs, σ, ms, As, cA2, a, he2, hml, hR, hgl, ha, hSl, hO, hd, hBl, hnl, hkb, hKp⟩ := h
  have hd := hd rfl
  have hM1 : ms.length = 1 := by rw [hml]; rfl
  obtain ⟨N, xs, L2, ord, hI, hLs, hN⟩ := hR.q.ex
  have hcur := hLs.quiet hI hd
  have hi : ms[0]? = some ms[0] := List.getElem?_eq_getElem (by omega)
  obtain ⟨m, hm⟩ : ∃ m, ms[0] = m := ⟨_, rfl⟩
  rw [hm] at hi
  have hms : ms = [m] := by
    apply List.ext_getElem
    · rw [hM1]; rfl
    · intro i h1 h2
      have : i = 0 := by simp at h2; exact h2
      subst this
      simpa using hm
  have hq : (qsOf ([c].take ms.length)).getD 0 TD0 = qOf c := by rw [hM1]; rfl
  have hMM := hR.mm 0 m hi
  rw [hq] at hMM
  have hdm := hd 0 m hi
  obtain ⟨q0, hq0, hop, hrd⟩ := hLs.told hI hi hdm
  have hord : ord = [0] := by
    have h1 : ord.length ≤ 1 := by
      have := List.Nodup.length_le_of_subset hLs.nd (l₂ := [0]) (fun x hx => by have := hLs.mem x hx; simp; omega)
      simpa using this
    cases ord with
    | nil => simp at hq0
    | cons x l =>
      have hl : l = [] := List.eq_nil_of_length_eq_zero (by simpa using h1)
      subst hl
      have := hLs.mem x (by simp)
      have : x = 0 := by omega
      rw [this]
  subst hord
  have hz : q0 = 0 := by
    have := (List.getElem?_eq_some_iff.1 hq0).1
    simp at this; exact this
  subst hz
  have hlin0 : lin ks L0 (([0] : List Nat).take 0) = L0 := rfl
  rw [hlin0] at hop hrd
  have hL2 : L2 = linS L0 m.kd := by
    rw [hLs.hL]
    show linS L0 (ks.getD 0 (.rd 0)) = _
    rw [kd_get hLs hi]
  have hfin : vsOf L2 = if m.ok then rApply (vsOf L0) (qOf c).es else vsOf L0 := by
    rw [hL2]
    cases hkd : m.kd with
    | rd k =>
      have hk := hMM.kd
      rw [hkd] at hk
      obtain ⟨hk1, hk2⟩ := hk
      rw [hk2]
      have : rApply (vsOf L0) [] = vsOf L0 := rfl
      rw [this]
      unfold linS
      dsimp only
      split <;> rfl
    | op es =>
      have hk := hMM.kd
      rw [hkd] at hk
      obtain ⟨hk1, hk2⟩ := hk
      have hv := hop es hkd
      unfold linS
      dsimp only
      rw [hk1] at hv ⊢
      rw [sat_ref hMM.td.2] at hv ⊢
      rw [hv]
      cases hs : rSat (vsOf L0) (qOf c).es with
      | true =>
        rw [if_pos rfl, if_pos rfl, app_ref hMM.td.2]
        unfold rApply
        rw [hs, if_pos rfl]
      | false => rfl
  obtain ⟨A, cp, hC, hRs, hA1⟩ := hMM.ex
  refine ⟨As, cA2, m, L2, by rw [he2, hM1], ⟨⟨_, σ, N, xs, hR.pm, hI.on, hI.idle hcur, hR.q.bz.free hd⟩, hI.hL, ?_, hMM.td, ((hLs.ma 0 m hi).dn hdm).2, fun hes => ?_, fun hes => ?_, hfin, fun j hj c0 h0 hc0 => ?_, ?_⟩⟩
  · obtain ⟨gS, oS, hAS, hlt, hc⟩ := hSl.at_ (j := 0) (by simp; omega)
    refine ⟨gS, oS, gs.getD 0 0, A, cp, hAS, hlt, ?_, hC, hRs⟩
    have hc' : w'.cell? ⟨gS, oS, none⟩ = _ := hc
    rw [hc']
    simp [ptrV, List.getD_eq_getElem?_getD, List.getElem?_eq_getElem (show 0 < gs.length by omega)]
  · cases hkd : m.kd with
    | op es =>
      have hk := hMM.kd
      rw [hkd] at hk
      exact absurd hes hk.2
    | rd k =>
      have hk := hMM.kd
      rw [hkd] at hk
      obtain ⟨r1, r2, r3⟩ := hMM.rd k hkd
      obtain ⟨b1, b2, b3, b4, b5, b6, b7, b8, b9, b10⟩ := (hLs.ma 0 m hi).rd k hkd
      have h7 := b7.at_ 0 hq0
      rw [hlin0] at h7
      refine ⟨by rw [hrd k hkd, hk.1], by unfold rdP; rw [hkd], r3, by rw [b8]; exact hdm, by rw [h7, hk.1]⟩
  · cases hkd : m.kd with
    | rd k =>
      have hk := hMM.kd
      rw [hkd] at hk
      exact absurd hk.2 hes
    | op es =>
      have hk := hMM.kd
      rw [hkd] at hk
      rw [hop es hkd, hk.1, sat_ref hMM.td.2]
  · have := hLs.counts (qs := [qOf c]) hI hd (by rw [hM1]; rfl) hR.q.len (fun i mi qi hmi hqi => by
      have hi0 : i = 0 := by have := (List.getElem?_eq_some_iff.1 hmi).1; omega
      subst hi0
      rw [hi] at hmi
      injection hmi with hmi
      have : qi = qOf c := by simpa using hqi.symm
      rw [← hmi, this]
      exact ⟨hMM.kd, hMM.td⟩) hj h0 hc0
    rw [this, hM1, hms]
    simp [ctI, List.range_succ]
  · refine ⟨κ, σ, ⟨⟨N, xs, hI, by have : a ≤ 8000 := by simpa using ha
                                  omega⟩, hcur, ⟨hR.q.bz.len, fun i m es hi => by simp at hi, fun i j mi mj ei ej hi => by simp at hi, fun k hk => ?_⟩, hR.pm, fun i m hi => by simp at hi, fun i m hi => by simp at hi, fun i j mi mj hi => by simp at hi, hR.tab, hR.k0, hBl, hnl, hkb, rfl, rfl, by simp⟩, hKp⟩
    rw [hR.q.bz.free hd]
    constructor
    · intro h
      rw [List.getD_eq_getElem?_getD, List.getElem?_replicate] at h
      split at h <;> simp at h
    · rintro ⟨i, m, es, hi, _⟩
      simp at hi
/-- Memory that is not the pool's changes while no call is in progress; new memory may be kept. -/
theorem BegS.poke {κ κ' : Nat → Nat} {p d : Nat} {t : Nat → Nat} {L0 : Nat → Int} {dk : Nat → Nat} {B n0 : Nat} {wB w w' : World} {σ : PwS} (h : BegS κ p d t L0 dk B n0 wB [] [] w σ []) {T : Nat → Prop} (hC : Ch T w w') (hT : ∀ b, b < w.heap.size → T b → κ b = 1) (h0 : ¬ T 0) (hk1 : ∀ b, κ b ≠ 0 → κ' b = κ b) (hk2 : ∀ b, κ' b ≠ 0 → κ b ≠ 0 ∨ (w.heap.size ≤ b ∧ b < w'.heap.size)) : BegS κ' p d t L0 dk B n0 w' [] [] w' σ [] :=
  ⟨h.ex, h.cur, h.bz, (h.pm.chG hC (fun b hb hx => by have := hT b hb hx; omega)).less hk2, fun i m hi => by simp at hi, fun i m hi => by simp at hi, fun i j mi mj hi => by simp at hi, h.tab.ch hC h0, by rw [hk1 0 (by rw [h.k0]; omega)]; exact h.k0, Below.refl _ _, Nat.le_trans h.nl hC.size, fun b hb => by rw [hk1 b (by rw [h.kb b hb]; omega)]; exact h.kb b hb, rfl, rfl, by simp⟩
end Go.Proofs.YtjaohgnloddgfaaGreatDoor
