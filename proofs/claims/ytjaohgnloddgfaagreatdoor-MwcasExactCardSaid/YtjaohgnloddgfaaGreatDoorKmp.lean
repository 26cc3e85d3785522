/- Seen, Free, and a run's end (merged). -/
import Derived.Test.YtjaohgnloddgfaaGreatDoorKmb
import Derived.Test.YtjaohgnloddgfaaGreatDoorKmo
import Derived.Test.YtjaohgnloddgfaaGreatDoorKml
import Derived.Test.YtjaohgnloddgfaaGreatDoorKma
namespace Go.Proofs.YtjaohgnloddgfaaGreatDoor
open Go.RowKit
set_option linter.unusedVariables false
set_option linter.unusedSimpArgs false

theorem entries_count {es : List REnt} (h : RIn es) (j : Nat) : es.countP (fun e => e.word == j) = if es.any (fun e => e.word == j) then 1 else 0 := by
  have hn := h.nd
  clear h
  induction es with
  | nil => rfl
  | cons e es ih =>
    rw [List.map_cons, List.nodup_cons] at hn
    rw [List.countP_cons, List.any_cons, ih hn.2]
    by_cases he : e.word = j
    · subst he
      have h0 : es.any (fun x => x.word == e.word) = false := by
        rw [List.any_eq_false]
        intro x hx hxe
        exact hn.1 (List.mem_map.2 ⟨x, hx, by simpa using hxe⟩)
      rw [h0]
      simp
    · have : (e.word == j) = false := by simpa using he
      rw [this]
      simp
/-- The change count of a word after an operation. -/
theorem app_count {L : Nat → Int} {es : List REnt} (h : RIn es) {j : Nat} (hj : j < 8) : appL L (es.map entOf) (288 + j) / 1099511627776 = if es.any (fun e => e.word == j) then (L (288 + j) / 1099511627776 + 1) % 4194304 else L (288 + j) / 1099511627776 := by
  by_cases hq : ∃ q, q < es.length ∧ (es.getD q RE0).word = j
  · obtain ⟨q, hq, hqj⟩ := hq
    have hany : es.any (fun e => e.word == j) = true := by
      rw [List.any_eq_true]
      refine ⟨es.getD q RE0, ?_, by simpa using hqj⟩
      rw [List.getD_eq_getElem?_getD, List.getElem?_eq_getElem hq]; exact List.getElem_mem hq
    rw [hany, if_pos rfl]
    unfold appL
    cases hf : (List.range (es.map entOf).length).find? (fun q' => wdE (es.map entOf) q' == 288 + j) with
    | none =>
      rw [List.find?_eq_none] at hf
      exact absurd (hf q (by simpa using hq)) (by rw [wdE_ref hq, hqj]; simp)
    | some q' =>
      have g1 := List.find?_some hf
      have g2 : q' < es.length := by simpa using List.mem_of_find?_eq_some hf
      dsimp only
      rw [entOf_get g2]
      have hr := h.w (es.getD q' RE0) (by rw [List.getD_eq_getElem?_getD, List.getElem?_eq_getElem g2]; exact List.getElem_mem g2)
      unfold Ent.after entOf
      dsimp only
      omega
  · have hany : es.any (fun e => e.word == j) = false := by
      rw [List.any_eq_false]
      intro e he hej
      obtain ⟨q, hql, rfl⟩ := List.getElem_of_mem he
      exact hq ⟨q, hql, by simpa [List.getD_eq_getElem?_getD, hql] using hej⟩
    rw [hany, if_neg (by simp)]
    rw [appL_ne (fun q hql hx => hq (by
      have hql' : q < es.length := by simpa using hql
      rw [wdE_ref hql'] at hx
      exact ⟨q, hql', by omega⟩))]
/-- Has a call changed word j? -/
def ctN (ok : Bool) (q : TdS) (j : Nat) : Nat := if ok then q.es.countP (fun e => e.word == j) else 0
theorem ctN_le (ok : Bool) {q : TdS} (h : TdOk q) (j : Nat) : ctN ok q j ≤ 1 := by
  unfold ctN
  split
  · rw [entries_count h.2]; split <;> omega
  · omega
section
variable {sum : List Int → Int} {at0 : Nat → Int} {n cnt N : Nat} {M : Nat → Prop} {ks : List Kd} {L0 L : Nat → Int} {σ : PwS} {ms : List MaS} {at_ : Nat} {ord : List Nat} {xs : List Int} {qs : List TdS}
def MAd : MaS := ⟨.rd 0, 0, ⟨0, 0, 0, 0, false, 0⟩, 0, 0, false, false, false, false, 0⟩
def ctI (ms : List MaS) (qs : List TdS) (j i : Nat) : Nat := ctN (ms.getD i MAd).ok (qs.getD i ⟨0, []⟩) j
theorem Ls.counts (h : Ls n M ks L0 σ ms at_ L ord) (hI : Inv sum at0 n cnt M N σ xs L) (hd : ∀ (i : Nat) (m : MaS), ms[i]? = some m → m.done = true) (hql : qs.length = ms.length) (hl3 : ms.length ≤ 3)
    (hq : ∀ (i : Nat) (m : MaS) (q : TdS), ms[i]? = some m → qs[i]? = some q → KdOk q m.kd ∧ TdOk q) {j : Nat} (hj : j < 8) {c0 : Nat} (h0 : L0 (288 + j) / 1099511627776 = (c0 : Int)) (hc0 : c0 ≤ 1000) :
    L (288 + j) / 1099511627776 = ((c0 + ((List.range ms.length).map (ctI ms qs j)).sum : Nat) : Int) := by
  have hmem := h.mem
  have hpl : ord.length ≤ 3 := by
    have := List.Nodup.length_le_of_subset h.nd (l₂ := List.range ms.length) (fun x hx => by simpa using hmem x hx)
    simp at this; omega
  have hdup : ∀ (p p' i : Nat), ord[p]? = some i → ord[p']? = some i → p = p' := by
    intro p p' i h1 h2
    obtain ⟨l1, e1⟩ := List.getElem?_eq_some_iff.1 h1
    obtain ⟨l2, e2⟩ := List.getElem?_eq_some_iff.1 h2
    exact (List.getElem_inj h.nd).1 (e1.trans e2.symm)
  have hle : ∀ i, i < ms.length → ctI ms qs j i ≤ 1 := fun i hi => by
    unfold ctI
    refine ctN_le _ ?_ j
    rw [List.getD_eq_getElem?_getD, List.getElem?_eq_getElem (by omega : i < qs.length)]
    exact (hq i _ _ (List.getElem?_eq_getElem hi) (List.getElem?_eq_getElem (by omega))).2
  have key : ∀ p, p ≤ ord.length → lin ks L0 (ord.take p) (288 + j) / 1099511627776 = ((c0 + ((ord.take p).map (ctI ms qs j)).sum : Nat) : Int) ∧ ((ord.take p).map (ctI ms qs j)).sum ≤ p := by
    intro p
    induction p with
    | zero => intro _; exact ⟨by simpa [lin] using h0, by simp⟩
    | succ p ih =>
      intro hp
      obtain ⟨ih1, ih2⟩ := ih (by omega)
      have hop : ord[p]? = some ord[p] := List.getElem?_eq_getElem (by omega)
      obtain ⟨i, hi⟩ : ∃ i, ord[p] = i := ⟨_, rfl⟩
      have hil : i < ms.length := by rw [← hi]; exact hmem _ (List.getElem_mem (by omega))
      have hms : ms[i]? = some ms[i] := List.getElem?_eq_getElem hil
      have hqs : qs[i]? = some (qs[i]'(by omega)) := List.getElem?_eq_getElem (by omega)
      obtain ⟨hk, hw, hr⟩ := hq i _ _ hms hqs
      obtain ⟨p', hp', t1, t2⟩ := h.told hI hms (hd i _ hms)
      rw [hi] at hop
      have hpp := hdup p p' i hop hp'
      subst hpp
      have hct : ctI ms qs j i = ctN ms[i].ok (qs[i]'(by omega)) j := by
        unfold ctI
        rw [List.getD_eq_getElem?_getD, List.getD_eq_getElem?_getD, hms, hqs]; rfl
      have hle1 := hle i hil
      rw [List.take_succ_eq_append_getElem (by omega : p < ord.length), hi, lin_snoc, kd_get h hms, List.map_append, List.sum_append]
      simp only [List.map_cons, List.map_nil, List.sum_cons, List.sum_nil, Nat.add_zero]
      rw [hct] at hle1 ⊢
      generalize lin ks L0 (ord.take p) = Lp at *
      generalize qs[i] = q at *
      generalize ms[i] = mi at *
      generalize ((ord.take p).map (ctI ms qs j)).sum = S at *
      refine ⟨?_, by omega⟩
      cases hkd : mi.kd with
      | rd k =>
        rw [hkd] at hk
        obtain ⟨hk1, hk2⟩ := hk
        have hz : ctN mi.ok q j = 0 := by unfold ctN; rw [hk2]; simp
        rw [hz]
        unfold linS
        simpa using ih1
      | op es =>
        rw [hkd] at hk
        obtain ⟨hk1, hk2⟩ := hk
        have hv := t1 es hkd
        unfold linS
        dsimp only
        cases hs : satL Lp es with
        | false =>
          rw [hs] at hv
          have hz : ctN mi.ok q j = 0 := by unfold ctN; rw [hv]; simp
          rw [hz]
          simpa using ih1
        | true =>
          rw [hs] at hv
          rw [if_pos rfl, hk1, app_count hr hj, ih1]
          unfold ctN
          rw [hv, if_pos rfl, entries_count hr]
          cases q.es.any (fun e => e.word == j) with
          | true => simp only [if_true]; omega
          | false => simp
  have hk := (key ord.length (Nat.le_refl _)).1
  rw [List.take_length, ← h.hL] at hk
  rw [hk]
  have hperm : ord.Perm (List.range ms.length) := by
    refine (List.perm_ext_iff_of_nodup h.nd List.nodup_range).2 (fun a => ?_)
    constructor
    · intro ha; simpa using hmem a ha
    · intro ha
      have hal : a < ms.length := by simpa using ha
      exact ((h.ma a _ (List.getElem?_eq_getElem hal)).dn (hd a _ (List.getElem?_eq_getElem hal))).1
  rw [(hperm.map (ctI ms qs j)).sum_nat]
end
end Go.Proofs.YtjaohgnloddgfaaGreatDoor

namespace Go.Proofs.YtjaohgnloddgfaaGreatDoor
open Go.RowKit
set_option linter.unusedVariables false
set_option linter.unusedSimpArgs false

def MA0 : MaS := ⟨.rd 0, 0, ⟨0, 0, 0, 0, false, 0⟩, 0, 0, false, false, false, false, 0⟩
def seenL (ms : List MaS) (qs : List TdS) (j : Nat) : List RCall := (List.range j).filterMap fun i => if (ms.getD i MA0).on then some (rcOf (ms.getD i MA0) (qs.getD i TD0)) else none
theorem seenL_succ (ms : List MaS) (qs : List TdS) (j : Nat) : seenL ms qs (j + 1) = if (ms.getD j MA0).on then seenL ms qs j ++ [rcOf (ms.getD j MA0) (qs.getD j TD0)] else seenL ms qs j := by
  unfold seenL
  rw [List.range_succ, List.filterMap_append]
  simp only [List.filterMap_cons, List.filterMap_nil]
  split <;> split <;> simp_all
theorem seenL_len (ms : List MaS) (qs : List TdS) (j : Nat) : (seenL ms qs j).length ≤ j := by
  unfold seenL
  have := List.length_filterMap_le (fun i => if (ms.getD i MA0).on then some (rcOf (ms.getD i MA0) (qs.getD i TD0)) else none) (List.range j)
  simpa using this
def ccells (os : List (RCall × Option Addr × Nat)) : List Value := os.flatMap fun o => [.bool o.1.read, .int .i64 o.1.word, .slice o.2.1 o.1.es.length o.2.2, .int .i64 o.1.bg, .int .i64 o.1.en, .bool o.1.ended, .bool o.1.ok, .int .u64 o.1.val]
theorem ccells_snoc (os : List (RCall × Option Addr × Nat)) (o : RCall × Option Addr × Nat) : ccells (os ++ [o]) = ccells os ++ [.bool o.1.read, .int .i64 o.1.word, .slice o.2.1 o.1.es.length o.2.2, .int .i64 o.1.bg, .int .i64 o.1.en, .bool o.1.ended, .bool o.1.ok, .int .u64 o.1.val] := by simp [ccells]
theorem length_ccells (os : List (RCall × Option Addr × Nat)) : (ccells os).length = os.length * 8 := by
  induction os with
  | nil => rfl
  | cons e es ih => rw [ccells, List.flatMap_cons, List.length_append]; change _ + (ccells es).length = _; rw [ih]; simp; omega
theorem ccells_get (os : List (RCall × Option Addr × Nat)) (d : RCall × Option Addr × Nat) : ∀ (k : Nat), k < os.length → ∀ r, r < 8 → (ccells os)[k * 8 + r]? = [Value.bool (os.getD k d).1.read, .int .i64 (os.getD k d).1.word, .slice (os.getD k d).2.1 (os.getD k d).1.es.length (os.getD k d).2.2, .int .i64 (os.getD k d).1.bg, .int .i64 (os.getD k d).1.en, .bool (os.getD k d).1.ended, .bool (os.getD k d).1.ok, .int .u64 (os.getD k d).1.val][r]? := by
  induction os with
  | nil => intro k h; simp at h
  | cons p os ih =>
    intro k h r hr
    cases k with
    | zero =>
      have : r = 0 ∨ r = 1 ∨ r = 2 ∨ r = 3 ∨ r = 4 ∨ r = 5 ∨ r = 6 ∨ r = 7 := by omega
      rcases this with rfl | rfl | rfl | rfl | rfl | rfl | rfl | rfl <;> simp [ccells]
    | succ k =>
      have := ih k (by simpa using h) r hr
      have e : (ccells (p :: os))[(k + 1) * 8 + r]? = (ccells os)[k * 8 + r]? := by
        show ([.bool p.1.read, .int .i64 p.1.word, .slice p.2.1 p.1.es.length p.2.2, .int .i64 p.1.bg, .int .i64 p.1.en, .bool p.1.ended, .bool p.1.ok, .int .u64 p.1.val] ++ ccells os)[(k + 1) * 8 + r]? = _
        rw [List.getElem?_append_right (by simp; omega)]
        congr 1
        simp; omega
      rw [e, this]
      simp
/-- A slice of calls is a view of them. -/
theorem Sl.clV {w : World} {A : Option Addr} {m c : Nat} {os : List (RCall × Option Addr × Nat)} (h : Sl 52 8 w A m c (ccells os)) (hR : ∀ o ∈ os, o.1.es.length ≤ 1000 ∧ RsV w o.2.1 o.1.es.length o.2.2 o.1.es) : ClV w A m c (os.map (·.1)) := by
  have hl := h.1
  rw [length_ccells] at hl
  have hn : os.length = m := by omega
  refine ⟨by rw [List.length_map]; exact hn, ?_, fun k hk => ?_⟩
  · rcases h.2 with ⟨_, h1, h2⟩ | ⟨_, _, _, _, _, h1, _⟩
    · omega
    · exact h1
  · have hko : k < os.length := by omega
    have hlen := length_ccells os
    have hg := ccells_get os (RC0, none, 0) k hko
    have hcell : ∀ r, r < 8 → ∃ g off, A = some ⟨g, off, none⟩ ∧ g < w.heap.size ∧ w.cell? ⟨g, off + (k * 8 + r), none⟩ = (ccells os)[k * 8 + r]? := fun r hr => by
      obtain ⟨g, off, hA, hl0, c0⟩ := h.at_ (j := k * 8 + r) (by omega)
      exact ⟨g, off, hA, hl0, by rw [c0, List.getElem?_eq_getElem]⟩
    obtain ⟨g, off, hA, hl0, c0⟩ := hcell 0 (by omega)
    have hc : ∀ r, r < 8 → w.cell? ⟨g, off + k * 8 + r, none⟩ = (ccells os)[k * 8 + r]? := fun r hr => by
      obtain ⟨g2, off2, hA2, _, c2⟩ := hcell r hr
      rw [hA] at hA2
      injection hA2 with hA2
      injection hA2 with x1 x2
      subst x1 x2
      rw [← c2, Nat.add_assoc]
    have hmap : (os.map (·.1)).getD k RC0 = (os.getD k (RC0, none, 0)).1 := by
      rw [List.getD_eq_getElem?_getD, List.getD_eq_getElem?_getD, List.getElem?_map, List.getElem?_eq_getElem hko]; rfl
    rw [hmap]
    obtain ⟨r1, r2⟩ := hR _ (getD_mem os (RC0, none, 0) hko)
    obtain ⟨o, ho⟩ : ∃ o, os.getD k (RC0, none, 0) = o := ⟨_, rfl⟩
    rw [ho] at r1 r2 hg ⊢
    refine ⟨g, off, o.2.1, o.1.es.length, o.2.2, hA, hl0, r1, r2, ?_, ?_, ?_, ?_, ?_, ?_, ?_, ?_⟩
    · have := (hc 0 (by omega)).trans (hg 0 (by omega)); simpa using this
    · have := (hc 1 (by omega)).trans (hg 1 (by omega)); simpa using this
    · have := (hc 2 (by omega)).trans (hg 2 (by omega)); simpa using this
    · have := (hc 3 (by omega)).trans (hg 3 (by omega)); simpa using this
    · have := (hc 4 (by omega)).trans (hg 4 (by omega)); simpa using this
    · have := (hc 5 (by omega)).trans (hg 5 (by omega)); simpa using this
    · have := (hc 6 (by omega)).trans (hg 6 (by omega)); simpa using this
    · have := (hc 7 (by omega)).trans (hg 7 (by omega)); simpa using this
theorem info_call17 : (Tryz.prog.info? 52).map (fun i => (i.zero, i.size, i.bytes)) = some (some (.agg #[.bool false, .int .i64 0, .slice none 0 0, .int .i64 0, .int .i64 0, .bool false, .bool false, .int .u64 0]), 8, 72) := by kernel_rfl
theorem cells_any (w : World) (e : TypeId) (cs : Array Value) : ∀ (j : Nat) (u : Value), cs[j]? = some u → (w.alloc (.cells cs e)).cell? ((⟨w.heap.size, 0, none⟩ : Addr).add j) = some u := by
  intro j u hu
  have h1 : (⟨w.heap.size, 0, none⟩ : Addr).add j = ⟨w.heap.size, j, none⟩ := by unfold Addr.add; split <;> simp_all
  rw [h1, (CB.new w e cs).cell j]
  exact hu
/-- What seen reads. -/
def SnV (w : World) (As : Option Addr) (M : Nat) (ms : List MaS) (qs : List TdS) : Prop :=
  ∀ i, i < M → ∃ gS oS g A c, As = some ⟨gS, oS, none⟩ ∧ gS < w.heap.size ∧ w.cell? ⟨gS, oS + i, none⟩ = some (.pointer (some ⟨g, 0, none⟩)) ∧ CB w g 54 (mcs (ms.getD i MA0) (qs.getD i TD0) A c) ∧ RsV w A (qs.getD i TD0).es.length c (qs.getD i TD0).es ∧ (qs.getD i TD0).es.length ≤ 1000
theorem SnV.bl {w w' : World} {As : Option Addr} {M : Nat} {ms : List MaS} {qs : List TdS} (h : SnV w As M ms qs) (hB : Below w.heap.size w w') : SnV w' As M ms qs := by
  intro i hi
  obtain ⟨gS, oS, g, A, c, h1, h2, h3, h4, h5, h6⟩ := h i hi
  exact ⟨gS, oS, g, A, c, h1, Nat.lt_of_lt_of_le h2 hB.size, (hB.cell (p := ⟨gS, oS + i, none⟩) h2).trans h3, h4.keep (hB.block g h4.lt), h5.bl hB, h6⟩
def SnPost (w : World) (l : List RCall) (e : Ending) (w' : World) : Prop := ∃ A c, e = .returned (.slice A l.length c) ∧ ClV w' A l.length c l ∧ Below w.heap.size w w'
set_option maxRecDepth 100000 in
set_option maxHeartbeats 4000000 in
theorem seen17 (w : World) (As : Option Addr) (M cA : Nat) (ms : List MaS) (qs : List TdS) (hM : M ≤ 1000) (hS : SnV w As M ms qs) :
    Calls Tryz.prog 31 #[.slice As M cA] w (SnPost w (seenL ms qs M)) := by
  have HS := Lib.hid hS
  clear hS
  go_enter Tryz.func31, Tryz.ntmps31
  go_wp2
  go_loopw [8, 3, 5, 9, 10, 11, 12, 13, 14, 15, 16, 17, 18, 19, 20, 21, 22, 23] (fun i s _ _ _ _ _ _ _ _ _ _ _ _ _ _ _ _ wr => ∃ (j : Nat) (A' : Option Addr) (c' : Nat) (os : List (RCall × Option Addr × Nat)), j ≤ M ∧ i = .int .i64 j ∧ s = .slice A' os.length c' ∧ os.map (·.1) = seenL ms qs j ∧ Sl 52 8 wr A' os.length c' (ccells os) ∧ (∀ o ∈ os, o.1.es.length ≤ 1000 ∧ RsV w o.2.1 o.1.es.length o.2.2 o.1.es) ∧ Below w.heap.size w wr ∧ ∀ b, OwnB A' b → w.heap.size ≤ b) (fun i s _ _ _ _ _ _ _ _ _ _ _ _ _ _ _ _ _ => M - (intOf i).toNat)
  case atStart => exact ⟨0, none, 0, [], by omega, rfl, rfl, rfl, Sl.nil, by simp, Below.refl _ _, by simp [OwnB]⟩
  case round =>
    obtain ⟨j, A', c', os, hj, rfl, rfl, hos, hSl, hR, hB, hO⟩ := hrel
    have HOS := Lib.hid hos
    have HSl := Lib.hid hSl
    have HR := Lib.hid hR
    have HB := Lib.hid hB
    have HO := Lib.hid hO
    by_cases hlt : j < M
    · have hlt' : (j : Int) < (M : Int) := by omega
      obtain ⟨gS, oS, g, A, c, hAs, hgS, hcS, hCB, hRs, hes⟩ := (HS.out.bl hB) j hlt
      obtain ⟨_, _, _, _, _, hAs0, _, _, _, hRs0, _⟩ := HS.out j hlt
      have HST := Lib.hid (seenL_succ ms qs j)
      have HSW : Hid (∀ g A c, CB w g 54 (mcs (ms.getD j MA0) (qs.getD j TD0) A c) → True) := fun _ _ _ _ => trivial
      obtain ⟨gS2, oS2, gw, Aw, cw, hAsw, hgSw, hcSw, hCBw, hRsw, hesw⟩ := HS.out j hlt
      have hcw := (hB.cell (p := ⟨gS2, oS2 + j, none⟩) hgSw).trans hcSw
      have hCw := hCBw.keep (hB.block gw hCBw.lt)
      clear hAs hgS hcS hCB hRs hes hAs0 hRs0 HSW
      obtain ⟨m, hm⟩ : ∃ m, ms.getD j MA0 = m := ⟨_, rfl⟩
      obtain ⟨q, hq⟩ : ∃ q, qs.getD j TD0 = q := ⟨_, rfl⟩
      rw [hm, hq] at HST
      rw [hm, hq] at hCw
      rw [hq] at hRsw hesw
      obtain ⟨c0, c1, c2, c3, c4, c5, c6, c7, c8, c9, c10, c11, hl, hf⟩ := mcs_cells hCw
      have HRW := Lib.hid hRsw
      have HESW := Lib.hid hesw
      have hgS3 : gS2 < wr.heap.size := Nat.lt_of_lt_of_le hgSw hB.size
      have hol := seenL_len ms qs j
      rw [← hos, List.length_map] at hol
      have hol' : os.length + 1 ≤ 2000 := by omega
      subst hAsw
      clear hos hSl hR hB hO hcSw hCBw hRsw hesw hm hq hCw hgSw hf hol
      cases hon : m.on with
      | false =>
        rw [hon] at c10 HST
        clear hon
        go_wp2
        exact ⟨⟨j + 1, A', c', os, by omega, by go_num, rfl, by rw [HST.out]; exact HOS.out, HSl.out, HR.out, HB.out, HO.out⟩, by simp [intOf]; omega⟩
      | true =>
        rw [hon] at c10 HST
        clear hon
        obtain ⟨ol, hol⟩ : ∃ ol, os.length = ol := ⟨_, rfl⟩
        have HOL := Lib.hid hol
        rw [hol] at hol' HSl ⊢
        obtain ⟨nl, hnl⟩ : ∃ nl, q.es.length = nl := ⟨_, rfl⟩
        have HNL := Lib.hid hnl
        rw [hnl] at c4
        obtain ⟨em, hem⟩ : ∃ em, q.es.isEmpty = em := ⟨_, rfl⟩
        have HEM := Lib.hid hem
        rw [hem] at c2
        clear hol hnl hem
        go_wp2_with (at_builtin; refine wpList_append_slB rfl (.tmp 16) (.tmp 21) 67 rfl 52 (.agg #[.bool false, .int .i64 0, .slice none 0 0, .int .i64 0, .int .i64 0, .bool false, .bool false, .int .u64 0]) 8 72 rfl (by omega) Tryz.underlying67 info_call17 (by omega) A' ol c' (ccells os) ⟨wr.heap.size, 0, none⟩ 1 1 [.bool em, .int .i64 q.word, .slice Aw nl cw, .int .i64 m.bg, .int .i64 m.en, .bool m.ended, .bool m.ok, .int .u64 m.val] rfl rfl (HSl.out.keep (fun b hb => Below.heap_alloc _ _ _ (HSl.out.lt hb))) rfl (by omega) (fun j u hu => cells_any wr 52 _ j u (by simpa using hu)) (fun u hu => by simp at hu; rcases hu with rfl | rfl | rfl | rfl | rfl | rfl | rfl | rfl <;> rfl) (by omega) ?_; intro A4 c4 w4 HO4 HC4 HW4 HG4)
        have hlen : (os ++ [(rcOf m q, Aw, cw)]).length = ol + 1 := by rw [List.length_append, HOL.out]; rfl
        refine ⟨⟨j + 1, A4, c4, os ++ [(rcOf m q, Aw, cw)], by omega, by go_num, by rw [hlen], by rw [List.map_append, HOS.out, HST.out]; rfl, ?_, fun o ho => ?_, bl_ch (bl_alloc HB.out _) HC4.out (fun b hb => HO.out b hb), fun b hb => ?_⟩, by simp [intOf]; omega⟩
        · rw [hlen, ccells_snoc]
          unfold rcOf
          dsimp only
          rw [HNL.out, HEM.out]
          exact HO4.out
        · rcases List.mem_append.1 ho with h | h
          · exact HR.out o h
          · rw [List.mem_singleton.1 h]
            exact ⟨HESW.out, HRW.out⟩
        · rcases HW4.out b hb with h | h
          · exact HO.out b h
          · have h1 := HB.out.size
            rw [h]; simp; omega
    · obtain rfl : j = M := by omega
      have HX : Hid (SnPost w (seenL ms qs j) (.returned (.slice A' os.length c')) wr) := by
        rw [← HOS.out]
        refine ⟨A', c', by rw [List.length_map], ?_, HB.out⟩
        have := HSl.out.clV (fun o ho => ⟨(HR.out o ho).1, (HR.out o ho).2.bl HB.out⟩)
        rw [List.length_map]; exact this
      clear hos hSl hR hB hO
      go_wp2
      go_ret
      exact HX.out
end Go.Proofs.YtjaohgnloddgfaaGreatDoor

namespace Go.Proofs.YtjaohgnloddgfaaGreatDoor
open Go.RowKit
set_option linter.unusedVariables false
set_option linter.unusedSimpArgs false

theorem leftN_succ (bs : List Bool) {j : Nat} (hj : j < bs.length) : leftN (bs.take (j + 1)) = leftN (bs.take j) + if bs.getD j false then 0 else 1 := by
  unfold leftN
  rw [List.take_succ_eq_append_getElem hj, List.filter_append, List.length_append, List.getD_eq_getElem?_getD, List.getElem?_eq_getElem hj]
  congr 1
  cases bs[j] <;> rfl
theorem leftN_le (bs : List Bool) : leftN bs ≤ bs.length := List.length_filter_le _ _
set_option maxRecDepth 100000 in
set_option maxHeartbeats 1000000 in
theorem pwFree {K : Nat → Prop} {p d line lines : Nat} {t : Nat → Nat} {size : Int} {w : World} {σ : PwS} (H : PMx K p d t line lines size w σ) (hn : σ.busy.length = 8) :
    Calls Tryz.prog 35 #[.pointer (some ⟨p, 0, none⟩)] w fun e w' => e = .returned (.int .i64 (leftN σ.busy : Nat)) ∧ w = w' := by
  obtain ⟨bb, hpl, hbl, hne, hcb, hsl⟩ := H.plc
  have c4 := hcb.cell 4
  simp only [List.getElem?_toArray, List.getElem?_cons_succ, List.getElem?_cons_zero] at c4
  rw [hn] at c4 hsl
  have HBP := Lib.hid hsl.blP
  obtain ⟨bs, hbs⟩ : ∃ bs, σ.busy = bs := ⟨_, rfl⟩
  rw [hbs] at hn HBP ⊢
  have HN := Lib.hid hn
  clear H hcb hsl hbs hn
  go_enter Tryz.func35, Tryz.ntmps35
  go_wp2
  go_loopw [13, 3, 5, 14, 15, 16, 17, 18, 19, 20, 21] (fun i s _ _ _ _ _ _ _ _ _ wr => ∃ j : Nat, j ≤ 8 ∧ i = .int .i64 j ∧ s = .int .i64 (leftN (bs.take j) : Nat) ∧ wr = w) (fun i s _ _ _ _ _ _ _ _ _ _ => 8 - (intOf i).toNat)
  case atStart => exact ⟨0, by omega, rfl, rfl, rfl⟩
  case round =>
    obtain ⟨j, hj, rfl, rfl, rfl⟩ := hrel
    by_cases hlt : j < 8
    · have hlt' : (j : Int) < 8 := by omega
      have hjl : j < bs.length := by rw [HN.out]; exact hlt
      have hc := HBP.out.2 j hlt
      rw [Nat.zero_add] at hc
      have HLS := Lib.hid (leftN_succ bs hjl)
      have hle : leftN (bs.take j) ≤ 8 := by have := leftN_le (bs.take j); simp at this; omega
      have hgd : bs.getD j true = bs.getD j false := by rw [List.getD_eq_getElem?_getD, List.getD_eq_getElem?_getD, List.getElem?_eq_getElem hjl]; rfl
      rw [hgd] at hc
      obtain ⟨u, hu⟩ : ∃ u, bs.getD j false = u := ⟨_, rfl⟩
      rw [hu] at hc HLS
      obtain ⟨k, hk⟩ : ∃ k, leftN (bs.take j) = k := ⟨_, rfl⟩
      rw [hk] at HLS hle ⊢
      clear hu hk hgd
      cases u with
      | true =>
        go_wp2
        exact ⟨⟨j + 1, by omega, by go_num, by rw [HLS.out]; rfl, trivial⟩, by simp [intOf]; omega⟩
      | false =>
        go_wp2
        exact ⟨⟨j + 1, by omega, by go_num, by rw [HLS.out]; go_num, trivial⟩, by simp [intOf]; omega⟩
    · obtain rfl : j = 8 := by omega
      have hf : bs.take 8 = bs := List.take_of_length_le (by rw [HN.out]; omega)
      rw [hf]
      go_wp2
      go_ret
      exact ⟨rfl, rfl⟩
section
variable {w w' : World} {p d : Nat} {t : Nat → Nat} {S : DevS} {vs : List Int}
/-- The role of a block at the start: what was there stays. -/
def kap0 (n0 : Nat) (b : Nat) : Nat := if b < n0 then 1 else 0
/-- A run may begin behind Setup. -/
theorem BegS.start (hv : ∀ j, 0 ≤ gt0 vs j ∧ gt0 vs j < 256) (hP : PMx (fun b => b < w.heap.size) p d t 0 32 (40 * 64) w' { dev := S, busy := List.replicate 8 false, cur := none, ops := fun _ => none }) (hC : Clean S 40 (xsS vs) 200) (hB : Below w.heap.size w w') (hT : Tab w) :
    BegS (kap0 w.heap.size) p d t (L17 vs) (fun _ => 0) 1000 w.heap.size w [] [] w' { dev := S, busy := List.replicate 8 false, cur := none, ops := fun _ => none } [] := by
  have h0 : kap0 w.heap.size 0 = 1 := if_pos hT.1
  have hL := L17_ok vs hv
  refine ⟨⟨200, xsS vs, Inv.init hC.on17 hL.1 hL.2, by omega⟩, rfl, ⟨by simp, fun i m es hi => by simp at hi, fun i j mi mj ei ej hi => by simp at hi, fun k hk => ?_⟩, hP.less (fun b hb => ?_), fun i m hi => by simp at hi, fun i m hi => by simp at hi, fun i j mi mj hi => by simp at hi, hT.ch (Ch.of_below (S := fun _ => False) hB) (fun h => h), h0, hB, hB.size, fun b hb => if_pos hb, rfl, rfl, by simp⟩
  · constructor
    · intro h
      rw [List.getD_eq_getElem?_getD, List.getElem?_replicate] at h
      split at h <;> simp at h
    · rintro ⟨i, m, es, hi, _⟩
      simp at hi
  · unfold kap0 at hb
    split at hb
    · assumption
    · exact absurd rfl hb
/-- New memory beside it. -/
theorem BegS.below {κ : Nat → Nat} {L0 : Nat → Int} {dk : Nat → Nat} {B n0 : Nat} {wB : World} {qs : List TdS} {gs : List Nat} {σ : PwS} {ms : List MaS} (h : BegS κ p d t L0 dk B n0 wB qs gs w σ ms) (hB : Below w.heap.size w w') : BegS κ p d t L0 dk B n0 wB qs gs w' σ ms :=
  h.move (Ch.of_below (S := fun _ => False) hB) (fun _ _ hx => hx.elim) (fun _ _ => rfl) (fun _ hb => .inl hb)
end
/-- What is found behind a run that has ended. -/
structure RunE (κ0 : Nat → Nat) (w0 : World) (p d : Nat) (t : Nat → Nat) (L0 : Nat → Int) (B n0 : Nat) (wB : World) (cs : List (Int × Int × List (Int × Int × Int))) (As : Option Addr) (M cA : Nat) (ms : List MaS) (qs : List TdS) (L : Nat → Int) (w' : World) : Prop where
  pl : ∃ K σ N xs, PMx K p d t 0 32 ((40 : Nat) * 64) w' σ ∧ On σ.dev 40 xs N ∧ (∀ k, M17 k → xs[k]? = some (L k)) ∧ σ.busy = List.replicate 8 false
  hL : ∀ k, M17 k → 0 ≤ L k ∧ L k < 4611686018427387904
  sn : SnV w' As M ms qs
  ml : ms.length = M
  m3 : M = min cs.length 3
  qe : qs = qsOf (cs.take M)
  on : ∀ i, i < M → (ms.getD i MA0).on = true
  ex : expl (rcs ms qs) (vsOf L) M (vsOf L0) (List.replicate M false) = true
  ct : ∀ j, j < 8 → ∀ c0 : Nat, L0 (288 + j) / 1099511627776 = (c0 : Int) → c0 ≤ 1000 → L (288 + j) / 1099511627776 = ((c0 + ((List.range M).map (ctI ms qs j)).sum : Nat) : Int)
  nx : ∃ κ σ, BegS κ p d t L (fun _ => 0) (B + 8000) n0 wB [] [] w' σ [] ∧ Kp κ0 w0 κ w'
  bl : Below n0 wB w'
  nl : n0 ≤ w'.heap.size
theorem qsOf_len (cs : List (Int × Int × List (Int × Int × Int))) : (qsOf cs).length = cs.length := by simp [qsOf]
theorem qsOf_get (cs : List (Int × Int × List (Int × Int × Int))) {i : Nat} (hi : i < (qsOf cs).length) : TdOk ((qsOf cs).getD i TD0) := by
  rw [List.getD_eq_getElem?_getD, List.getElem?_eq_getElem hi]
  simp only [qsOf, List.getElem_map, Option.getD_some]
  exact qOf_ok _
theorem Inv.settled {N : Nat} {σ : PwS} {xs : List Int} {L : Nat → Int} (hI : Inv sumI (atW 0) 40 8 M17 N σ xs L) (hc : σ.cur = none) : On σ.dev 40 xs N ∧ ∀ k, M17 k → xs[k]? = some (L k) := ⟨hI.on, hI.idle hc⟩
theorem RnPost.ended {κ0 : Nat → Nat} {w0 : World} {p d : Nat} {t : Nat → Nat} {L0 : Nat → Int} {B n0 : Nat} {wB : World} {cs : List (Int × Int × List (Int × Int × Int))} {e : Ending} {w' : World} (h : RnPost κ0 w0 p d t L0 B n0 wB cs true e w') : ∃ As M cA ms qs L, e = .returned (.tuple #[.slice As M cA, .bool true]) ∧ RunE κ0 w0 p d t L0 B n0 wB cs As M cA ms qs L w' := by
  obtain ⟨κ, dk, ks, gs, σ, ms, As, cA, a, he, hml, hR, hgl, ha, hSl, hO, hd, hBl, hnl, hkb, hKp⟩ := h
  have hd := hd rfl
  have ha : a ≤ 8000 := by simpa using ha
  obtain ⟨N, xs, L, ord, hI, hLs, hN⟩ := hR.q.ex
  have hcur := hLs.quiet hI hd
  have hlen : (qsOf (cs.take ms.length)).length = ms.length := by rw [qsOf_len, List.length_take]; omega
  obtain ⟨q, hq⟩ : ∃ q, qsOf (cs.take ms.length) = q := ⟨_, rfl⟩
  have hget : ∀ (i : Nat) (m : MaS), ms[i]? = some m → ms.getD i MA0 = m := fun i m hi => by rw [List.getD_eq_getElem?_getD, hi]; rfl
  refine ⟨As, ms.length, cA, ms, q, L, he, ⟨⟨_, σ, N, xs, hR.pm, hI.on, hI.idle hcur, hR.q.bz.free hd⟩, hI.hL, fun i hi => ?_, rfl, hml, hq.symm, fun i hi => ?_, ?_, fun j hj c0 h0 hc0 => ?_, ?_, hBl, hnl⟩⟩
  · have hi' : ms[i]? = some ms[i] := List.getElem?_eq_getElem hi
    have hM := hR.mm i _ hi'
    obtain ⟨A, c, h1, h2, h3⟩ := hM.ex
    obtain ⟨gS, oS, hAS, hlt, hc⟩ := hSl.at_ (j := i) (by simp; omega)
    refine ⟨gS, oS, gs.getD i 0, A, c, hAS, hlt, ?_, ?_, ?_, ?_⟩
    · rw [hc]
      simp [ptrV, List.getD_eq_getElem?_getD, List.getElem?_eq_getElem (show i < gs.length by omega)]
    · rw [hget i _ hi', ← hq]; exact h1
    · rw [← hq]; exact h2
    · have := hM.td.2.l
      rw [← hq]; omega
  · have hi' : ms[i]? = some ms[i] := List.getElem?_eq_getElem hi
    rw [hget i _ hi']
    exact (hLs.ma i _ hi').on (.inr (hd i _ hi'))
  · have hx := hLs.explains (qs := q) hI hd (by rw [← hq]; exact hlen) (fun i m qi hmi hqi => by
      have hM := hR.mm i m hmi
      have hqd : (qsOf (cs.take ms.length)).getD i TD0 = qi := by rw [hq, List.getD_eq_getElem?_getD, hqi]; rfl
      rw [hqd] at hM
      exact ⟨hM.kd, hM.td⟩)
    rw [length_rcs (by rw [← hq]; exact hlen)] at hx
    exact hx
  · exact hLs.counts (qs := q) hI hd (by rw [← hq]; exact hlen) hR.q.len (fun i m qi hmi hqi => by
      have hM := hR.mm i m hmi
      have hqd : (qsOf (cs.take ms.length)).getD i TD0 = qi := by rw [hq, List.getD_eq_getElem?_getD, hqi]; rfl
      rw [hqd] at hM
      exact ⟨hM.kd, hM.td⟩) hj h0 hc0
  · refine ⟨κ, σ, ⟨⟨N, xs, hI, by omega⟩, hcur, ⟨hR.q.bz.len, fun i m es hi => by simp at hi, fun i j mi mj ei ej hi => by simp at hi, fun k hk => ?_⟩, hR.pm, fun i m hi => by simp at hi, fun i m hi => by simp at hi, fun i j mi mj hi => by simp at hi, hR.tab, hR.k0, hBl, hnl, hkb, rfl, rfl, by simp⟩, hKp⟩
    rw [hR.q.bz.free hd]
    constructor
    · intro h
      rw [List.getD_eq_getElem?_getD, List.getElem?_replicate] at h
      split at h <;> simp at h
    · rintro ⟨i, m, es, hi, _⟩
      simp at hi
end Go.Proofs.YtjaohgnloddgfaaGreatDoor
