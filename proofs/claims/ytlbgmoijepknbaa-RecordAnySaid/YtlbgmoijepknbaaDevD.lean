/- Contract of write of a thread: a store is appended to the history of its line. -/
import Derived.Test.YtlbgmoijepknbaaDevC
namespace Go.Proofs.Ytlbgmoijepknbaa
open Go.RowKit
set_option linter.unusedVariables false

theorem Sl.set {e : TypeId} {size : Nat} {w : World} {g off n c : Nat} {xs : List Value} (h : Sl e size w (some ⟨g, off, none⟩) n c xs) {j : Nat} (hj : j < xs.length) (v : Value) : Sl e size (w.setCell ⟨g, off + j, none⟩ v) (some ⟨g, off, none⟩) n c (xs.set j v) := by
  refine ⟨by rw [List.length_set]; exact h.1, ?_⟩
  rcases h.2 with ⟨hA, _⟩ | ⟨g', off', cur, hA, hC, hn, hm, hfit, ht⟩
  · cases hA
  · injection hA with hA
    injection hA with hA hA'
    subst hA hA'
    refine .inr ⟨g, off, _, rfl, hC.set (off + j) v, hn, hm, by simpa using hfit, ?_⟩
    rw [Array.toList_setIfInBounds, ← ht]
    rw [List.drop_set, if_neg (by omega), show off + j - off = j by omega, List.take_set]

theorem Sl.frozen {e : TypeId} {size : Nat} {w : World} {g off n c : Nat} {xs : List Value} (h : Sl e size w (some ⟨g, off, none⟩) n c xs) (j : Nat) : w.frozen? ⟨g, j, none⟩ = false := by
  rcases h.2 with ⟨hA, _⟩ | ⟨g', off', cur, hA, hC, _⟩
  · cases hA
  · injection hA with hA
    injection hA with hA hA'
    subst hA
    exact hC.frozen j

def DevS.write (S : DevS) (k : Nat) (v : Int) : DevS :=
  { S with cur := S.cur.set k v, lns := S.lns.modify (k / 8) fun l => { l with hist := l.hist ++ [(8 * (k : Int), v)] } }

theorem wcells_snoc (ws : List (Int × Int)) (a b : Int) : wcells (ws ++ [(a, b)]) = wcells ws ++ [.int .u64 a, .int .u64 b] := by simp [wcells]
theorem length_wcells (ws : List (Int × Int)) : (wcells ws).length = ws.length * 2 := by
  induction ws with
  | nil => rfl
  | cons p ws ih => simp only [wcells, List.flatMap_cons, List.length_append, List.length_cons, List.length_nil] at *; omega
theorem info_write : (Try.prog.info? 75).map (fun i => (i.zero, i.size, i.bytes)) = some (some (.agg #[.int .u64 0, .int .u64 0]), 2, 16) := by kernel_rfl

/-- The layout when the history of line q lies elsewhere. -/
def Lay.move (L : Lay) (q : Nat) (A : Option Addr) (c : Nat) : Lay :=
  { L with ha := fun j => if j = q then A else L.ha j, hc := fun j => if j = q then c else L.hc j, role := fun b => if A.map (·.block) = some b then 21 + q else L.role b }

section
variable {w w' : World} {d : Nat} {L : Lay} {S : DevS}
/-- A line's history, its cell and a current word have changed. -/
theorem Dev.setWrite (h : Dev w d L S) {k q : Nat} (hk : k < 8 * S.lns.length) (hq : k / 8 = q) (v : Int) (A : Option Addr) (c : Nat)
    (hb : ∀ b, Fp L b → b ≠ L.lb → b ≠ L.cb → L.role b ≠ 21 + q → w'.heap[b]? = w.heap[b]?) (hs : w.heap.size ≤ w'.heap.size)
    (hA : ∀ b, OwnB A b → OwnB (L.ha q) b ∨ w.heap.size ≤ b)
    (hcur : Sl 26 1 w' (some ⟨L.cb, 0, none⟩) S.cur.length L.cc (uints (S.cur.set k v)))
    (hql : q < S.lns.length)
    (hlin : ∀ cs, CB w L.lb 179 cs → CB w' L.lb 179 (cs.setIfInBounds (2 * q + 1) (.slice A (S.lns[q].hist.length + 1) c)))
    (hhis : Sl 75 2 w' A (S.lns[q].hist.length + 1) c (wcells (S.lns[q].hist ++ [(8 * (k : Int), v)]))) :
    Dev w' d (L.move q A c) (S.write k v) := by
  have hlen : (S.write k v).lns.length = S.lns.length := by simp [DevS.write]
  have hr : ∀ b, L.role b ≠ 0 → L.role b ≠ 21 + q → (L.move q A c).role b = L.role b := by
    intro b hb0 hbq
    show (if A.map (·.block) = some b then 21 + q else L.role b) = _
    rw [if_neg]
    intro hA'
    rcases hA b hA' with h1 | h1
    · exact hbq (h.rh q hql b h1)
    · have := h.fr b hb0; omega
  have hk1 : ∀ b, Fp L b → L.role b ≠ 4 → L.role b ≠ 3 → L.role b ≠ 21 + q → w'.heap[b]? = w.heap[b]? := fun b hf h4 h3 hq' => hb b hf (by rintro rfl; exact h4 h.rl) (by rintro rfl; exact h3 h.rc) hq'
  have hg : ∀ j (hj : j < S.lns.length), (S.write k v).lns[j]'(by rw [hlen]; exact hj) = if j = q then { S.lns[q] with hist := S.lns[q].hist ++ [(8 * (k : Int), v)] } else S.lns[j] := by
    intro j hj
    simp only [DevS.write, hq]
    rw [List.getElem_modify]
    by_cases hjq : q = j
    · subst hjq; simp
    · rw [if_neg hjq, if_neg (fun h => hjq h.symm)]
  constructor
  case dev =>
    have := h.dev.keep (hk1 d (by unfold Fp; rw [h.rd]; omega) (by rw [h.rd]; omega) (by rw [h.rd]; omega) (by rw [h.rd]; omega))
    simpa [devCells, Lay.move, DevS.write] using this
  case pers => exact h.pers.keep fun b hb' => by
                have : L.pb = b := by simpa [OwnB] using hb'
                subst this
                exact hk1 _ (by unfold Fp; rw [h.rp]; omega) (by rw [h.rp]; omega) (by rw [h.rp]; omega) (by rw [h.rp]; omega)
  case cur => simpa [DevS.write, Lay.move] using hcur
  case np => rw [hlen]; exact h.np
  case nc => rw [hlen]; simpa [DevS.write] using h.nc
  case nl => rw [hlen]; exact h.nl
  case lf => exact h.lf
  case ex => exact h.ex
  case lin =>
    obtain ⟨cs, h1, h2, h3⟩ := h.lin
    refine ⟨_, hlin cs h1, by rw [hlen]; simpa using h2, fun j hj => ?_⟩
    rw [hlen] at hj
    rw [hg j hj]
    obtain ⟨h4, h5⟩ := h3 j hj
    by_cases hjq : j = q
    · subst hjq
      rw [if_pos rfl]
      refine ⟨?_, ?_⟩
      · rw [Array.getElem?_setIfInBounds, if_neg (by omega)]; exact h4
      · rw [Array.getElem?_setIfInBounds, if_pos rfl, if_pos (by omega)]
        simp [Lay.move]
    · rw [if_neg hjq]
      refine ⟨?_, ?_⟩
      · rw [Array.getElem?_setIfInBounds, if_neg (by omega)]; exact h4
      · rw [Array.getElem?_setIfInBounds, if_neg (by omega), h5]
        simp [Lay.move, hjq]
  case his =>
    intro j hj
    rw [hlen] at hj
    rw [hg j hj]
    by_cases hjq : j = q
    · subst hjq
      rw [if_pos rfl]
      simpa [Lay.move] using hhis
    · rw [if_neg hjq]
      have := (h.his j hj).keep (w' := w') fun b hb' => hk1 b (by unfold Fp; rw [h.rh j hj b hb']; omega) (by rw [h.rh j hj b hb']; omega) (by rw [h.rh j hj b hb']; omega) (by rw [h.rh j hj b hb']; omega)
      simpa [Lay.move, hjq] using this
  case thr =>
    intro j hj
    have := (h.thr j hj).keep (hk1 _ (by unfold Fp; rw [h.rt j hj]; omega) (by rw [h.rt j hj]; omega) (by rw [h.rt j hj]; omega) (by rw [h.rt j hj]; omega))
    exact this
  case nts =>
    intro j hj
    exact (h.nts j hj).keep (hk1 _ (by unfold Fp; rw [h.rm j hj]; omega) (by rw [h.rm j hj]; omega) (by rw [h.rm j hj]; omega) (by rw [h.rm j hj]; omega))
  case rd => rw [hr d (by rw [h.rd]; omega) (by rw [h.rd]; omega)]; exact h.rd
  case rp => exact (hr L.pb (by rw [h.rp]; omega) (by rw [h.rp]; omega)).trans h.rp
  case rc => exact (hr L.cb (by rw [h.rc]; omega) (by rw [h.rc]; omega)).trans h.rc
  case rl => exact (hr L.lb (by rw [h.rl]; omega) (by rw [h.rl]; omega)).trans h.rl
  case rt => intro j hj; exact (hr (L.t j) (by rw [h.rt j hj]; omega) (by rw [h.rt j hj]; omega)).trans (h.rt j hj)
  case rm => intro j hj; exact (hr (L.m j) (by rw [h.rm j hj]; omega) (by rw [h.rm j hj]; omega)).trans (h.rm j hj)
  case rh =>
    intro j hj b hb'
    rw [hlen] at hj
    by_cases hjq : j = q
    · subst hjq
      have hb2 : OwnB A b := by simpa [Lay.move] using hb'
      show (if A.map (·.block) = some b then 21 + j else L.role b) = _
      exact if_pos hb2
    · have hb2 : OwnB (L.ha j) b := by simpa [Lay.move, hjq] using hb'
      have h1 := h.rh j hj b hb2
      exact (hr b (by rw [h1]; omega) (by rw [h1]; omega)).trans h1
  case fr =>
    intro b hb'
    by_cases hA' : A.map (·.block) = some b
    · exact hhis.lt hA'
    · have : L.role b ≠ 0 := by
        intro h0
        apply hb'
        show (if A.map (·.block) = some b then 21 + q else L.role b) = 0
        rw [if_neg hA', h0]
      exact Nat.lt_of_lt_of_le (h.fr b this) hs
end

theorem wpList_append_sl {P : Program} {w : World} {ops : Array Oper} {rest : List Oper} {o : Oper} {a : Act} {Q : Exit → Act → World → Prop} (hgd : o.guard = none) (s x : Operand) (t : TypeId)
    (ho : o.op = .call { callee := .builtin .append, args := #[s, x], argTypes := #[t, t] }) (e : TypeId) (zv : Value) (size by_ : Nat) (hzs : zv.cells.size = size) (hsz : 0 < size) (ht : P.underlying t = some (.slice e)) (hinfo : (P.info? e).map (fun i => (i.zero, i.size, i.bytes)) = some (some zv, size, by_)) (hby : by_ ≤ 64)
    (A : Option Addr) (n c : Nat) (xs : List Value) (ad : Addr) (m d : Nat) (ys : List Value) (hse : a.eval s = .slice A n c) (hxe : a.eval x = .slice (some ad) m d) (hown : Sl e size w A n c xs) (hm : ys.length = m * size) (hm0 : 0 < m) (hr : ∀ j u, ys[j]? = some u → w.cell? (ad.add j) = some u) (hf : ∀ u ∈ ys, u.oneCell' = true)
    (hbound : n + m ≤ 1000000000)
    (h : ∀ A' c' w', Hid (Sl e size w' A' (n + m) c' (xs ++ ys)) → Hid (Ch (OwnB A) w w') → Hid (∀ b, OwnB A' b → OwnB A b ∨ b = w.heap.size) → Hid (c < n + m → A' = some ⟨w.heap.size, 0, none⟩) → wpList P ops Q rest (a.put o.dst (.slice A' (n + m) c')) w') : wpList P ops Q (o :: rest) a w := by
  refine wpList_plain hgd fun K hK => ?_
  obtain ⟨A', c', w', hrun, h1, h2, h3, h4⟩ := run_append_sl (P := P) w t o.type e zv size by_ hzs hsz ht hinfo hby A n c xs hown ad m d ys hm hm0 hr hf hbound
  unfold Oper.wp execOp
  simp only [ho, resolve, invoke, builtin, Sem.run_bind, Sem.run_pure, Result.andThen_ok, List.map_toArray, List.map_cons, List.map_nil, hse, hxe, hrun]
  exact hK _ _ (h A' c' w' h1 h2 h3 h4)

theorem cells_two (w : World) (e : TypeId) (a b : Value) : ∀ (j : Nat) (u : Value), [a, b][j]? = some u → (w.alloc (.cells #[a, b] e)).cell? ((⟨w.heap.size, 0, none⟩ : Addr).add j) = some u := by
  intro j u hu
  have h1 : (⟨w.heap.size, 0, none⟩ : Addr).add j = ⟨w.heap.size, j, none⟩ := by unfold Addr.add; split <;> simp_all
  rw [h1, (CB.new w e #[a, b]).cell j]
  simpa using hu

/-- What a store leaves: the device, in its blocks and new ones. -/
def WrPost (w : World) (d : Nat) (L : Lay) (S : DevS) (w' : World) : Prop :=
  ∃ L', L'.t = L.t ∧ Dev w' d L' S ∧ Ch (Fp L) w w' ∧ ∀ b, Fp L' b → Fp L b ∨ w.heap.size ≤ b

set_option maxRecDepth 100000 in
set_option maxHeartbeats 2000000 in
theorem thWrite (w : World) (d : Nat) (L : Lay) (S : DevS) (h : Dev w d L S) (i : Nat) (hi : i < 8) (k : Nat) (hk : k < 8 * S.lns.length) (v : Int) (hh : ∀ l ∈ S.lns, l.hist.length < 1000000) :
    Calls Try.prog 76 #[.pointer (some ⟨L.t i, 0, none⟩), .int .u64 (8 * (k : Int)), .int .u64 v] w fun e w' => e = .returned (.tuple #[]) ∧ WrPost w d L (S.write k v) w' := by
  have h0 := h.t0 hi
  have hl := h.tlt hi
  have hd := h.lt
  have h2 := h.lcell
  have h1 := h.ccell
  obtain ⟨cs, hcs, hcsz, hcell⟩ := h.lin
  obtain ⟨q, hq⟩ : ∃ q, k / 8 = q := ⟨_, rfl⟩
  have hql : q < S.lns.length := by omega
  have hlb := hcs.lt
  have hc1 := hcs.cell_some (hcell q hql).2
  have hf1 := hcs.frozen (2 * q + 1)
  rw [Nat.mul_comm 2 q] at hc1 hf1
  have hkc : k < S.cur.length := by rw [h.nc]; exact hk
  have hcw := h.cword hkc
  have hcb := h.cblt
  have hcfz : w.frozen? ⟨L.cb, k, none⟩ = false := h.cur.frozen k
  have hd64 : 8 * (k : Int) / 64 = (q : Int) := by omega
  have hd8 : 8 * (k : Int) / 8 = (k : Int) := by omega
  have hnl := h.nl
  have hlen := hh S.lns[q] (List.getElem_mem hql)
  have HSl := Lib.hid (h.his q hql)
  have H := Lib.hid h
  have HCS := Lib.hid hcs
  have HQ := Lib.hid hq
  clear h hcs hcell hh hcsz hq
  obtain ⟨n, hn⟩ : ∃ n, S.lns[q].hist.length = n := ⟨_, rfl⟩
  rw [hn] at hc1 hlen HSl
  have HN := Lib.hid hn
  clear hn
  go_enter Try.func76, Try.ntmps76
  go_wp2_with (at_builtin; refine wpList_append_sl rfl (.tmp 21) (.tmp 25) 61 rfl 75 (.agg #[.int .u64 0, .int .u64 0]) 2 16 rfl (by omega) Try.underlying61 info_write (by omega) (L.ha q) n (L.hc q) (wcells S.lns[q].hist) ⟨w.heap.size, 0, none⟩ 1 1 [.int .u64 (8 * (k : Int)), .int .u64 v] rfl rfl (HSl.out.keep (fun b hb => Below.heap_alloc w _ b (HSl.out.lt hb))) rfl (by omega) (cells_two w 75 _ _) (by simp; exact ⟨rfl, rfl⟩) (by omega) ?_; intro A2 c2 w2 HO HC HW HG; have KC : Hid (∀ b o, b < w.heap.size → L.role b ≠ 21 + q → w2.cell? ⟨b, o, none⟩ = w.cell? ⟨b, o, none⟩ ∧ w2.frozen? ⟨b, o, none⟩ = w.frozen? ⟨b, o, none⟩) := (fun b o hb hr => ⟨(HC.out.cells b o (by simp; omega) (fun ho => hr (H.out.rh q hql b ho))).trans (World.cell?_alloc_past _ _ _ hb), (HC.out.frozens b o (by simp; omega) (fun ho => hr (H.out.rh q hql b ho))).trans (World.frozen?_alloc_past _ _ _ hb)⟩); have m0 : w2.cell? ⟨L.t i, 0, none⟩ = some (.pointer (some ⟨d, 0, none⟩)) := (KC.out _ _ hl (by rw [H.out.rt i hi]; omega)).1.trans h0; have m1 : w2.cell? ⟨d, 1, none⟩ = some (.slice (some ⟨L.cb, 0, none⟩) S.cur.length L.cc) := (KC.out _ _ hd (by rw [H.out.rd]; omega)).1.trans h1; have m2 : w2.cell? ⟨L.lb, q * 2 + 1, none⟩ = some (.slice (L.ha q) n (L.hc q)) := (KC.out _ _ hlb (by rw [H.out.rl]; omega)).1.trans hc1; have m3 : w2.frozen? ⟨L.lb, q * 2 + 1, none⟩ = false := (KC.out _ _ hlb (by rw [H.out.rl]; omega)).2.trans hf1; have m4 : w2.cell? ⟨L.cb, k, none⟩ = some (.int .u64 S.cur[k]) := (KC.out _ _ hcb (by rw [H.out.rc]; omega)).1.trans hcw; have m5 : w2.frozen? ⟨L.cb, k, none⟩ = false := (KC.out _ _ hcb (by rw [H.out.rc]; omega)).2.trans hcfz; have r1 : ¬ L.t i = L.lb := (fun he => by have a := H.out.rt i hi; have b := H.out.rl; rw [he] at a; omega); have r2 : ¬ d = L.lb := (fun he => by have a := H.out.rd; have b := H.out.rl; rw [he] at a; omega); have r3 : ¬ L.cb = L.lb := (fun he => by have a := H.out.rc; have b := H.out.rl; rw [he] at a; omega))
  go_end0
  have hC := HC.out
  have hsz : w.heap.size + 1 ≤ w2.heap.size := by have := hC.size; simpa using this
  have hno : ∀ b, L.role b ≠ 21 + q → ¬ OwnB (L.ha q) b := fun b hr ho => hr (H.out.rh q hql b ho)
  have hw2 : ∀ b, b < w.heap.size → L.role b ≠ 21 + q → w2.heap[b]? = w.heap[b]? := fun b hb hr => (hC.block b (by simp; omega) (hno b hr)).trans (Below.heap_alloc w _ b hb)
  have hA2 : ∀ b, OwnB A2 b → OwnB (L.ha q) b ∨ w.heap.size ≤ b := fun b hb => (HW.out b hb).imp id (fun he => by rw [he]; simp)
  have hA3 : ∀ b, OwnB A2 b → b ≠ L.lb ∧ b ≠ L.cb := by
    intro b hb
    rcases hA2 b hb with h1 | h1
    · have h2 := H.out.rh q hql b h1
      exact ⟨fun he => by have := H.out.rl; rw [← he] at this; omega, fun he => by have := H.out.rc; rw [← he] at this; omega⟩
    · exact ⟨by omega, by omega⟩
  refine ⟨rfl, L.move q A2 c2, rfl, H.out.setWrite hk HQ.out v A2 c2 ?_ ?_ hA2 ?_ hql ?_ ?_, ?_, ?_⟩
  · intro b hf hb1 hb2 hb3
    exact (Below.heap_setCell _ ⟨L.cb, k, none⟩ _ b hb2).trans ((Below.heap_setCell _ ⟨L.lb, q * 2 + 1, none⟩ _ b hb1).trans (hw2 b (H.out.fr b hf) hb3))
  · simp; omega
  · have e1 := (H.out.cur.keep (w' := w2.setCell ⟨L.lb, q * 2 + 1, none⟩ (.slice A2 (n + 1) c2)) fun b hb => by
      have hbe : L.cb = b := by simpa [OwnB] using hb
      subst hbe
      exact (Below.heap_setCell _ ⟨L.lb, q * 2 + 1, none⟩ _ _ r3).trans (hw2 _ hcb (by rw [H.out.rc]; omega))).set (j := k) (by rw [length_uints]; exact hkc) (.int .u64 v)
    rw [Nat.zero_add] at e1
    have e2 : uints (S.cur.set k v) = (uints S.cur).set k (.int .u64 v) := by simp [uints, List.map_set]
    rw [e2]
    exact e1
  · intro cs' hcs'
    have e1 : CB w2 L.lb 179 cs' := hcs'.keep (hw2 _ hlb (by rw [H.out.rl]; omega))
    have e2 := (e1.set (q * 2 + 1) (.slice A2 (n + 1) c2)).far (p := ⟨L.cb, k, none⟩) (fun he => r3 he.symm) (.int .u64 v)
    rw [HN.out, Nat.mul_comm 2 q]
    exact e2
  · have e1 := HO.out.keep (w' := (w2.setCell ⟨L.lb, q * 2 + 1, none⟩ (.slice A2 (n + 1) c2)).setCell ⟨L.cb, k, none⟩ (.int .u64 v)) fun b hb =>
      (Below.heap_setCell _ ⟨L.cb, k, none⟩ _ b (hA3 b hb).2).trans (Below.heap_setCell _ ⟨L.lb, q * 2 + 1, none⟩ _ b (hA3 b hb).1)
    rw [wcells_snoc, HN.out]
    exact e1
  · have e1 : Ch (Fp L) w w2 := ((Ch.refl (Fp L) w).alloc _).trans hC (fun b hb _ => by unfold Fp; rw [H.out.rh q hql b hb]; omega)
    exact (e1.setCell (a := ⟨L.lb, q * 2 + 1, none⟩) (.inl (by show Fp L L.lb; unfold Fp; rw [H.out.rl]; omega)) _).setCell (a := ⟨L.cb, k, none⟩) (.inl (by show Fp L L.cb; unfold Fp; rw [H.out.rc]; omega)) _
  · intro b hb
    by_cases hA' : OwnB A2 b
    · rcases hA2 b hA' with h1 | h1
      · left; unfold Fp; rw [H.out.rh q hql b h1]; omega
      · exact .inr h1
    · left
      intro h0
      apply hb
      exact (if_neg hA').trans h0

def DevS.store (S : DevS) (i : Nat) (off v : Int) : DevS := if S.cntB (S.wordB off) then (S.cnt i (S.wordB off)).write (off / 8).toNat v else S.cnt i (S.wordB off)

theorem WrPost.refl {w : World} {d : Nat} {L : Lay} {S : DevS} {w' : World} (h : Dev w' d L S) (hc : Ch (Fp L) w w') : WrPost w d L S w' := ⟨L, rfl, h, hc, fun _ h => .inl h⟩
theorem fail_lns (S : DevS) (i : Nat) (e : Int) : (S.fail i e).lns = S.lns ∧ (S.fail i e).cur = S.cur := by
  unfold DevS.fail; split <;> exact ⟨rfl, rfl⟩
theorem on_lns (S : DevS) (i : Nat) (b : Bool) : (S.on i b).lns = S.lns ∧ (S.on i b).cur = S.cur := by
  unfold DevS.on; split
  · exact fail_lns _ _ _
  · split
    · exact ⟨rfl, rfl⟩
    · exact fail_lns _ _ _
theorem cnt_lns (S : DevS) (i : Nat) (b : Bool) : (S.cnt i b).lns = S.lns ∧ (S.cnt i b).cur = S.cur := by
  unfold DevS.cnt; split
  · exact on_lns _ _ _
  · split
    · split
      · exact fail_lns _ _ _
      · exact ⟨rfl, rfl⟩
    · exact ⟨rfl, rfl⟩
theorem cntB_valid {S : DevS} {b : Bool} (h : S.cntB b = true) : b = true := by
  unfold DevS.cntB DevS.onB at h
  simp only [Bool.and_eq_true] at h
  exact h.1.2

set_option maxHeartbeats 1000000 in
theorem thStore (w : World) (d : Nat) (L : Lay) (S : DevS) (h : Dev w d L S) (i : Nat) (hi : i < 8) (off : Int) (hoff : 0 ≤ off ∧ off < 18446744073709551616) (v : Int) (hh : ∀ l ∈ S.lns, l.hist.length < 1000000) :
    Calls Try.prog 58 #[.pointer (some ⟨L.t i, 0, none⟩), .int .u64 off, .int .u64 v] w fun e w' => e = .returned (.tuple #[]) ∧ WrPost w d L (S.store i off v) w' := by
  have h0 := h.t0 hi
  have hl := h.tlt hi
  have H := Lib.hid h
  have HOF := Lib.hid hoff
  have HH := Lib.hid hh
  obtain ⟨o1, o2⟩ := hoff
  clear h hh
  obtain ⟨b, hb⟩ : ∃ b, S.wordB off = b := ⟨_, rfl⟩
  have HWD : Hid (Calls Try.prog 75 #[.pointer (some ⟨L.t i, 0, none⟩), .int .u64 off] w fun e w' => e = .returned (.bool b) ∧ w = w') := by
    have := thWord w d L S H.out i hi off HOF.out
    rwa [hb] at this
  cases hon : S.cntB b
  · have HE : Hid (S.store i off v = S.cnt i b) := by show _ = _; simp [DevS.store, hb, hon]
    have HON : Hid (Calls Try.prog 74 #[.pointer (some ⟨L.t i, 0, none⟩), .bool b] w fun e w' => e = .returned (.bool false) ∧ Dev w' d L (S.cnt i b) ∧ Ch (Fp L) w w') := by
      have := thCounted w d L S H.out i hi b
      rwa [hon] at this
    clear hb hon
    go_enter Try.func58, Try.ntmps58
    go_wp2_with (first | (go_at_call 75; refine HWD.out.mono ?_; rintro e w' ⟨rfl, rfl⟩) | (go_at_call 74; refine HON.out.mono ?_; rintro e w1 ⟨rfl, hD, hC⟩; have HD := Lib.hid hD; have HC := Lib.hid hC; clear hD hC))
    exact bodyPost_ret (v := .tuple #[]) (by simp [results, Try.results58, go_sem]) rfl (by rw [HE.out]; exact ⟨rfl, WrPost.refl HD.out HC.out⟩)
  · obtain rfl := cntB_valid hon
    obtain ⟨k, hk1, hk2, hk3⟩ := wordB_true hb o1
    have HE : Hid (S.store i off v = (S.cnt i true).write k v) := by
      show _ = _
      unfold DevS.store
      rw [hb, hon, if_pos rfl, hk2, Int.toNat_natCast]
    have HON : Hid (Calls Try.prog 74 #[.pointer (some ⟨L.t i, 0, none⟩), .bool true] w fun e w' => e = .returned (.bool true) ∧ Dev w' d L (S.cnt i true) ∧ Ch (Fp L) w w') := by
      have := thCounted w d L S H.out i hi true
      rwa [hon] at this
    have HLN := Lib.hid (cnt_lns S i true).1
    subst hk1
    clear hb hon hk2
    go_enter Try.func58, Try.ntmps58
    go_wp2_with (first | (go_at_call 75; refine HWD.out.mono ?_; rintro e w' ⟨rfl, rfl⟩) | (go_at_call 74; refine HON.out.mono ?_; rintro e w1 ⟨rfl, hD, hC⟩; have HD := Lib.hid hD; have HC := Lib.hid hC; clear hD hC))
    refine (thWrite _ d L (S.cnt i true) HD.out i hi k (by rw [HLN.out]; exact hk3) v (by rw [HLN.out]; exact HH.out)).mono ?_
    rintro e w2 ⟨rfl, L', hL, hD2, hC2, hF2⟩
    have HD2 := Lib.hid hD2
    have HC2 := Lib.hid hC2
    have HF2 := Lib.hid hF2
    have HL := Lib.hid hL
    clear hL hD2 hC2 hF2
    go_wp2
    go_end0
    rw [HE.out]
    exact ⟨rfl, L', HL.out, HD2.out, HC.out.trans HC2.out (fun _ h _ => h), fun b hb => (HF2.out b hb).imp id (fun h => Nat.le_trans HC.out.size h)⟩
end Go.Proofs.Ytlbgmoijepknbaa
