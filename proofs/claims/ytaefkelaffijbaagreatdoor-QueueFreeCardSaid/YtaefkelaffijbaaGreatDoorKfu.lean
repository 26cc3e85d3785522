/- Calls that came in (merged). -/
import Derived.Test.YtaefkelaffijbaaGreatDoorKft
import Derived.Deep.SlicePairs
import Derived.Test.YtaefkelaffijbaaGreatDoorKfk
namespace Go.Proofs.YtaefkelaffijbaaGreatDoor
open Go.RowKit
set_option linter.unusedVariables false
/-- A slice of calls that came in. -/
def IsCs (w : World) (A : Option Addr) (len cap : Nat) (cs : List (Bool × Int × Int)) : Prop :=
 cs.length = len ∧ len ≤ cap ∧ cap ≤ 9223372036854775807 ∧ (0 < len → ∃ g off, A = some ⟨g, off, none⟩ ∧ g < w.heap.size ∧ ∀ k, k < len → w.cell? ⟨g, off + k * 3, none⟩ = some (.bool (cs.getD k RC30).1) ∧ w.cell? ⟨g, off + k * 3 + 1, none⟩ = some (.int .u64 (cs.getD k RC30).2.1) ∧ w.cell? ⟨g, off + k * 3 + 2, none⟩ = some (.int .i64 (cs.getD k RC30).2.2)) ∧
 ∀ c ∈ cs, (0 ≤ c.2.1 ∧ c.2.1 < 18446744073709551616) ∧ (-9223372036854775808 ≤ c.2.2 ∧ c.2.2 < 9223372036854775808)
theorem isCs_of {P : Program} {H : Type} {enc : TypeId × Value → H} {W : World} {fuel : Nat} {A : Option Addr} {len cap : Nat} {x : DataW H × List MemPlace} {t e : TypeId} {f0 f1 f2 : Field}
 (ht : P.underlying t = some (.slice e)) (he : P.underlying e = some (.struct #[f0, f1, f2])) (ce : P.cellsOf e = 3) (o0 : f0.offset = 0) (o1 : f1.offset = 1) (o2 : f2.offset = 2)
 (c0 : P.cellsOf f0.type = 1) (c1 : P.cellsOf f1.type = 1) (c2 : P.cellsOf f2.type = 1) (u0 : P.underlying f0.type = some .bool) (u1 : P.underlying f1.type = some (.int .u64)) (u2 : P.underlying f2.type = some (.int .i64))
 (h : DataW.trod enc P W 0 (fun _ => true) true fuel t [.slice A len cap] = some x) : ∃ cs, IsCs W A len cap cs := by
 rcases Go.Deep.open_slice ht h with ⟨hcs, _⟩ | ⟨a, l, c, m, n, D, Pl, hcs, hb, hl, hm, hmm, _, hx⟩
 · simp only [List.cons.injEq, Value.slice.injEq, and_true] at hcs
   obtain ⟨rfl, rfl, rfl⟩ := hcs
   exact ⟨[], rfl, Nat.le_refl _, by omega, fun h => by omega, fun e he => by simp at he⟩
 · simp only [List.cons.injEq, Value.slice.injEq, and_true] at hcs
   obtain ⟨rfl, rfl, rfl⟩ := hcs
   simp only [if_true] at hmm
   have each : ∀ i, i < m → ∃ p : Bool × Int × Int, W.cell? (a.add (i * 3)) = some (.bool p.1) ∧ W.cell? (a.add (i * 3 + 1)) = some (.int .u64 p.2.1) ∧ W.cell? (a.add (i * 3 + 2)) = some (.int .i64 p.2.2) ∧
    (0 ≤ p.2.1 ∧ p.2.1 < 18446744073709551616) ∧ (-9223372036854775808 ≤ p.2.2 ∧ p.2.2 < 9223372036854775808) := by
    intro i hi
    obtain ⟨cs', h1, h2⟩ := hx i hi
    rw [ce] at h1
    obtain ⟨_, hlen, hcell⟩ := World.cells?_some h1
    obtain ⟨xs, k, hk, hxy, _, hxl, hf⟩ := DataW.trod_struct he h2
    match xs, hxl, cs', hlen with
    | [y0, y1, y2], _, [v0, v1, v2], _ =>
      have g0 := hf 0 f0 rfl
      have g1 := hf 1 f1 rfl
      have g2 := hf 2 f2 rfl
      simp [o0, o1, o2, c0, c1, c2] at g0 g1 g2
      have e0 := hcell 0 (by omega)
      have e1 := hcell 1 (by omega)
      have e2 := hcell 2 (by omega)
      rw [Go.Deep.add_add] at e0 e1 e2
      obtain ⟨z0, q0, _⟩ := DataW.trod_bool u0 g0
      obtain ⟨z1, q1, _, r1⟩ := DataW.trod_int u1 g1
      obtain ⟨z2, q2, _, r2⟩ := DataW.trod_int u2 g2
      simp only [List.cons.injEq, and_true] at q0 q1 q2
      subst q0 q1 q2
      exact ⟨⟨z0, z1, z2⟩, by simpa using e0, by simpa using e1, by simpa using e2, wf_u64 r1, wf_i64 r2⟩
   have : Inhabited (Bool × Int × Int) := ⟨RC30⟩
   obtain ⟨q, hq⟩ := Go.Deep.choose_lt each
   refine ⟨(List.range len).map q, by simp, hl, by unfold maxLen at hm; omega, fun hpos => ?_, fun e he => ?_⟩
   · have h00 := (hq 0 (by omega)).1
     have hx0 : a.add (0 * 3) = a := by simp [Addr.add]
     rw [hx0] at h00
     have hlt := World.block_lt_of_cell? W a h00
     obtain ⟨b, off, sp⟩ := a
     have hsp : sp = none := by
      cases sp with
      | none => rfl
      | some s =>
        unfold World.cell? at h00
        split at h00 <;> simp at h00
     subst hsp
     have h3 : ∀ i, (⟨b, off, none⟩ : Addr).add i = ⟨b, off + i, none⟩ := by intro i; unfold Addr.add; split <;> simp_all
     refine ⟨b, off, rfl, hlt, fun k hk => ?_⟩
     obtain ⟨e0, e1, e2, r1, r2⟩ := hq k (by omega)
     rw [h3] at e0 e1 e2
     have hg : ((List.range len).map q).getD k RC30 = q k := by
      rw [List.getD_eq_getElem?_getD, List.getElem?_map, List.getElem?_range hk]; rfl
     rw [hg]
     refine ⟨e0, ?_, ?_⟩
     · rw [← Nat.add_assoc] at e1; exact e1
     · rw [← Nat.add_assoc] at e2; exact e2
   · obtain ⟨k, hk, rfl⟩ := List.mem_map.1 he
     have hk' : k < len := by simpa using hk
     obtain ⟨_, _, _, r1, r2⟩ := hq k (by omega)
     exact ⟨r1, r2⟩
/-- What of it is left as a view of a run's calls. -/
theorem IsCs.lf {κ : Nat → Nat} {w w' : World} {A : Option Addr} {len cap : Nat} {cs : List (Bool × Int × Int)} (h : IsCs w A len cap cs) (hs : w.heap.size ≤ w'.heap.size) (hk : ∀ b, b < w.heap.size → κ b = 1 ∧ w'.heap[b]? = w.heap[b]?) : LfV κ w' A len cap cs := by
 refine ⟨h.1, h.2.1, fun hp => ?_⟩
 obtain ⟨g, off, e1, e2, e3⟩ := h.2.2.2.1 hp
 obtain ⟨f1, f2⟩ := hk g e2
 have hc : ∀ o, w'.cell? ⟨g, o, none⟩ = w.cell? ⟨g, o, none⟩ := fun o => by unfold World.cell?; dsimp only; rw [f2]
 exact ⟨g, off, e1, f1, Nat.lt_of_lt_of_le e2 hs, fun k hk => by rw [hc, hc, hc]; exact e3 k hk⟩
set_option linter.unusedSimpArgs false
section
variable {P W T : Nat} {q0 : List Int} {cs : List (Bool × Int × Nat)} {ms : List QM} {ord : List Nat} {σ : PwS} {L : Nat → Int}
theorem RunOk.permR (h : RunOk P q0 cs ms ord) : ord.Perm (List.range ms.length) := by
 obtain ⟨σ, T, L, lf, now, g1, _, _, g4, _⟩ := h
 exact g1.perm g4
/-- No call has found no descriptor. -/
theorem RunOk.err (h : RunOk P q0 cs ms ord) {m : QM} (hm : m ∈ ms) : ∃ v e, m.ph = .fin v e ∧ (e = 0 ∨ e = 4 ∨ e = 5) := by
 have hp := h.permR
 obtain ⟨σ, T, L, lf, now, g1, _, _, g4, _⟩ := h
 obtain ⟨i, hi⟩ := List.mem_iff_getElem?.1 hm
 have hmem : i ∈ ord := hp.mem_iff.2 (by rw [List.mem_range]; exact (List.getElem?_eq_some_iff.1 hi).1)
 obtain ⟨p, hp⟩ := List.getElem?_of_mem hmem
 refine ⟨_, _, g1.fin g4 hp hi, ?_⟩
 generalize qSt P ms q0 (ord.take p) = Q
 unfold qApp
 cases m.ins with
 | true => by_cases hc : P ≤ Q.length <;> simp [hc]
 | false => cases Q <;> simp
end
/-- A queue as Begin leaves it, behind awake. -/
theorem begQ {w w1 w2 : World} {d p q n lines N : Nat} {t : Nat → Nat} {σ : PwS} {xs : List Int} {L : Nat → Int} (hq1 : w.heap.size ≤ q) (hQ : QuM (rolB w q) p d q n lines (8 * (lines - 1)) t (fun _ => none) w1 σ) (hW : QW sumI (atW 0) n 256 (8 * (lines - 1)) [] σ [] N 0 xs L []) (hb1 : Below w.heap.size w w1) (hb2 : Below w1.heap.size w1 w2) :
 ∃ κ, QRs κ p d q n lines (8 * (lines - 1)) t w2 [] N σ xs L ∧ Below w.heap.size w w2 ∧ ∀ b, b < w.heap.size → κ b = 1 := by
 have h1 : QRs (rolB w q) p d q n lines (8 * (lines - 1)) t w1 [] N σ xs L := ⟨hQ, hW, fun b _ => rolB_le w q b⟩
 refine ⟨_, h1.ch hb2, hb1.trans (hb2.mono hb1.size), fun b hb => ?_⟩
 rw [rolN_old (Nat.lt_of_lt_of_le hb hb1.size)]
 unfold rolB
 rw [if_neg (by omega), if_pos hb]
theorem belK {κ : Nat → Nat} {w w2 w3 : World} (hb : Below w.heap.size w w2) (hk : ∀ b, b < w.heap.size → κ b = 1) (hC : Ch (fun b => κ b = 0 ∨ κ b = 2) w2 w3) : Below w.heap.size w w3 :=
 bl_ch hb hC (fun b h => by
  by_cases hlt : b < w.heap.size
  · have := hk b hlt; omega
  · omega)
/-- Machines whose calls are over, and what is told of them. -/
def MaQ (w : World) (A : Option Addr) (M : Nat) (ts : List RQ) : Prop :=
 ∀ i, i < M → (ts.getD i RQ0).err ≠ 7 ∧ ∃ gS oS g a, A = some ⟨gS, oS, none⟩ ∧ gS < w.heap.size ∧ w.cell? ⟨gS, oS + i, none⟩ = some (.pointer (some ⟨g, 0, none⟩)) ∧
  CB w g 39 #[.pointer (some ⟨a, 0, none⟩), .bool (ts.getD i RQ0).put, .int .u64 (ts.getD i RQ0).val, .int .i64 (ts.getD i RQ0).bg, .int .i64 (ts.getD i RQ0).en, .bool (ts.getD i RQ0).ended, .int .u64 (ts.getD i RQ0).got, .int .i64 (ts.getD i RQ0).err, .bool true, .bool true]
theorem MaQ.bl {w w' : World} {A : Option Addr} {M : Nat} {ts : List RQ} (h : MaQ w A M ts) (hB : Below w.heap.size w w') : MaQ w' A M ts := by
 intro i hi
 obtain ⟨h0, gS, oS, g, a, h1, h2, h3, h4⟩ := h i hi
 exact ⟨h0, gS, oS, g, a, h1, Nat.lt_of_lt_of_le h2 hB.size, (hB.cell (p := ⟨gS, oS + i, none⟩) h2).trans h3, h4.keep (hB.block g h4.lt)⟩
theorem thr_len (ms : List QM) (h : ∀ m ∈ ms, m.th < 3) : (inTh ms 0).length + (inTh ms 1).length + (inTh ms 2).length = ms.length := by
 induction ms with
 | nil => rfl
 | cons m ms ih =>
   have := ih (fun x hx => h x (by simp [hx]))
   have hm := h m (by simp)
   unfold inTh at this ⊢
   simp only [List.filter_cons, List.length_map] at this ⊢
   rcases (by omega : m.th = 0 ∨ m.th = 1 ∨ m.th = 2) with e | e | e <;> simp [e] <;> omega
theorem lf_len (cs : List (Bool × Int × Nat)) : (lfOf cs 0).length + (lfOf cs 1).length + (lfOf cs 2).length ≤ cs.length := by
 induction cs with
 | nil => exact Nat.le_refl _
 | cons c cs ih =>
   unfold lfOf at ih ⊢
   simp only [List.filter_cons, List.length_map] at ih ⊢
   by_cases e0 : c.2.2 = 0
   · simp [e0]; omega
   · by_cases e1 : c.2.2 = 1
     · simp [e1]; omega
     · by_cases e2 : c.2.2 = 2
       · simp [e2]; omega
       · simp [e0, e1, e2]; omega
/-- No more calls than were asked for. -/
theorem RunOk.len {P : Nat} {q0 : List Int} {cs : List (Bool × Int × Nat)} {ms : List QM} {ord : List Nat} (h : RunOk P q0 cs ms ord) : ms.length ≤ cs.length := by
 obtain ⟨σ, T, L, lf, now, _, g2, g3, _, _⟩ := h
 have hin : ∀ t, t < 3 → inTh ms t = lfOf cs t := fun t ht => by have := g2.seq t ht; rw [g3 t ht, List.append_nil] at this; exact this
 have h1 := thr_len ms (fun m hm => by
  obtain ⟨i, hi⟩ := List.mem_iff_getElem?.1 hm
  exact (g2.thr i m hi).1)
 rw [hin 0 (by omega), hin 1 (by omega), hin 2 (by omega)] at h1
 have := lf_len cs
 omega
end Go.Proofs.YtaefkelaffijbaaGreatDoor
