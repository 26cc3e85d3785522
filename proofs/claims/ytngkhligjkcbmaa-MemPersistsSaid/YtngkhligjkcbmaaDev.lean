/- A device in memory: its words, lines, threads and notes. -/
import Derived.Test.YtngkhligjkcbmaaProg
import Derived.Test.YtngkhligjkcbmaaHist
import Derived.Maps.OwnSet
import Derived.Maps.OwnOps
namespace Go.Proofs.Ytngkhligjkcbmaa
open Go.RowKit
set_option linter.unusedVariables false

/-- A line: how many of its stores are persistent, and the stores after these. -/
structure Ln where
  done : Int
  hist : List (Int × Int)
/-- A thread: its error, its notes, and a bound on their number. -/
structure Thr where
  err : Int
  notes : Int → Option Int
  flu : Nat
/-- A device. -/
structure DevS where
  pers : List Int
  cur : List Int
  lns : List Ln
  thr : Nat → Thr
  off : Bool
  armed : Bool
  left : Int
  exec : Int
/-- Where a device lies. -/
structure Lay where
  pb : Nat
  pc : Nat
  cb : Nat
  cc : Nat
  lb : Nat
  ha : Nat → Option Addr
  hc : Nat → Nat
  t : Nat → Nat
  m : Nat → Nat
  role : Nat → Nat

def uints (xs : List Int) : List Value := xs.map (Value.int .u64)
def wcells (ws : List (Int × Int)) : List Value := ws.flatMap fun p => [.int .u64 p.1, .int .u64 p.2]
def devCells (L : Lay) (S : DevS) : Array Value :=
  #[.slice (some ⟨L.pb, 0, none⟩) S.pers.length L.pc, .slice (some ⟨L.cb, 0, none⟩) S.cur.length L.cc, .slice (some ⟨L.lb, 0, none⟩) S.lns.length S.lns.length,
    .pointer (some ⟨L.t 0, 0, none⟩), .pointer (some ⟨L.t 1, 0, none⟩), .pointer (some ⟨L.t 2, 0, none⟩), .pointer (some ⟨L.t 3, 0, none⟩), .pointer (some ⟨L.t 4, 0, none⟩), .pointer (some ⟨L.t 5, 0, none⟩), .pointer (some ⟨L.t 6, 0, none⟩), .pointer (some ⟨L.t 7, 0, none⟩),
    .bool S.off, .bool S.armed, .int .i64 S.left, .int .u64 S.exec]
def thrCells (d : Nat) (L : Lay) (S : DevS) (i : Nat) : Array Value := #[.pointer (some ⟨d, 0, none⟩), .int .i64 (i : Int), .int .i64 (S.thr i).err, .map (some (L.m i))]

/-- A map of notes. -/
def NMap (w : World) (b : Nat) (nt : Int → Option Int) (n : Nat) : Prop :=
  ∃ D : DataW Unit, w.ownsMap Try.prog 3 (plainElem Try.prog 30) b n D ∧
    ∀ x, (Lit.int .i64 x).wf = true → Maps.has D (.int .i64 x) = (nt x).isSome ∧ ∀ c, nt x = some c → ∀ z, D.atKey (.int .i64 x) z = .lit (.int .u64 c)
theorem NMap.keep {w w' : World} {b : Nat} {nt : Int → Option Int} {n : Nat} (h : NMap w b nt n) (hb : w'.heap[b]? = w.heap[b]?) : NMap w' b nt n := by
  obtain ⟨D, ⟨es, clock, h1, r⟩, h2⟩ := h
  exact ⟨D, ⟨es, clock, hb.trans h1, r⟩, h2⟩
theorem NMap.lt {w : World} {b : Nat} {nt : Int → Option Int} {n : Nat} (h : NMap w b nt n) : b < w.heap.size := by
  obtain ⟨D, h1, _⟩ := h
  exact h1.lt

structure Dev (w : World) (d : Nat) (L : Lay) (S : DevS) : Prop where
  dev : CB w d 114 (devCells L S)
  pers : Sl 30 1 w (some ⟨L.pb, 0, none⟩) S.pers.length L.pc (uints S.pers)
  cur : Sl 30 1 w (some ⟨L.cb, 0, none⟩) S.cur.length L.cc (uints S.cur)
  np : S.pers.length = 8 * S.lns.length
  nc : S.cur.length = 8 * S.lns.length
  nl : 1 ≤ S.lns.length ∧ S.lns.length ≤ 4096
  lf : 0 ≤ S.left ∧ S.left < 9223372036854775808
  ex : 0 ≤ S.exec ∧ S.exec < 18446744073709551616
  lin : ∃ cs, CB w L.lb 142 cs ∧ cs.size = 2 * S.lns.length ∧ ∀ i (h : i < S.lns.length), cs[2 * i]? = some (.int .u64 S.lns[i].done) ∧ cs[2 * i + 1]? = some (.slice (L.ha i) S.lns[i].hist.length (L.hc i))
  his : ∀ i (h : i < S.lns.length), Sl 34 2 w (L.ha i) S.lns[i].hist.length (L.hc i) (wcells S.lns[i].hist)
  thr : ∀ i, i < 8 → CB w (L.t i) 137 (thrCells d L S i)
  nts : ∀ i, i < 8 → NMap w (L.m i) (S.thr i).notes (S.thr i).flu
  rd : L.role d = 1
  rp : L.role L.pb = 2
  rc : L.role L.cb = 3
  rl : L.role L.lb = 4
  rt : ∀ i, i < 8 → L.role (L.t i) = 5 + i
  rm : ∀ i, i < 8 → L.role (L.m i) = 13 + i
  rh : ∀ i, i < S.lns.length → ∀ b, OwnB (L.ha i) b → L.role b = 21 + i
  fr : ∀ b, L.role b ≠ 0 → b < w.heap.size

/-- The blocks of a device. -/
def Fp (L : Lay) (b : Nat) : Prop := L.role b ≠ 0

section
variable {w w' : World} {d : Nat} {L : Lay} {S : DevS}
theorem Dev.keep (h : Dev w d L S) (hb : ∀ b, Fp L b → w'.heap[b]? = w.heap[b]?) (hs : w.heap.size ≤ w'.heap.size) : Dev w' d L S where
  dev := h.dev.keep (hb d (by unfold Fp; rw [h.rd]; omega))
  pers := h.pers.keep fun b hb' => hb b (by have : L.pb = b := by simpa [OwnB] using hb'
                                            subst this; unfold Fp; rw [h.rp]; omega)
  cur := h.cur.keep fun b hb' => hb b (by have : L.cb = b := by simpa [OwnB] using hb'
                                          subst this; unfold Fp; rw [h.rc]; omega)
  np := h.np
  nc := h.nc
  nl := h.nl
  lf := h.lf
  ex := h.ex
  lin := by
    obtain ⟨cs, h1, h2⟩ := h.lin
    exact ⟨cs, h1.keep (hb _ (by unfold Fp; rw [h.rl]; omega)), h2⟩
  his := fun i hi => (h.his i hi).keep fun b hb' => hb b (by unfold Fp; rw [h.rh i hi b hb']; omega)
  thr := fun i hi => (h.thr i hi).keep (hb _ (by unfold Fp; rw [h.rt i hi]; omega))
  nts := fun i hi => (h.nts i hi).keep (hb _ (by unfold Fp; rw [h.rm i hi]; omega))
  rd := h.rd
  rp := h.rp
  rc := h.rc
  rl := h.rl
  rt := h.rt
  rm := h.rm
  rh := h.rh
  fr := fun b hb' => Nat.lt_of_lt_of_le (h.fr b hb') hs
theorem Dev.ch {T : Nat → Prop} (h : Dev w d L S) (hc : Ch T w w') (hT : ∀ b, Fp L b → ¬ T b) : Dev w' d L S := h.keep (fun b hb => hc.block b (h.fr b hb) (hT b hb)) hc.size
theorem Dev.below (h : Dev w d L S) (hb : Below w.heap.size w w') : Dev w' d L S := h.keep (fun b hb' => hb.block b (h.fr b hb')) hb.size
theorem Dev.bx (h : Dev w d L S) (x : BX w) : Dev x.w d L S := h.below x.below
theorem Dev.alloc (h : Dev w d L S) (o : Obj) : Dev (w.alloc o) d L S := h.below (bl_alloc (Below.refl _ _) _)
theorem Dev.drewN (h : Dev w d L S) (n : Nat) : Dev (w.drewN n) d L S := h.keep (fun _ _ => rfl) (Nat.le_refl _)
theorem Dev.lt (h : Dev w d L S) : d < w.heap.size := h.dev.lt
theorem Dev.tlt (h : Dev w d L S) {i : Nat} (hi : i < 8) : L.t i < w.heap.size := (h.thr i hi).lt
/-- The cell of the pointer to a thread. -/
theorem Dev.tcell (h : Dev w d L S) {i : Nat} (hi : i < 8) : w.cell? ⟨d, 3 + i, none⟩ = some (.pointer (some ⟨L.t i, 0, none⟩)) := by
  rw [h.dev.cell]
  have : i = 0 ∨ i = 1 ∨ i = 2 ∨ i = 3 ∨ i = 4 ∨ i = 5 ∨ i = 6 ∨ i = 7 := by omega
  rcases this with rfl | rfl | rfl | rfl | rfl | rfl | rfl | rfl <;> rfl
end
end Go.Proofs.Ytngkhligjkcbmaa
