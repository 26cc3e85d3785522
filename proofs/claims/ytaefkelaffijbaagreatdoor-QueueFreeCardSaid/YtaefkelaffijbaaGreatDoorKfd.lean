/- The memory of a pool of mwcas; contracts of its small functions (merged). -/
import Derived.Test.YtaefkelaffijbaaGreatDoorKfc
import Derived.RowKit
import Derived.Laws.BitsAllLaws
import Derived.LaidEqlPtr
import Derived.Test.YtaefkelaffijbaaGreatDoorKfs
import Derived.Test.YtaefkelaffijbaaGreatDoorKfb
namespace Go.Proofs.YtaefkelaffijbaaGreatDoor
open Go.RowKit
set_option linter.unusedVariables false
set_option linter.unusedSimpArgs false
def optP (c : Option Nat) : Value := .pointer (c.map fun a => ⟨a, 0, none⟩)
@[go_sem] theorem optP_some (a : Nat) : optP (some a) = .pointer (some ⟨a, 0, none⟩) := rfl
@[go_sem] theorem optP_none : optP none = .pointer none := rfl
def ecells (es : List Ent) : List Value := es.flatMap fun e => [.int .u64 e.off, .int .u64 e.old, .int .u64 e.new, .bool e.ex]
def kints (ks : List Nat) : List Value := ks.map fun (k : Nat) => .int .i64 (k : Int)
def bools (bs : List Bool) : List Value := bs.map Value.bool
theorem length_ecells (es : List Ent) : (ecells es).length = es.length * 4 := by
 induction es with
 | nil => rfl
 | cons e es ih => rw [ecells, List.flatMap_cons, List.length_append]; change _ + (ecells es).length = _; rw [ih]; simp; omega
theorem ecells_get (es : List Ent) : ∀ (k : Nat) (h : k < es.length), (ecells es)[k * 4]? = some (.int .u64 es[k].off) ∧ (ecells es)[k * 4 + 1]? = some (.int .u64 es[k].old) ∧ (ecells es)[k * 4 + 2]? = some (.int .u64 es[k].new) ∧ (ecells es)[k * 4 + 3]? = some (.bool es[k].ex) := by
 induction es with
 | nil => intro k h; simp at h
 | cons p es ih =>
  intro k h
  cases k with
  | zero => simp [ecells]
  | succ k =>
   have := ih k (by simpa using h)
   rw [show ecells (p :: es) = .int .u64 p.off :: .int .u64 p.old :: .int .u64 p.new :: .bool p.ex :: ecells es from rfl, show (k + 1) * 4 = k * 4 + 1 + 1 + 1 + 1 by omega]
   simpa using this
/-- The cells of an operation. -/
def opcells (p : Nat) (t : Nat → Nat) (o : OpS) (ea : Option Addr) (ec : Nat) (oa : Option Addr) (oc sb sc : Nat) (pa : Option Addr) (pc : Nat) : Array Value :=
 #[.pointer (some ⟨p, 0, none⟩), .pointer (some ⟨t o.th, 0, none⟩), .int .i64 o.k, .slice ea o.es.length ec, .slice oa o.order.length oc, .slice (some ⟨sb, 0, none⟩) o.seen.length sc, .int .i64 o.loaded, .int .i64 o.stage, .slice pa o.prog.length pc, .bool o.done, .bool o.changed, .bool o.ended, .int .i64 o.err, optP o.tgt, .int .i64 o.inn, .int .i64 o.next]
/-- An operation in memory; its blocks have the role a + 3. -/
def OpM (role : Nat → Nat) (w : World) (p : Nat) (t : Nat → Nat) (a : Nat) (o : OpS) : Prop :=
 ∃ ea ec oa oc sb sc pa pc, CB w a 162 (opcells p t o ea ec oa oc sb sc pa pc) ∧ Sl 174 4 w ea o.es.length ec (ecells o.es) ∧ Sl 3 1 w oa o.order.length oc (kints o.order) ∧ IB .u64 34 w sb o.seen ∧ o.seen.length ≤ sc ∧ Sl 144 3 w pa o.prog.length pc (pcells o.prog) ∧
  role a = a + 3 ∧ role sb = a + 3 ∧ sb ≠ a ∧ (∀ b, OwnB ea b → role b = a + 3 ∧ b ≠ a ∧ b ≠ sb) ∧ (∀ b, OwnB oa b → role b = a + 3 ∧ b ≠ a ∧ b ≠ sb) ∧ ∀ b, OwnB pa b → role b = a + 3 ∧ b ≠ a ∧ b ≠ sb
/-- A pool in memory: line and lines of its region, the size of its device. -/
structure PM (role : Nat → Nat) (p d bb : Nat) (t : Nat → Nat) (line lines : Nat) (size : Int) (w : World) (σ : PwS) : Prop where
 dv : DV (fun b => role b = 1 ∨ w.heap.size ≤ b) d t w σ.dev
 pl : CB w p 152 #[.pointer (some ⟨d, 0, none⟩), .int .i64 line, .int .i64 lines, .int .u64 size, .slice (some ⟨bb, 0, none⟩) σ.busy.length σ.busy.length, optP σ.cur]
 bz : Sl 4 1 w (some ⟨bb, 0, none⟩) σ.busy.length σ.busy.length (bools σ.busy)
 rp : role p = 2
 rb : role bb = 2
 pb : p ≠ bb
 op : ∀ a o, σ.ops a = some o → OpM role w p t a o
/-- A pool; the blocks K are not its. -/
def PMx (K : Nat → Prop) (p d : Nat) (t : Nat → Nat) (line lines : Nat) (size : Int) (w : World) (σ : PwS) : Prop :=
 ∃ role bb, PM role p d bb t line lines size w σ ∧ ∀ b, K b → role b = 0 ∧ b < w.heap.size

section
variable {role role' : Nat → Nat} {K : Nat → Prop} {p d bb a line lines : Nat} {t : Nat → Nat} {size : Int} {w w' : World} {σ : PwS} {o : OpS}
theorem OpM.lt (h : OpM role w p t a o) : a < w.heap.size := by
 obtain ⟨ea, ec, oa, oc, sb, sc, pa, pc, h1, _⟩ := h
 exact h1.lt
theorem OpM.keep (h : OpM role w p t a o) (hr : ∀ b, b < w.heap.size → role b = a + 3 → role' b = a + 3) (hb : ∀ b, b < w.heap.size → role b = a + 3 → w'.heap[b]? = w.heap[b]?) : OpM role' w' p t a o := by
 obtain ⟨ea, ec, oa, oc, sb, sc, pa, pc, h1, h2, h3, h4, h4', h5, r1, r2, n1, r3, r4, r5⟩ := h
 refine ⟨ea, ec, oa, oc, sb, sc, pa, pc, h1.keep (hb a h1.lt r1), h2.keep (fun b hb' => hb b (h2.lt hb') (r3 b hb').1), h3.keep (fun b hb' => hb b (h3.lt hb') (r4 b hb').1), h4.keep (hb sb h4.lt r2), h4', h5.keep (fun b hb' => hb b (h5.lt hb') (r5 b hb').1), hr a h1.lt r1, hr sb h4.lt r2, n1, fun b hb' => ⟨hr b (h2.lt hb') (r3 b hb').1, (r3 b hb').2⟩, fun b hb' => ⟨hr b (h3.lt hb') (r4 b hb').1, (r4 b hb').2⟩, fun b hb' => ⟨hr b (h5.lt hb') (r5 b hb').1, (r5 b hb').2⟩⟩
/-- Only new memory: it may belong to others. -/
theorem PMx.bl (h : PMx K p d t line lines size w σ) (hb : Below w.heap.size w w') : PMx (fun b => K b ∨ (w.heap.size ≤ b ∧ b < w'.heap.size)) p d t line lines size w' σ := by
 obtain ⟨role, bb, h, hK⟩ := h
 have hs := hb.size
 refine ⟨fun b => if w.heap.size ≤ b then 0 else role b, bb, ⟨?_, h.pl.keep (hb.block p h.pl.lt), h.bz.keep (fun b hb' => hb.block b (h.bz.lt hb')), ?_, ?_, h.pb, fun a o ho => (h.op a o ho).keep (fun b hl hr => by rw [if_neg (by omega)]; exact hr) (fun b hl _ => hb.block b hl)⟩, fun b hk => ?_⟩
 · refine (h.dv.less hb (fun b => w.heap.size ≤ b ∧ b < w'.heap.size) (fun b hx => hx)).mono (fun b hf => ?_)
   by_cases hl : w.heap.size ≤ b
   · right
     have := hf.2
     omega
   · left
     rw [if_neg hl]
     exact hf.1.resolve_right hl
 · rw [if_neg (by have := h.pl.lt; omega)]; exact h.rp
 · rw [if_neg (by have := h.bz.lt (b := bb) (by simp [OwnB]); omega)]; exact h.rb
 · rcases hk with hk | hk
   · obtain ⟨h1, h2⟩ := hK b hk
     exact ⟨by show (if _ then _ else role b) = 0; rw [if_neg (by omega)]; exact h1, by omega⟩
   · exact ⟨if_pos hk.1, hk.2⟩
theorem PMx.less {K' : Nat → Prop} (h : PMx K p d t line lines size w σ) (hK : ∀ b, K' b → K b) : PMx K' p d t line lines size w σ := by
 obtain ⟨role, bb, h, hk⟩ := h
 exact ⟨role, bb, h, fun b hb => hk b (hK b hb)⟩
theorem PMx.bl0 (h : PMx K p d t line lines size w σ) (hb : Below w.heap.size w w') : PMx K p d t line lines size w' σ := (h.bl hb).less (fun b hk => .inl hk)
/-- A call of the device. -/
theorem pwDev {v : Value} {f : FuncId} {args : Array Value} {S' : DevS} (h : PMx K p d t line lines size w σ) (hcall : ∀ F, DV F d t w σ.dev → Calls Tryz.prog f args w fun e w' => e = .returned v ∧ DV F d t w' S' ∧ Ch F w w') :
 Calls Tryz.prog f args w fun e w' => e = .returned v ∧ PMx K p d t line lines size w' { σ with dev := S' } ∧ Ch (fun b => ¬ K b) w w' := by
 obtain ⟨role, bb, h, hK⟩ := h
 refine (hcall _ h.dv).mono ?_
 rintro e w' ⟨rfl, hD, hC⟩
 have hs := hC.size
 have hne : ∀ b, b < w.heap.size → role b ≠ 1 → w'.heap[b]? = w.heap[b]? := fun b hb hr => hC.block b hb (fun hf => hf.elim hr (fun hx => by omega))
 refine ⟨rfl, ⟨fun b => if w.heap.size ≤ b then 1 else role b, bb, ⟨hD.mono (fun b hf => ?_), h.pl.keep (hne p h.pl.lt (by rw [h.rp]; omega)), h.bz.keep (fun b hb' => hne b (h.bz.lt hb') ?_), ?_, ?_, h.pb, fun a o ho => (h.op a o ho).keep (fun b hl hr => by rw [if_neg (by omega)]; exact hr) (fun b hl hr => hne b hl (by rw [hr]; omega))⟩, fun b hk => ?_⟩, hC.mono (fun b hf hb hk => ?_)⟩
 · by_cases hl : w.heap.size ≤ b
   · left; exact if_pos hl
   · left; rw [if_neg hl]; exact hf.resolve_right hl
 · have : b = bb := by simpa [OwnB, eq_comm] using hb'
   rw [this, h.rb]; omega
 · rw [if_neg (by have := h.pl.lt; omega)]; exact h.rp
 · rw [if_neg (by have := h.bz.lt (b := bb) (by simp [OwnB]); omega)]; exact h.rb
 · obtain ⟨h1, h2⟩ := hK b hk
   exact ⟨by show (if _ then _ else role b) = 0; rw [if_neg (by omega)]; exact h1, by omega⟩
 · have := (hK b hk).1
   rcases hf with hf | hf
   · omega
   · omega
end
section
variable {role : Nat → Nat} {K F : Nat → Prop} {p d bb a line lines : Nat} {t : Nat → Nat} {size : Int} {w w' : World} {σ : PwS} {o o' : OpS} {S : DevS}
theorem DV.chLess {T X : Nat → Prop} (h : DV F d t w S) (hc : Ch T w w') (hT : ∀ b, b < w.heap.size → F b → ¬ T b) (hX : ∀ b, X b → w.heap.size ≤ b ∧ b < w'.heap.size) : DV (fun b => F b ∧ ¬ X b) d t w' S := by
 obtain ⟨h1, L, h2, h3, h4⟩ := h
 exact ⟨fun b hb' => ⟨h1 b (Nat.le_trans hc.size hb'), fun hx => by have := hX b hx; omega⟩, L, h2, h3.ch hc (fun b hb => hT b (h3.fr b hb) (h4 b hb)), fun b hb' => ⟨h4 b hb', fun hx => by have := hX b hx; have := h3.fr b hb'; omega⟩⟩
/-- The blocks of an operation, and new ones. -/
def rl (w : World) (r : Nat) (role : Nat → Nat) : Nat → Nat := fun b => if w.heap.size ≤ b then r else role b
theorem rl_old {b r : Nat} (hb : b < w.heap.size) : rl w r role b = role b := if_neg (by omega)
theorem rl_new {b r : Nat} (hb : w.heap.size ≤ b) : rl w r role b = r := if_pos hb
theorem PM.lt (h : PM role p d bb t line lines size w σ) : p < w.heap.size ∧ bb < w.heap.size := ⟨h.pl.lt, h.bz.lt (b := bb) (by simp [OwnB])⟩
/-- An operation's cells change; new blocks are its. -/
theorem PM.opSet (h : PM role p d bb t line lines size w σ) (hC : Ch (fun b => role b = a + 3) w w') (ho : OpM (rl w (a + 3) role) w' p t a o') : PM (rl w (a + 3) role) p d bb t line lines size w' (σ.setOp a o') := by
 obtain ⟨l1, l2⟩ := h.lt
 have hne : ∀ b, b < w.heap.size → role b ≠ a + 3 → w'.heap[b]? = w.heap[b]? := fun b hb hr => hC.block b hb hr
 refine ⟨?_, h.pl.keep (hne p l1 (by rw [h.rp]; omega)), h.bz.keep (fun b hb' => ?_), by rw [rl_old l1]; exact h.rp, by rw [rl_old l2]; exact h.rb, h.pb, fun b ob hb => ?_⟩
 · refine (h.dv.chLess hC (X := fun b => w.heap.size ≤ b ∧ b < w'.heap.size) (fun b hb hf => ?_) (fun b hx => hx)).mono (fun b hf => ?_)
   · rcases hf with hf | hf
     · rw [hf]; omega
     · omega
   · by_cases hl : w.heap.size ≤ b
     · right
       have := hf.2
       omega
     · left
       rw [rl_old (by omega)]
       exact hf.1.resolve_right hl
 · have : b = bb := by simpa [OwnB, eq_comm] using hb'
   rw [this]; exact hne bb l2 (by rw [h.rb]; omega)
 · have hb : (if b = a then some o' else σ.ops b) = some ob := hb
   by_cases hba : b = a
   · rw [if_pos hba] at hb
     injection hb with hb
     rw [hba, ← hb]; exact ho
   · rw [if_neg hba] at hb
     exact (h.op b ob hb).keep (fun b' hl hr => by rw [rl_old hl]; exact hr) (fun b' hl hr => hne b' hl (by rw [hr]; omega))
/-- The pool's own cells change. -/
theorem PM.plSet (h : PM role p d bb t line lines size w σ) (hC : Ch (fun b => role b = 2) w w') {cur : Option Nat} {busy : List Bool} (hl : busy.length = σ.busy.length)
 (hp : CB w' p 152 #[.pointer (some ⟨d, 0, none⟩), .int .i64 line, .int .i64 lines, .int .u64 size, .slice (some ⟨bb, 0, none⟩) σ.busy.length σ.busy.length, optP cur])
 (hb : Sl 4 1 w' (some ⟨bb, 0, none⟩) σ.busy.length σ.busy.length (bools busy)) : PM (rl w 0 role) p d bb t line lines size w' { σ with cur := cur, busy := busy } := by
 obtain ⟨l1, l2⟩ := h.lt
 have hne : ∀ b, b < w.heap.size → role b ≠ 2 → w'.heap[b]? = w.heap[b]? := fun b hb hr => hC.block b hb hr
 refine ⟨?_, by show CB w' p _ #[_, _, _, _, .slice _ busy.length busy.length, _]; rw [hl]; exact hp, by show Sl _ _ _ _ busy.length busy.length _; rw [hl]; exact hb, by rw [rl_old l1]; exact h.rp, by rw [rl_old l2]; exact h.rb, h.pb, fun b ob hb => ?_⟩
 · refine (h.dv.chLess hC (X := fun b => w.heap.size ≤ b ∧ b < w'.heap.size) (fun b hb hf => ?_) (fun b hx => hx)).mono (fun b hf => ?_)
   · rcases hf with hf | hf
     · rw [hf]; omega
     · omega
   · by_cases hl : w.heap.size ≤ b
     · right
       have := hf.2
       omega
     · left
       rw [rl_old (by omega)]
       exact hf.1.resolve_right hl
 · exact (h.op b ob hb).keep (fun b' hl hr => by rw [rl_old hl]; exact hr) (fun b' hl hr => hne b' hl (by rw [hr]; omega))
/-- What is kept of others' blocks. -/
theorem PMx.opSet (h : PM role p d bb t line lines size w σ) (hK : ∀ b, K b → role b = 0 ∧ b < w.heap.size) (hC : Ch (fun b => role b = a + 3) w w') (ho : OpM (rl w (a + 3) role) w' p t a o') :
 PMx K p d t line lines size w' (σ.setOp a o') ∧ Ch (fun b => ¬ K b) w w' := by
 have hs := hC.size
 refine ⟨⟨_, bb, h.opSet hC ho, fun b hk => ?_⟩, hC.mono fun b hb _ hk => ?_⟩
 · obtain ⟨h1, h2⟩ := hK b hk
   exact ⟨by rw [rl_old h2]; exact h1, by omega⟩
 · rw [(hK b hk).1] at hb; omega
theorem PMx.plSet (h : PM role p d bb t line lines size w σ) (hK : ∀ b, K b → role b = 0 ∧ b < w.heap.size) (hC : Ch (fun b => role b = 2) w w') {cur : Option Nat} {busy : List Bool} (hl : busy.length = σ.busy.length)
 (hp : CB w' p 152 #[.pointer (some ⟨d, 0, none⟩), .int .i64 line, .int .i64 lines, .int .u64 size, .slice (some ⟨bb, 0, none⟩) σ.busy.length σ.busy.length, optP cur])
 (hb : Sl 4 1 w' (some ⟨bb, 0, none⟩) σ.busy.length σ.busy.length (bools busy)) : PMx K p d t line lines size w' { σ with cur := cur, busy := busy } ∧ Ch (fun b => ¬ K b) w w' := by
 have hs := hC.size
 refine ⟨⟨_, bb, h.plSet hC hl hp hb, fun b hk => ?_⟩, hC.mono fun b hb _ hk => ?_⟩
 · obtain ⟨h1, h2⟩ := hK b hk
   exact ⟨by rw [rl_old h2]; exact h1, by omega⟩
 · rw [(hK b hk).1] at hb; omega
end
theorem wb_high (x s : Nat) (hx : x < 18446744073709551616) (hs : s < 64) : bits .and .u64 (x : Int) (IntKind.u64.wrap (18446744073709551615 * 2 ^ s)) = ((x / 2 ^ s * 2 ^ s : Nat) : Int) := by
 have hp : (2 : Int) ^ s = ((2 ^ s : Nat) : Int) := (Int.natCast_pow 2 s).symm
 have hlt : 2 ^ s < 2 ^ 64 := Nat.pow_lt_pow_right (by omega) hs
 have hpos := Nat.two_pow_pos s
 have e1 : IntKind.u64.wrap (18446744073709551615 * 2 ^ s) = ((18446744073709551616 - 2 ^ s : Nat) : Int) := by
  rw [hp, IntKind.wrap_u64]; omega
 rw [e1, u64_and_nat _ _ hx (by omega)]
 congr 1
 apply Nat.eq_of_testBit_eq
 intro i
 rw [Nat.testBit_and, Nat.testBit_mul_two_pow, Nat.testBit_div_two_pow]
 by_cases hi : i < 64
 · have e2 : 18446744073709551616 - 2 ^ s = (2 ^ 64 - ((2 ^ s - 1) + 1)) := by omega
   rw [e2, Nat.testBit_two_pow_sub_succ (by omega), Nat.testBit_two_pow_sub_one]
   by_cases h : s ≤ i
   · rw [show i - s + s = i by omega]
     simp [h, hi]
   · simp [h]; omega
 · have hx' : x.testBit i = false := Nat.testBit_lt_two_pow (Nat.lt_of_lt_of_le hx (by have := Nat.pow_le_pow_right (n := 2) (by omega) (show 64 ≤ i by omega); omega))
   rw [hx']
   by_cases h : s ≤ i
   · rw [show i - s + s = i by omega, hx']; simp
   · simp [h]
theorem wb_lim (x : Int) (h : 0 ≤ x ∧ x < 18446744073709551616) : bits .and .u64 x 1099511627775 = x % 1099511627776 := by
 obtain ⟨n, rfl⟩ := Int.eq_ofNat_of_zero_le h.1
 have e := u64_and_nat n 1099511627775 (by omega) (by omega)
 rw [show n &&& 1099511627775 = n % 2 ^ 40 from Nat.and_two_pow_sub_one_eq_mod n 40] at e
 have e' : bits .and .u64 (n : Int) 1099511627775 = ((n % 2 ^ 40 : Nat) : Int) := e
 rw [e']; omega
theorem wb_cnt (x : Int) (h : 0 ≤ x ∧ x < 18446744073709551616) : bits .and .u64 x 4194303 = x % 4194304 := by
 obtain ⟨n, rfl⟩ := Int.eq_ofNat_of_zero_le h.1
 have e := u64_and_nat n 4194303 (by omega) (by omega)
 rw [show n &&& 4194303 = n % 2 ^ 22 from Nat.and_two_pow_sub_one_eq_mod n 22] at e
 have e' : bits .and .u64 (n : Int) 4194303 = ((n % 2 ^ 22 : Nat) : Int) := e
 rw [e']; omega
theorem wb_busy (x : Int) (h : 0 ≤ x ∧ x < 9223372036854775808) : bits .and .u64 x 9223372036854775808 = 0 := by
 obtain ⟨n, rfl⟩ := Int.eq_ofNat_of_zero_le h.1
 have e := u64_and_nat n 9223372036854775808 (by omega) (by omega)
 rw [show n &&& 9223372036854775808 = n / 2 ^ 63 % 2 * 2 ^ 63 from nat_bit 63 n, Nat.div_eq_of_lt (by omega)] at e
 exact e
/-- Both flags. -/
theorem wb_flags (x : Int) (h : 0 ≤ x ∧ x < 18446744073709551616) : bits .and .u64 x 13835058055282163712 = x / 4611686018427387904 * 4611686018427387904 := by
 obtain ⟨n, rfl⟩ := Int.eq_ofNat_of_zero_le h.1
 have e := wb_high n 62 (by omega) (by omega)
 rw [show IntKind.u64.wrap (18446744073709551615 * 2 ^ 62) = 13835058055282163712 by rw [IntKind.wrap_u64]; rfl] at e
 exact e.trans (by omega)
theorem wb_dirty (x : Int) (h : 0 ≤ x ∧ x < 4611686018427387904) : bits .andNot .u64 x 4611686018427387904 = x := by
 obtain ⟨n, rfl⟩ := Int.eq_ofNat_of_zero_le h.1
 have e := u64_andNot_nat n 4611686018427387904 (by omega) (by omega)
 have e2 : n &&& (18446744073709551615 - 4611686018427387904) = n := by
  apply Nat.eq_of_testBit_eq
  intro i
  rw [Nat.testBit_and]
  by_cases hi : i < 62
  · have : Nat.testBit (18446744073709551615 - 4611686018427387904) i = true := by
     have : ∀ j, j < 62 → Nat.testBit (18446744073709551615 - 4611686018427387904) j = true := by decide +kernel
     exact this i hi
    rw [this, Bool.and_true]
  · rw [Nat.testBit_lt_two_pow (show n < 2 ^ i from Nat.lt_of_lt_of_le (show n < 2 ^ 62 by omega) (Nat.pow_le_pow_right (by omega) (by omega)))]
    simp
 rw [e2] at e
 exact e
theorem wb_or (v c : Int) (hv : 0 ≤ v ∧ v < 1099511627776) (hc : 0 ≤ c ∧ c < 4194304) : bits .or .u64 v (c * 1099511627776) = v + c * 1099511627776 := by
 obtain ⟨n, rfl⟩ := Int.eq_ofNat_of_zero_le hv.1
 obtain ⟨m, rfl⟩ := Int.eq_ofNat_of_zero_le hc.1
 have e := u64_or_nat n (m * 1099511627776) (by omega) (by omega)
 rw [Nat.or_comm, nat_join 40 (m * 1099511627776) n (by omega) (by omega)] at e
 rw [Int.natCast_mul m 1099511627776] at e
 have e2 : bits .or .u64 (n : Int) ((m : Int) * 1099511627776) = ((m * 1099511627776 + n : Nat) : Int) := e
 rw [e2]
 clear e e2
 omega
theorem wb_or1 (k : Nat) (h : 8 * k < 18446744073709551615) : bits .or .u64 (8 * (k : Int)) 1 = 8 * (k : Int) + 1 := by
 have e := u64_or_nat (8 * k) 1 (by omega) (by omega)
 rw [nat_join 3 (8 * k) 1 (by omega) (by omega)] at e
 have e1 : ((8 * k : Nat) : Int) = 8 * (k : Int) := by omega
 rw [e1] at e
 have e2 : bits .or .u64 (8 * (k : Int)) 1 = ((8 * k + 1 : Nat) : Int) := e
 rw [e2]; omega
/-- The status of a descriptor whose operation has succeeded. -/
theorem wb_succ (n c : Nat) (hn : n < 256) (hc : c < 4294967296) : bits .or .u64 (bits .or .u64 (bits .or .u64 3 ((n : Int) * 256)) 1836515328) ((c : Int) * 4294967296) = 3 + (n : Int) * 256 + 1836515328 + (c : Int) * 4294967296 := by
 have s1 : bits .or .u64 3 ((n : Int) * 256) = ((n * 256 + 3 : Nat) : Int) := by
  have a1 := u64_or_nat 3 (n * 256) (by omega) (by omega)
  rw [Nat.or_comm, nat_join 8 (n * 256) 3 (by omega) (by omega), Int.natCast_mul n 256] at a1
  exact a1
 have s2 : bits .or .u64 ((n * 256 + 3 : Nat) : Int) 1836515328 = ((1836515328 + (n * 256 + 3) : Nat) : Int) := by
  have a1 := u64_or_nat (n * 256 + 3) 1836515328 (by omega) (by omega)
  rw [Nat.or_comm, nat_join 16 1836515328 (n * 256 + 3) (by omega) (by omega)] at a1
  exact a1
 have s3 : bits .or .u64 ((1836515328 + (n * 256 + 3) : Nat) : Int) ((c : Int) * 4294967296) = ((c * 4294967296 + (1836515328 + (n * 256 + 3)) : Nat) : Int) := by
  have a1 := u64_or_nat (1836515328 + (n * 256 + 3)) (c * 4294967296) (by omega) (by omega)
  rw [Nat.or_comm, nat_join 32 (c * 4294967296) (1836515328 + (n * 256 + 3)) (by omega) (by omega), Int.natCast_mul c 4294967296] at a1
  exact a1
 rw [s1, s2, s3]
 clear s1 s2 s3
 omega
def entV (e : Ent) : Value := .agg #[.int .u64 e.off, .int .u64 e.old, .int .u64 e.new, .bool e.ex]
def rgV (line lines size : Int) : Value := .agg #[.int .i64 line, .int .i64 lines, .int .u64 size]
/-- Is there a region there? -/
def rgB (line lines n : Int) : Bool := decide (0 ≤ line) && (decide (4 ≤ lines) && (decide (line ≤ n) && decide (lines ≤ n - line)))
set_option maxRecDepth 100000 in
set_option maxHeartbeats 1000000 in
theorem rgValid (w : World) (line lines : Int) (n : Nat) (hn : n ≤ 100000) (hl : -9223372036854775808 ≤ line ∧ line < 9223372036854775808) (hm : -9223372036854775808 ≤ lines ∧ lines < 9223372036854775808) :
 Calls Tryz.prog 51 #[rgV line lines ((n : Int) * 64)] w fun e w' => e = .returned (.bool (rgB line lines n)) ∧ Below w.heap.size w w' := by
 obtain ⟨l1, l2⟩ := hl
 obtain ⟨m1, m2⟩ := hm
 have q2 : ((n : Int) * 64).tdiv 64 = (n : Int) := by rw [Int.tdiv_eq_ediv_of_nonneg (by omega)]; omega
 have q2' : (n : Int) * 64 / 64 = (n : Int) := by omega
 unfold rgV rgB
 by_cases c1 : 0 ≤ line
 · by_cases c2 : 4 ≤ lines
   · have e1 : IntKind.u64.wrap line = line := IntWalk.u64_in _ (by omega)
     have e2 : IntKind.u64.wrap lines = lines := IntWalk.u64_in _ (by omega)
     have c1' : line ≥ 0 := c1
     have c2' : lines ≥ 4 := c2
     by_cases c3 : line ≤ (n : Int)
     · have e3 : IntKind.u64.wrap ((n : Int) - line) = (n : Int) - line := IntWalk.u64_in _ (by omega)
       go_enter Tryz.func51, Tryz.ntmps51
       go_wp2
       go_ret
       exact ⟨by simp [c1, c2, c3] <;> omega, (by (repeat (first | with_reducible (first | exact Below.refl _ _ | refine bl_alloc ?_ _ | refine bl_drew ?_ | refine bl_drewN ?_ _ | refine bl_bx ?_ _ | exact BX.below _ | refine bl_set ?_ (by first | (exact Nat.le_refl _) | (simp; done) | (simp; omega)) _) | assumption)))⟩
     · go_enter Tryz.func51, Tryz.ntmps51
       go_wp2
       go_ret
       exact ⟨by simp [c3] <;> omega, (by (repeat (first | with_reducible (first | exact Below.refl _ _ | refine bl_alloc ?_ _ | refine bl_drew ?_ | refine bl_drewN ?_ _ | refine bl_bx ?_ _ | exact BX.below _ | refine bl_set ?_ (by first | (exact Nat.le_refl _) | (simp; done) | (simp; omega)) _) | assumption)))⟩
   · have c1' : line ≥ 0 := c1
     have c2' : ¬ lines ≥ 4 := c2
     go_enter Tryz.func51, Tryz.ntmps51
     go_wp2
     go_ret
     exact ⟨by simp [c2] <;> omega, (by (repeat (first | with_reducible (first | exact Below.refl _ _ | refine bl_alloc ?_ _ | refine bl_drew ?_ | refine bl_drewN ?_ _ | refine bl_bx ?_ _ | exact BX.below _ | refine bl_set ?_ (by first | (exact Nat.le_refl _) | (simp; done) | (simp; omega)) _) | assumption)))⟩
 · have c1' : ¬ line ≥ 0 := c1
   go_enter Tryz.func51, Tryz.ntmps51
   go_wp2
   go_ret
   exact ⟨by simp [c1] <;> omega, (by (repeat (first | with_reducible (first | exact Below.refl _ _ | refine bl_alloc ?_ _ | refine bl_drew ?_ | refine bl_drewN ?_ _ | refine bl_bx ?_ _ | exact BX.below _ | refine bl_set ?_ (by first | (exact Nat.le_refl _) | (simp; done) | (simp; omega)) _) | assumption)))⟩
set_option maxRecDepth 100000 in
set_option maxHeartbeats 1000000 in
theorem rgCount (w : World) (line : Int) (lines : Nat) (size : Int) (hl : lines < 100000) :
 Calls Tryz.prog 52 #[rgV line (lines : Int) size] w fun e w' => e = .returned (.int .i64 ((lines / 4 : Nat) : Int)) ∧ Below w.heap.size w w' := by
 have e1 : (lines : Int).tdiv 4 = (lines : Int) / 4 := Int.tdiv_eq_ediv_of_nonneg (by omega)
 have e3 : IntKind.i64.wrap ((lines : Int) / 4) = (lines : Int) / 4 := IntWalk.i64_in _ (by omega)
 unfold rgV
 go_enter Tryz.func52, Tryz.ntmps52
 go_wp2
 go_ret
 exact ⟨rfl, (by (repeat (first | with_reducible (first | exact Below.refl _ _ | refine bl_alloc ?_ _ | refine bl_drew ?_ | refine bl_drewN ?_ _ | refine bl_bx ?_ _ | exact BX.below _ | refine bl_set ?_ (by first | (exact Nat.le_refl _) | (simp; done) | (simp; omega)) _) | assumption)))⟩
set_option maxRecDepth 100000 in
theorem rgAt (w : World) (line : Nat) (lines : Int) (size : Int) (k : Nat) (hl : line + 4 * k < 100000) :
 Calls Tryz.prog 53 #[rgV (line : Int) lines size, .int .i64 (k : Int)] w fun e w' => e = .returned (.int .u64 (8 * ((8 * (line + 4 * k) : Nat) : Int))) ∧ Below w.heap.size w w' := by
 have e1 : IntKind.i64.wrap ((k : Int) * 4) = (k : Int) * 4 := IntWalk.i64_in _ (by omega)
 have e2 : IntKind.i64.wrap ((line : Int) + (k : Int) * 4) = (line : Int) + (k : Int) * 4 := IntWalk.i64_in _ (by omega)
 have e3 : IntKind.u64.wrap ((line : Int) + (k : Int) * 4) = (line : Int) + (k : Int) * 4 := IntWalk.u64_in _ (by omega)
 have e4 : IntKind.u64.wrap (((line : Int) + (k : Int) * 4) * 64) = ((line : Int) + (k : Int) * 4) * 64 := IntWalk.u64_in _ (by omega)
 have HF : Hid (8 * ((8 * (line + 4 * k) : Nat) : Int) = ((line : Int) + (k : Int) * 4) * 64) := by show _ = _; omega
 unfold rgV
 go_enter Tryz.func53, Tryz.ntmps53
 go_wp2
 go_ret
 rw [HF.out]
 exact ⟨rfl, (by (repeat (first | with_reducible (first | exact Below.refl _ _ | refine bl_alloc ?_ _ | refine bl_drew ?_ | refine bl_drewN ?_ _ | refine bl_bx ?_ _ | exact BX.below _ | refine bl_set ?_ (by first | (exact Nat.le_refl _) | (simp; done) | (simp; omega)) _) | assumption)))⟩
/-- Is it the offset of a word outside of the region? -/
def outB (line lines n : Nat) (off : Int) : Bool := decide (off % 8 = 0) && (decide (off < (n : Int) * 64) && (decide (off / 64 < (line : Int)) || decide ((line : Int) + lines ≤ off / 64)))
set_option maxRecDepth 100000 in
set_option maxHeartbeats 1000000 in
theorem rgOutside (w : World) (line lines n : Nat) (hl : line + lines < 100000) (hn : n < 100000) (off : Int) (ho : 0 ≤ off ∧ off < 18446744073709551616) :
 Calls Tryz.prog 110 #[rgV (line : Int) (lines : Int) ((n : Int) * 64), .int .u64 off] w fun e w' => e = .returned (.bool (outB line lines n off)) ∧ Below w.heap.size w w' := by
 obtain ⟨o1, o2⟩ := ho
 unfold rgV outB
 have e1 : IntKind.u64.wrap (line : Int) = (line : Int) := IntWalk.u64_in _ (by omega)
 have e2 : IntKind.u64.wrap (lines : Int) = (lines : Int) := IntWalk.u64_in _ (by omega)
 by_cases c1 : off % 8 = 0
 · have c1' : (off % 8 != 0) = false := by simpa using c1
   by_cases c2 : (n : Int) * 64 ≤ off
   · go_enter Tryz.func110, Tryz.ntmps110
     go_wp2
     go_ret
     exact ⟨by simp [c1, show ¬ off < (n : Int) * 64 by omega] <;> omega, (by (repeat (first | with_reducible (first | exact Below.refl _ _ | refine bl_alloc ?_ _ | refine bl_drew ?_ | refine bl_drewN ?_ _ | refine bl_bx ?_ _ | exact BX.below _ | refine bl_set ?_ (by first | (exact Nat.le_refl _) | (simp; done) | (simp; omega)) _) | assumption)))⟩
   · have e3 : IntKind.u64.wrap (off / 64) = off / 64 := IntWalk.u64_in _ (by omega)
     by_cases c3 : off / 64 < (line : Int)
     · go_enter Tryz.func110, Tryz.ntmps110
       go_wp2
       go_ret
       exact ⟨by simp [c1, show off < (n : Int) * 64 by omega, c3] <;> omega, (by (repeat (first | with_reducible (first | exact Below.refl _ _ | refine bl_alloc ?_ _ | refine bl_drew ?_ | refine bl_drewN ?_ _ | refine bl_bx ?_ _ | exact BX.below _ | refine bl_set ?_ (by first | (exact Nat.le_refl _) | (simp; done) | (simp; omega)) _) | assumption)))⟩
     · have e4 : IntKind.u64.wrap (off / 64 - (line : Int)) = off / 64 - (line : Int) := IntWalk.u64_in _ (by omega)
       go_enter Tryz.func110, Tryz.ntmps110
       go_wp2
       go_ret
       exact ⟨by
        have : decide (off / 64 - (line : Int) ≥ (lines : Int)) = decide ((line : Int) + lines ≤ off / 64) := by congr 1; apply propext; omega
        simp [c1, show off < (n : Int) * 64 by omega, c3, this] <;> omega, (by (repeat (first | with_reducible (first | exact Below.refl _ _ | refine bl_alloc ?_ _ | refine bl_drew ?_ | refine bl_drewN ?_ _ | refine bl_bx ?_ _ | exact BX.below _ | refine bl_set ?_ (by first | (exact Nat.le_refl _) | (simp; done) | (simp; omega)) _) | assumption)))⟩
 · have c1' : (off % 8 != 0) = true := by simpa using c1
   go_enter Tryz.func110, Tryz.ntmps110
   go_wp2
   go_ret
   exact ⟨by simp [c1] <;> omega, (by (repeat (first | with_reducible (first | exact Below.refl _ _ | refine bl_alloc ?_ _ | refine bl_drew ?_ | refine bl_drewN ?_ _ | refine bl_bx ?_ _ | exact BX.below _ | refine bl_set ?_ (by first | (exact Nat.le_refl _) | (simp; done) | (simp; omega)) _) | assumption)))⟩
/-- Can it be an entry? -/
def Ent.poss (e : Ent) : Bool := decide (e.new < 1099511627776) && (if e.ex then decide (e.old < 4611686018427387904) else decide (e.old < 1099511627776))
set_option maxRecDepth 100000 in
set_option maxHeartbeats 1000000 in
theorem entPossible (w : World) (e : Ent) (ho : 0 ≤ e.old ∧ e.old < 18446744073709551616) :
 Calls Tryz.prog 129 #[entV e] w fun r w' => r = .returned (.bool e.poss) ∧ Below w.heap.size w w' := by
 obtain ⟨off, old, new, ex⟩ := e
 unfold entV Ent.poss
 dsimp only at ho ⊢
 have hF := wb_flags old ho
 obtain ⟨o1, o2⟩ := ho
 by_cases c1 : new < 1099511627776
 · have c1' : ¬ 1099511627776 ≤ new := by omega
   cases ex with
   | true =>
    obtain ⟨z, hz⟩ : ∃ z, old / 4611686018427387904 * 4611686018427387904 = z := ⟨_, rfl⟩
    rw [hz] at hF
    have hd : (z == 0) = decide (old < 4611686018427387904) := by rw [Bool.eq_iff_iff]; simp; omega
    have HD := Lib.hid hd
    clear hd hz o1 o2
    go_enter Tryz.func129, Tryz.ntmps129
    go_wp2
    go_ret
    exact ⟨by have := HD.out; simp [c1, ← this], (by (repeat (first | with_reducible (first | exact Below.refl _ _ | refine bl_alloc ?_ _ | refine bl_drew ?_ | refine bl_drewN ?_ _ | refine bl_bx ?_ _ | exact BX.below _ | refine bl_set ?_ (by first | (exact Nat.le_refl _) | (simp; done) | (simp; omega)) _) | assumption)))⟩
   | false =>
    clear hF
    go_enter Tryz.func129, Tryz.ntmps129
    go_wp2
    go_ret
    exact ⟨by simp [c1] <;> omega, (by (repeat (first | with_reducible (first | exact Below.refl _ _ | refine bl_alloc ?_ _ | refine bl_drew ?_ | refine bl_drewN ?_ _ | refine bl_bx ?_ _ | exact BX.below _ | refine bl_set ?_ (by first | (exact Nat.le_refl _) | (simp; done) | (simp; omega)) _) | assumption)))⟩
 · have c1' : 1099511627776 ≤ new := by omega
   clear hF
   have HN : Hid ((decide (new < 1099511627776) && (if ex then decide (old < 4611686018427387904) else decide (old < 1099511627776))) = false) := by show _ = _; rw [decide_eq_false c1]; rfl
   rw [HN.out]
   go_enter Tryz.func129, Tryz.ntmps129
   go_wp2
   go_ret
   exact ⟨rfl, (by (repeat (first | with_reducible (first | exact Below.refl _ _ | refine bl_alloc ?_ _ | refine bl_drew ?_ | refine bl_drewN ?_ _ | refine bl_bx ?_ _ | exact BX.below _ | refine bl_set ?_ (by first | (exact Nat.le_refl _) | (simp; done) | (simp; omega)) _) | assumption)))⟩
set_option maxRecDepth 100000 in
set_option maxHeartbeats 1000000 in
theorem entSatisfied (w : World) (e : Ent) (raw : Int) (hr : 0 ≤ raw ∧ raw < 18446744073709551616) :
 Calls Tryz.prog 131 #[entV e, .int .u64 raw] w fun r w' => r = .returned (.bool (e.sat raw)) ∧ Below w.heap.size w w' := by
 obtain ⟨off, old, new, ex⟩ := e
 unfold entV Ent.sat
 have hF := wb_lim raw hr
 dsimp only
 cases ex with
 | true =>
  clear hF
  go_enter Tryz.func131, Tryz.ntmps131
  go_wp2
  go_ret
  exact ⟨rfl, (by (repeat (first | with_reducible (first | exact Below.refl _ _ | refine bl_alloc ?_ _ | refine bl_drew ?_ | refine bl_drewN ?_ _ | refine bl_bx ?_ _ | exact BX.below _ | refine bl_set ?_ (by first | (exact Nat.le_refl _) | (simp; done) | (simp; omega)) _) | assumption)))⟩
 | false =>
  go_enter Tryz.func131, Tryz.ntmps131
  go_wp2
  go_ret
  exact ⟨rfl, (by (repeat (first | with_reducible (first | exact Below.refl _ _ | refine bl_alloc ?_ _ | refine bl_drew ?_ | refine bl_drewN ?_ _ | refine bl_bx ?_ _ | exact BX.below _ | refine bl_set ?_ (by first | (exact Nat.le_refl _) | (simp; done) | (simp; omega)) _) | assumption)))⟩
set_option maxRecDepth 100000 in
set_option maxHeartbeats 1000000 in
theorem entAfter (w : World) (e : Ent) (raw : Int) (hn : 0 ≤ e.new ∧ e.new < 1099511627776) (hr : 0 ≤ raw ∧ raw < 4611686018427387904) :
 Calls Tryz.prog 134 #[entV e, .int .u64 raw] w fun r w' => r = .returned (.int .u64 (e.after raw)) ∧ Below w.heap.size w w' := by
 obtain ⟨off, old, new, ex⟩ := e
 unfold entV Ent.after
 dsimp only at hn ⊢
 obtain ⟨z, hz⟩ : ∃ z, raw / 1099511627776 + 1 = z := ⟨_, rfl⟩
 have e1 : IntKind.u64.wrap (raw / 1099511627776 + 1) = z := by rw [hz]; exact IntWalk.u64_in _ (by omega)
 have e2 := wb_cnt z (by omega)
 obtain ⟨y, hy⟩ : ∃ y, z % 4194304 = y := ⟨_, rfl⟩
 have hyr : 0 ≤ y ∧ y < 4194304 := by omega
 have e3 : IntKind.u64.wrap (y * 1099511627776) = y * 1099511627776 := IntWalk.u64_in _ (by omega)
 have e4 := wb_or new y hn hyr
 have HE : Hid ((raw / 1099511627776 + 1) % 4194304 = y) := by show _ = _; rw [hz, hy]
 rw [hy] at e2
 clear hz hy
 rw [HE.out]
 go_enter Tryz.func134, Tryz.ntmps134
 go_wp2
 go_ret
 exact ⟨rfl, (by (repeat (first | with_reducible (first | exact Below.refl _ _ | refine bl_alloc ?_ _ | refine bl_drew ?_ | refine bl_drewN ?_ _ | refine bl_bx ?_ _ | exact BX.below _ | refine bl_set ?_ (by first | (exact Nat.le_refl _) | (simp; done) | (simp; omega)) _) | assumption)))⟩
set_option maxRecDepth 100000 in
set_option maxHeartbeats 1000000 in
theorem pwExecute {F : Nat → Prop} {d : Nat} {t : Nat → Nat} (w : World) {S : DevS} {N : Nat} (h : DV F d t w S) (i : Nat) (hi : i < 8) (hG : Good S N) (hN : N < 1000000) (q : Ins) (ho : 0 ≤ q.2.1 ∧ q.2.1 < 18446744073709551616) (hop : 1 ≤ q.1 ∧ q.1 ≤ 3) :
 Calls Tryz.prog 108 #[.pointer (some ⟨t i, 0, none⟩), .agg #[.int .u8 q.1, .int .u64 q.2.1, .int .u64 q.2.2]] w fun e w' => e = .returned (.tuple #[]) ∧ DV F d t w' (S.exec1 i q) ∧ Ch F w w' := by
 obtain ⟨op, off, v⟩ := q
 dsimp only at ho hop ⊢
 have H := Lib.hid h
 have HG := Lib.hid hG
 have HO := Lib.hid ho
 clear h hG ho
 rcases (by omega : op = 1 ∨ op = 2 ∨ op = 3) with rfl | rfl | rfl
 · have HE : Hid (S.exec1 i (1, off, v) = S.store i off v) := by show _ = _; simp [DevS.exec1]
   go_enter Tryz.func108, Tryz.ntmps108
   go_wp2_with (first | (go_at_call 133; refine (storeV (H.out.alloc _) i hi HG.out hN off v HO.out).mono ?_; rintro e w1 ⟨rfl, hD, hC⟩; have HD := Lib.hid hD; have HC := Lib.hid hC; clear hD hC))
   go_end0
   rw [HE.out]
   exact ⟨rfl, HD.out, (Ch.of_below (bl_alloc (Below.refl _ _) _)).trans HC.out (fun _ h _ => h)⟩
 · have HE : Hid (S.exec1 i (2, off, v) = S.flush i off) := by show _ = _; simp [DevS.exec1]
   go_enter Tryz.func108, Tryz.ntmps108
   go_wp2_with (first | (go_at_call 94; refine (flushV (H.out.alloc _) i hi HG.out hN off HO.out).mono ?_; rintro e w1 ⟨rfl, hD, hC⟩; have HD := Lib.hid hD; have HC := Lib.hid hC; clear hD hC))
   go_end0
   rw [HE.out]
   exact ⟨rfl, HD.out, (Ch.of_below (bl_alloc (Below.refl _ _) _)).trans HC.out (fun _ h _ => h)⟩
 · have HE : Hid (S.exec1 i (3, off, v) = S.fence i) := by show _ = _; simp [DevS.exec1]
   go_enter Tryz.func108, Tryz.ntmps108
   go_wp2_with (first | (go_at_call 95; refine (fenceV (H.out.alloc _) i hi HG.out hN).mono ?_; rintro e w1 ⟨rfl, hD, hC⟩; have HD := Lib.hid hD; have HC := Lib.hid hC; clear hD hC))
   go_end0
   rw [HE.out]
   exact ⟨rfl, HD.out, (Ch.of_below (bl_alloc (Below.refl _ _) _)).trans HC.out (fun _ h _ => h)⟩

/-- The cells of an operation. -/
structure OpC (w : World) (p : Nat) (t : Nat → Nat) (a : Nat) (o : OpS) (ea : Option Addr) (ec : Nat) (oa : Option Addr) (oc sb sc : Nat) (pa : Option Addr) (pc : Nat) : Prop where
 c0 : w.cell? ⟨a, 0, none⟩ = some (.pointer (some ⟨p, 0, none⟩))
 c1 : w.cell? ⟨a, 1, none⟩ = some (.pointer (some ⟨t o.th, 0, none⟩))
 c2 : w.cell? ⟨a, 2, none⟩ = some (.int .i64 o.k)
 c3 : w.cell? ⟨a, 3, none⟩ = some (.slice ea o.es.length ec)
 c4 : w.cell? ⟨a, 4, none⟩ = some (.slice oa o.order.length oc)
 c5 : w.cell? ⟨a, 5, none⟩ = some (.slice (some ⟨sb, 0, none⟩) o.seen.length sc)
 c6 : w.cell? ⟨a, 6, none⟩ = some (.int .i64 o.loaded)
 c7 : w.cell? ⟨a, 7, none⟩ = some (.int .i64 o.stage)
 c8 : w.cell? ⟨a, 8, none⟩ = some (.slice pa o.prog.length pc)
 c9 : w.cell? ⟨a, 9, none⟩ = some (.bool o.done)
 c10 : w.cell? ⟨a, 10, none⟩ = some (.bool o.changed)
 c11 : w.cell? ⟨a, 11, none⟩ = some (.bool o.ended)
 c12 : w.cell? ⟨a, 12, none⟩ = some (.int .i64 o.err)
 c13 : w.cell? ⟨a, 13, none⟩ = some (optP o.tgt)
 c14 : w.cell? ⟨a, 14, none⟩ = some (.int .i64 o.inn)
 c15 : w.cell? ⟨a, 15, none⟩ = some (.int .i64 o.next)
section
variable {role : Nat → Nat} {K : Nat → Prop} {p d bb a line lines : Nat} {t : Nat → Nat} {size : Int} {w w' : World} {σ : PwS} {o : OpS}
theorem CB.opc {ea : Option Addr} {ec : Nat} {oa : Option Addr} {oc sb sc : Nat} {pa : Option Addr} {pc : Nat} (h : CB w a 162 (opcells p t o ea ec oa oc sb sc pa pc)) : OpC w p t a o ea ec oa oc sb sc pa pc :=
 ⟨h.cell 0, h.cell 1, h.cell 2, h.cell 3, h.cell 4, h.cell 5, h.cell 6, h.cell 7, h.cell 8, h.cell 9, h.cell 10, h.cell 11, h.cell 12, h.cell 13, h.cell 14, h.cell 15⟩
set_option maxRecDepth 100000 in
theorem opErr (h : OpM role w p t a o) : Calls Tryz.prog 88 #[.pointer (some ⟨a, 0, none⟩)] w fun e w' => e = .returned (.int .i64 o.err) ∧ Below w.heap.size w w' := by
 obtain ⟨ea, ec, oa, oc, sb, sc, pa, pc, h1, _⟩ := h
 have c12 := h1.opc.c12
 have HL : a < w.heap.size := h1.lt
 clear h1
 go_enter Tryz.func88, Tryz.ntmps88
 go_wp2
 go_ret
 exact ⟨rfl, (by (repeat (first | with_reducible (first | exact Below.refl _ _ | refine bl_alloc ?_ _ | refine bl_drew ?_ | refine bl_drewN ?_ _ | refine bl_bx ?_ _ | exact BX.below _ | refine bl_set ?_ (by first | (exact Nat.le_refl _) | (simp; done) | (simp; omega)) _) | assumption)))⟩
set_option maxRecDepth 100000 in
theorem opOK (h : OpM role w p t a o) : Calls Tryz.prog 90 #[.pointer (some ⟨a, 0, none⟩)] w fun e w' => e = .returned (.bool (o.ended && (decide (o.err = 0) && o.changed))) ∧ Below w.heap.size w w' := by
 obtain ⟨ea, ec, oa, oc, sb, sc, pa, pc, h1, _⟩ := h
 have c10 := h1.opc.c10
 have c11 := h1.opc.c11
 have c12 := h1.opc.c12
 have HL : a < w.heap.size := h1.lt
 clear h1
 cases he : o.ended with
 | false =>
  rw [he] at c11
  go_enter Tryz.func90, Tryz.ntmps90
  go_wp2
  go_ret
  exact ⟨rfl, (by (repeat (first | with_reducible (first | exact Below.refl _ _ | refine bl_alloc ?_ _ | refine bl_drew ?_ | refine bl_drewN ?_ _ | refine bl_bx ?_ _ | exact BX.below _ | refine bl_set ?_ (by first | (exact Nat.le_refl _) | (simp; done) | (simp; omega)) _) | assumption)))⟩
 | true =>
  rw [he] at c11
  by_cases h0 : o.err = 0
  · rw [h0] at c12 ⊢
    go_enter Tryz.func90, Tryz.ntmps90
    go_wp2
    go_ret
    exact ⟨by simp, (by (repeat (first | with_reducible (first | exact Below.refl _ _ | refine bl_alloc ?_ _ | refine bl_drew ?_ | refine bl_drewN ?_ _ | refine bl_bx ?_ _ | exact BX.below _ | refine bl_set ?_ (by first | (exact Nat.le_refl _) | (simp; done) | (simp; omega)) _) | assumption)))⟩
  · have h0' : (o.err == 0) = false := by simpa using h0
    go_enter Tryz.func90, Tryz.ntmps90
    go_wp2
    go_ret
    exact ⟨by simp [h0], (by (repeat (first | with_reducible (first | exact Below.refl _ _ | refine bl_alloc ?_ _ | refine bl_drew ?_ | refine bl_drewN ?_ _ | refine bl_bx ?_ _ | exact BX.below _ | refine bl_set ?_ (by first | (exact Nat.le_refl _) | (simp; done) | (simp; omega)) _) | assumption)))⟩
/-- Two cells of an operation change. -/
theorem OpM.set_end (h : OpM role w p t a o) (e : Int) : OpM (rl w (a + 3) role) ((w.setCell ⟨a, 11, none⟩ (.bool true)).setCell ⟨a, 12, none⟩ (.int .i64 e)) p t a { o with ended := true, err := e } := by
 obtain ⟨ea, ec, oa, oc, sb, sc, pa, pc, h1, h2, h3, h4, h4', h5, r1, r2, n1, r3, r4, r5⟩ := h
 have hC : Ch (At a) w ((w.setCell ⟨a, 11, none⟩ (.bool true)).setCell ⟨a, 12, none⟩ (.int .i64 e)) := ((Ch.refl _ _).set1 _ _).set1 _ _
 have lt : ∀ {A : Option Addr} {et : TypeId} {sz n c : Nat} {xs : List Value}, Sl et sz w A n c xs → ∀ b, OwnB A b → b < w.heap.size := fun hS b hb => hS.lt hb
 refine ⟨ea, ec, oa, oc, sb, sc, pa, pc, (h1.set _ _).set _ _, h2.ch hC (fun b hb => (r3 b hb).2.1), h3.ch hC (fun b hb => (r4 b hb).2.1), h4.ch hC n1, h4', h5.ch hC (fun b hb => (r5 b hb).2.1), by rw [rl_old h1.lt]; exact r1, by rw [rl_old h4.lt]; exact r2, n1, fun b hb => by rw [rl_old (h2.lt hb)]; exact r3 b hb, fun b hb => by rw [rl_old (h3.lt hb)]; exact r4 b hb, fun b hb => by rw [rl_old (h5.lt hb)]; exact r5 b hb⟩
end
theorem info_op : ∃ j, Tryz.prog.info? 162 = some j ∧ j.size ≠ 0 := by
 have h : (Tryz.prog.info? 162).map (fun i => decide (i.size ≠ 0)) = some true := by kernel_rfl
 cases hi : Tryz.prog.info? 162 with
 | none => rw [hi] at h; cases h
 | some j => rw [hi] at h; exact ⟨j, rfl, by simpa using h⟩
theorem eql_op_same (W : World) (a : Nat) : (binOp .eql 104 (.pointer (some ⟨a, 0, none⟩)) (.pointer (some ⟨a, 0, none⟩))).run Tryz.prog W = .ok (.bool true) W := by
 obtain ⟨j, hj, _⟩ := info_op
 exact run_eql_ptr_same W _ Tryz.underlying104 hj
theorem eql_op_nil (W : World) (a : Nat) : (binOp .eql 104 (.pointer none) (.pointer (some ⟨a, 0, none⟩))).run Tryz.prog W = .ok (.bool false) W := by
 obtain ⟨j, hj, _⟩ := info_op
 have h : ∀ d : Nat, (Op.equalIn (d + 1) 104 (.pointer none) (.pointer (some ⟨a, 0, none⟩))).run Tryz.prog W = .ok false W := fun d => by
  simp [Op.equalIn, run_underlying (show Tryz.prog.underlying 104 = some (.pointer 162) from Tryz.underlying104), sizeOf, typeInfo, hj]
 simp only [binOp]
 simp [Op.equal, Op.maxDepth, h 9999]
theorem eql_op_other {W : World} {a c : Nat} {ca cc : Array Value} (hne : c ≠ a) (hc : CB W c 162 cc) (ha : CB W a 162 ca) : (binOp .eql 104 (.pointer (some ⟨c, 0, none⟩)) (.pointer (some ⟨a, 0, none⟩))).run Tryz.prog W = .ok (.bool false) W := by
 obtain ⟨j, hj, hs⟩ := info_op
 exact run_eql_ptr_other W Tryz.underlying104 hj hs (fun he => hne (by injection he)) hc ha
section
variable {role : Nat → Nat} {K : Nat → Prop} {p d bb a c line lines : Nat} {t : Nat → Nat} {size : Int} {w w' : World} {σ : PwS} {o oc : OpS}
theorem OpM.of_cells (h : OpM role w p t a o) {o' : OpS} (hC : Ch (At a) w w') (hcb : ∀ ea ec oa oc sb sc pa pc, CB w a 162 (opcells p t o ea ec oa oc sb sc pa pc) → CB w' a 162 (opcells p t o' ea ec oa oc sb sc pa pc)) (e1 : o'.es = o.es) (e2 : o'.order = o.order) (e3 : o'.seen = o.seen) (e4 : o'.prog = o.prog) : OpM (rl w (a + 3) role) w' p t a o' := by
 obtain ⟨ea, ec, oa, oc, sb, sc, pa, pc, h1, h2, h3, h4, h4', h5, r1, r2, n1, r3, r4, r5⟩ := h
 refine ⟨ea, ec, oa, oc, sb, sc, pa, pc, hcb _ _ _ _ _ _ _ _ h1, by rw [e1]; exact h2.ch hC (fun b hb => (r3 b hb).2.1), by rw [e2]; exact h3.ch hC (fun b hb => (r4 b hb).2.1), by rw [e3]; exact h4.ch hC n1, by rw [e3]; exact h4', by rw [e4]; exact h5.ch hC (fun b hb => (r5 b hb).2.1), by rw [rl_old h1.lt]; exact r1, by rw [rl_old h4.lt]; exact r2, n1, fun b hb => by rw [rl_old (h2.lt hb)]; exact r3 b hb, fun b hb => by rw [rl_old (h3.lt hb)]; exact r4 b hb, fun b hb => by rw [rl_old (h5.lt hb)]; exact r5 b hb⟩
theorem OpM.ra (h : OpM role w p t a o) : role a = a + 3 := by
 obtain ⟨ea, ec, oa, oc, sb, sc, pa, pc, h1, h2, h3, h4, h4', h5, r1, _⟩ := h
 exact r1
theorem OpM.cb (h : OpM role w p t a o) : ∃ ea ec oa oc sb sc pa pc, CB w a 162 (opcells p t o ea ec oa oc sb sc pa pc) := by
 obtain ⟨ea, ec, oa, oc, sb, sc, pa, pc, h1, _⟩ := h
 exact ⟨_, _, _, _, _, _, _, _, h1⟩
theorem bools_set (bs : List Bool) (k : Nat) (b : Bool) : bools (bs.set k b) = (bools bs).set k (.bool b) := by simp [bools, List.map_set]
/-- The current operation is another. -/
theorem PMx.curSet (H : PMx K p d t line lines size w σ) (c : Option Nat) : PMx K p d t line lines size (w.setCell ⟨p, 5, none⟩ (optP c)) { σ with cur := c } ∧ Ch (fun b => ¬ K b) w (w.setCell ⟨p, 5, none⟩ (optP c)) := by
 obtain ⟨role, bb, h, hK⟩ := H
 have hC2 : Ch (fun b => role b = 2) w (w.setCell ⟨p, 5, none⟩ (optP c)) := (Ch.refl _ _).setCell (a := ⟨p, 5, none⟩) (.inl h.rp) _
 exact PMx.plSet h hK hC2 (busy := σ.busy) (cur := c) rfl (h.pl.set 5 _) (h.bz.ch ((Ch.refl (At p) _).set1 5 _) (fun b hb hbp => by
  have : bb = b := by simpa [OwnB] using hb
  have hbp : b = p := hbp
  exact h.pb (by rw [← hbp, this])))
theorem PMx.drew (H : PMx K p d t line lines size w σ) : PMx K p d t line lines size w.drew σ := H.bl0 (bl_drew (Below.refl _ _))
/-- An operation's flags change. -/
theorem PMx.endSet (h : PM role p d bb t line lines size w σ) (hK : ∀ b, K b → role b = 0 ∧ b < w.heap.size) (ha : σ.ops a = some o) (e : Int) (hk : o.k < σ.busy.length) :
 PMx K p d t line lines size (((w.setCell ⟨a, 11, none⟩ (.bool true)).setCell ⟨a, 12, none⟩ (.int .i64 e)).setCell ⟨bb, o.k, none⟩ (.bool false)) { σ.setOp a { o with ended := true, err := e } with busy := σ.busy.set o.k false } ∧
 Ch (fun b => ¬ K b) w (((w.setCell ⟨a, 11, none⟩ (.bool true)).setCell ⟨a, 12, none⟩ (.int .i64 e)).setCell ⟨bb, o.k, none⟩ (.bool false)) := by
 have hO := h.op a o ha
 have hr := hO.ra
 have hC1 : Ch (fun b => role b = a + 3) w ((w.setCell ⟨a, 11, none⟩ (.bool true)).setCell ⟨a, 12, none⟩ (.int .i64 e)) := ((Ch.refl _ _).setCell (a := ⟨a, 11, none⟩) (.inl hr) _).setCell (a := ⟨a, 12, none⟩) (.inl hr) _
 have h1 := h.opSet hC1 (hO.set_end e)
 obtain ⟨W, hW⟩ : ∃ W, (w.setCell ⟨a, 11, none⟩ (.bool true)).setCell ⟨a, 12, none⟩ (.int .i64 e) = W := ⟨_, rfl⟩
 rw [hW] at h1 hC1 ⊢
 have hs := hC1.size
 have hK1 : ∀ b, K b → rl w (a + 3) role b = 0 ∧ b < W.heap.size := fun b hb => ⟨by rw [rl_old (hK b hb).2]; exact (hK b hb).1, by have := (hK b hb).2; omega⟩
 have hCC : Ch (fun b => ¬ K b) w W := hC1.mono (fun b hb _ hk => by rw [(hK b hk).1] at hb; omega)
 have hbz := (h1.bz.set (j := o.k) (by simpa [bools, PwS.setOp] using hk) (.bool false))
 rw [Nat.zero_add, ← bools_set] at hbz
 have hC2 : Ch (fun b => rl w (a + 3) role b = 2) W (W.setCell ⟨bb, o.k, none⟩ (.bool false)) := (Ch.refl _ _).setCell (a := ⟨bb, o.k, none⟩) (.inl h1.rb) _
 obtain ⟨g1, g2⟩ := PMx.plSet h1 hK1 hC2 (busy := σ.busy.set o.k false) (cur := σ.cur) (by simp [PwS.setOp]) (h1.pl.far (p := ⟨bb, o.k, none⟩) h1.pb _) hbz
 exact ⟨g1, hCC.trans g2 (fun b hb _ => hb)⟩
set_option maxRecDepth 100000 in
set_option maxHeartbeats 1000000 in
theorem opEnd (H : PMx K p d t line lines size w σ) (ha : σ.ops a = some o) (hcu : ∀ c, σ.cur = some c → ∃ oc, σ.ops c = some oc) (hk : o.k < σ.busy.length) (e : Int) :
 Calls Tryz.prog 86 #[.pointer (some ⟨a, 0, none⟩), .int .i64 e] w fun r w' => r = .returned (.bool true) ∧ PMx K p d t line lines size w' (σ.fend a o e) ∧ Ch (fun b => ¬ K b) w w' := by
 obtain ⟨role, bb, h, hK⟩ := H
 have hO := h.op a o ha
 obtain ⟨ea, ec, oa, oc, sb, sc, pa, pc, h1⟩ := hO.cb
 have c0 := h1.opc.c0
 have c2 := h1.opc.c2
 have c7 := h1.opc.c7
 have c9 := h1.opc.c9
 have c11 := h1.opc.c11
 have c12 := h1.opc.c12
 have f1 := h1.frozen 11
 have f2 := h1.frozen 12
 have HLa : a < w.heap.size := h1.lt
 have HLp : p < w.heap.size := h.pl.lt
 have hpa : p ≠ a := fun he => by have := hO.ra; rw [← he, h.rp] at this; omega
 have hba : bb ≠ a := fun he => by have := hO.ra; rw [← he, h.rb] at this; omega
 have hap := hpa.symm
 have hab := hba.symm
 have hpb := h.pb
 have p4 : w.cell? ⟨p, 4, none⟩ = some (.slice (some ⟨bb, 0, none⟩) σ.busy.length σ.busy.length) := h.pl.cell 4
 have p5 : w.cell? ⟨p, 5, none⟩ = some (optP σ.cur) := h.pl.cell 5
 have f5 := h.pl.frozen 5
 have fb := h.bz.unfrozen o.k
 have bk : w.cell? ⟨bb, o.k, none⟩ = some (.bool (σ.busy.getD o.k false)) := by
  obtain ⟨g, off, hg, _, hc⟩ := h.bz.at_ (j := o.k) (by simpa [bools] using hk)
  injection hg with hg
  injection hg with e1 e2
  subst e1 e2
  rw [Nat.zero_add] at hc
  rw [hc]; simp [bools, hk]
 have HE := Lib.hid (PMx.endSet h hK ha e hk)
 have hps := fun (W : World) => eql_op_same W a
 have hpn := fun (W : World) => eql_op_nil W a
 have hcb : ∀ c, σ.cur = some c → ∃ cs, CB w c 162 cs := fun c hc => by
  obtain ⟨oc, hoc⟩ := hcu c hc
  obtain ⟨_, _, _, _, _, _, _, _, hx⟩ := (h.op c oc hoc).cb
  exact ⟨_, hx⟩
 have hrole : ∀ c, σ.cur = some c → c ≠ bb := fun c hc he => by
  obtain ⟨oc, hoc⟩ := hcu c hc
  have := (h.op c oc hoc).ra
  rw [he, h.rb] at this; omega
 have hkI : (o.k : Int) < (σ.busy.length : Int) := by omega
 have HB := Lib.hid hk
 have H1 := Lib.hid h1
 clear h hK hO h1 hk hcu
 cases hd : o.done with
 | true =>
  rw [hd] at c9
  have HF : Hid (σ.fend a o e = { σ.setOp a { o with ended := true, err := e } with busy := σ.busy.set o.k false }) := by
   show _ = _; unfold PwS.fend; rw [hd]; rfl
  clear hd hcb hrole
  go_enter Tryz.func86, Tryz.ntmps86
  go_wp2
  go_region
  go_wp2
  go_ret
  rw [HF.out]
  exact ⟨rfl, HE.out.1.drew, HE.out.2.drew⟩
 | false =>
  rw [hd] at c9
  by_cases hc : σ.cur = some a
  · rw [hc] at p5
    by_cases hs : o.stage < 2
    · have hs' : (o.stage : Int) < 2 := by omega
      have HF : Hid (σ.fend a o e = { σ.setOp a { o with ended := true, err := e } with busy := σ.busy.set o.k false, cur := none }) := by
       show _ = _; unfold PwS.fend; rw [hd, hc, if_pos (by simp [hs])]
      clear hd hc hcb hrole
      go_enter Tryz.func86, Tryz.ntmps86
      go_wp2
      go_region
      go_wp2
      go_ret
      rw [HF.out]
      exact ⟨rfl, (HE.out.1.drew.curSet none).1, HE.out.2.drew.trans (HE.out.1.drew.curSet none).2 (fun b hb _ => hb)⟩
    · have hs' : ¬ (o.stage : Int) < 2 := by omega
      have HF : Hid (σ.fend a o e = { σ.setOp a { o with ended := true, err := e } with busy := σ.busy.set o.k false }) := by
       show _ = _; unfold PwS.fend; rw [hd, hc, if_neg (by simp [hs])]
      clear hd hc hcb hrole
      go_enter Tryz.func86, Tryz.ntmps86
      go_wp2
      go_region
      go_wp2
      go_ret
      rw [HF.out]
      exact ⟨rfl, HE.out.1.drew, HE.out.2.drew⟩
  · have HF : Hid (σ.fend a o e = { σ.setOp a { o with ended := true, err := e } with busy := σ.busy.set o.k false }) := by
     show _ = _; unfold PwS.fend; rw [if_neg (by simp [hc])]
    cases hcu : σ.cur with
    | none =>
     rw [hcu] at p5
     clear hd hc hcu hcb hrole
     go_enter Tryz.func86, Tryz.ntmps86
     go_wp2
     go_region
     go_wp2
     go_ret
     rw [HF.out]
     exact ⟨rfl, HE.out.1.drew, HE.out.2.drew⟩
    | some c =>
     have hca : c ≠ a := fun he => hc (by rw [hcu, he])
     rw [hcu] at p5
     obtain ⟨cs, hcs⟩ := hcb c hcu
     have hcbb := hrole c hcu
     have hpo : (binOp .eql 104 (.pointer (some ⟨c, 0, none⟩)) (.pointer (some ⟨a, 0, none⟩))).run Tryz.prog (((w.setCell ⟨a, 11, none⟩ (.bool true)).setCell ⟨a, 12, none⟩ (.int .i64 e)).setCell ⟨bb, o.k, none⟩ (.bool false)).drew = .ok (.bool false) (((w.setCell ⟨a, 11, none⟩ (.bool true)).setCell ⟨a, 12, none⟩ (.int .i64 e)).setCell ⟨bb, o.k, none⟩ (.bool false)).drew :=
      eql_op_other hca (((hcs.far (p := ⟨a, 11, none⟩) hca _).far (p := ⟨a, 12, none⟩) hca _).far (p := ⟨bb, o.k, none⟩) hcbb _).drew (((H1.out.set 11 _).set 12 _).far (p := ⟨bb, o.k, none⟩) hab _).drew
     clear hd hc hcu hcs hcb hrole hps
     go_enter Tryz.func86, Tryz.ntmps86
     go_wp2
     go_region
     go_wp2
     go_ret
     rw [HF.out]
     exact ⟨rfl, HE.out.1.drew, HE.out.2.drew⟩
/-- An operation is finished. -/
theorem PMx.finSet (h : PM role p d bb t line lines size w σ) (hK : ∀ b, K b → role b = 0 ∧ b < w.heap.size) (ha : σ.ops a = some o) (ch : Bool) :
 PMx K p d t line lines size (((w.setCell ⟨a, 9, none⟩ (.bool true)).setCell ⟨a, 10, none⟩ (.bool ch)).setCell ⟨p, 5, none⟩ (.pointer none)) (σ.fin a o ch) ∧ Ch (fun b => ¬ K b) w (((w.setCell ⟨a, 9, none⟩ (.bool true)).setCell ⟨a, 10, none⟩ (.bool ch)).setCell ⟨p, 5, none⟩ (.pointer none)) := by
 have hO := h.op a o ha
 have hr := hO.ra
 have hC1 : Ch (fun b => role b = a + 3) w ((w.setCell ⟨a, 9, none⟩ (.bool true)).setCell ⟨a, 10, none⟩ (.bool ch)) := ((Ch.refl _ _).setCell (a := ⟨a, 9, none⟩) (.inl hr) _).setCell (a := ⟨a, 10, none⟩) (.inl hr) _
 have h1 := h.opSet hC1 (hO.of_cells (o' := { o with done := true, changed := ch }) (((Ch.refl _ _).set1 _ _).set1 _ _) (fun _ _ _ _ _ _ _ _ hcb => (hcb.set _ _).set _ _) rfl rfl rfl rfl)
 obtain ⟨W, hW⟩ : ∃ W, (w.setCell ⟨a, 9, none⟩ (.bool true)).setCell ⟨a, 10, none⟩ (.bool ch) = W := ⟨_, rfl⟩
 rw [hW] at h1 hC1 ⊢
 have hs := hC1.size
 have hK1 : ∀ b, K b → rl w (a + 3) role b = 0 ∧ b < W.heap.size := fun b hb => ⟨by rw [rl_old (hK b hb).2]; exact (hK b hb).1, by have := (hK b hb).2; omega⟩
 have hCC : Ch (fun b => ¬ K b) w W := hC1.mono (fun b hb _ hk => by rw [(hK b hk).1] at hb; omega)
 obtain ⟨g1, g2⟩ := PMx.curSet (K := K) ⟨_, bb, h1, hK1⟩ none
 exact ⟨g1, hCC.trans g2 (fun b hb _ => hb)⟩
set_option maxRecDepth 100000 in
set_option maxHeartbeats 1000000 in
theorem opFinish (H : PMx K p d t line lines size w σ) (ha : σ.ops a = some o) (ch : Bool) :
 Calls Tryz.prog 132 #[.pointer (some ⟨a, 0, none⟩), .bool ch] w fun r w' => r = .returned (.tuple #[]) ∧ PMx K p d t line lines size w' (σ.fin a o ch) ∧ Ch (fun b => ¬ K b) w w' := by
 obtain ⟨role, bb, h, hK⟩ := H
 have hO := h.op a o ha
 obtain ⟨ea, ec, oa, oc, sb, sc, pa, pc, h1⟩ := hO.cb
 have c0 := h1.opc.c0
 have c9 := h1.opc.c9
 have c10 := h1.opc.c10
 have p5 : w.cell? ⟨p, 5, none⟩ = some (optP σ.cur) := h.pl.cell 5
 have f1 := h1.frozen 9
 have f2 := h1.frozen 10
 have HLa : a < w.heap.size := h1.lt
 have HLp : p < w.heap.size := h.pl.lt
 have hpa : p ≠ a := fun he => by have := hO.ra; rw [← he, h.rp] at this; omega
 have hap := hpa.symm
 have f5 := h.pl.frozen 5
 have HE := Lib.hid (PMx.finSet h hK ha ch)
 clear h hK hO h1
 go_enter Tryz.func132, Tryz.ntmps132
 go_wp2
 go_end0
 exact ⟨rfl, HE.out⟩
end
theorem Tab.ch {w w' : World} {S : Nat → Prop} (h : Tab w) (hc : Ch S w w') (h0 : ¬ S 0) : Tab w' := ⟨Nat.lt_of_lt_of_le h.1 hc.size, fun j hj => (hc.cells 0 j h.1 h0).trans (h.2 j hj)⟩
set_option maxRecDepth 100000 in
set_option maxHeartbeats 1000000 in
theorem pwSucceeded (w : World) (hT : Tab w) (A : Option Addr) (n c : Nat) (xs : List Int) (hx : xs.length = n) (hn : n ≤ 18) (hR : Rd .u64 w A xs) (hF : Fits xs) :
 Calls Tryz.prog 127 #[.slice A n c] w fun e w' => e = .returned (.int .u64 (succW sumI xs)) ∧ w = w' := by
 have HC := Lib.hid (crcWords w hT A n c xs hx (by omega) hR hF)
 obtain ⟨m, hm, hmv⟩ : ∃ m : Nat, sumI xs = (m : Int) ∧ m < 4294967296 := by
  refine ⟨_, rfl, ?_⟩
  unfold crSum
  exact Nat.xor_lt_two_pow (n := 32) (by omega) (crW_lt _ _ (by decide) (nats_lt hF))
 have e0 : (n : Int).tdiv 3 = (n : Int) / 3 := Int.tdiv_eq_ediv_of_nonneg (by omega)
 obtain ⟨q, hq⟩ : ∃ q : Nat, n / 3 = q := ⟨_, rfl⟩
 have HQ : Hid ((n : Int) / 3 = (q : Int)) := by show _ = _; omega
 have hq6 : q ≤ 6 := by omega
 have e2 : IntKind.i64.wrap ((n : Int) / 3) = (q : Int) := by rw [HQ.out]; exact IntWalk.i64_in _ (by omega)
 have e2' : IntKind.i64.wrap (q : Int) = (q : Int) := IntWalk.i64_in _ (by omega)
 have e3 : IntKind.u64.wrap (q : Int) = (q : Int) := IntWalk.u64_in _ (by omega)
 have e4 : IntKind.u64.wrap ((q : Int) * 256) = (q : Int) * 256 := IntWalk.u64_in _ (by omega)
 have e5 : IntKind.u64.wrap ((m : Int) * 4294967296) = (m : Int) * 4294967296 := IntWalk.u64_in _ (by omega)
 have e6 : IntKind.u64.wrap (m : Int) = (m : Int) := IntWalk.u64_in _ (by omega)
 have HS : Hid (succW sumI xs = bits .or .u64 (bits .or .u64 (bits .or .u64 3 ((q : Int) * 256)) 1836515328) ((m : Int) * 4294967296)) := by
  show _ = _
  rw [wb_succ q m (by omega) hmv]
  unfold succW
  rw [hm, hx, hq]
 rw [hm] at HC
 clear hT hR hF hm hx hq
 rw [HS.out]
 go_enter Tryz.func127, Tryz.ntmps127
 go_wp2_with (go_at_call 148; refine HC.out.mono ?_; rintro e w' ⟨rfl, rfl⟩)
 go_ret
 exact ⟨rfl, rfl⟩

/-- The offset of a descriptor. -/
def atW (line : Nat) (k : Nat) : Int := 8 * ((8 * (line + 4 * k) : Nat) : Int)
theorem entW_succ (sum : List Int → Int) (es : List Ent) (seen : List Int) {k : Nat} (hk : k < es.length) (hk' : k < seen.length) : entW sum (es.take (k + 1)) (seen.take (k + 1)) = entW sum (es.take k) (seen.take k) ++ [if es[k].ex then es[k].off + 1 else es[k].off, es[k].old, es[k].after seen[k]] := by
 unfold entW
 rw [List.take_succ_eq_append_getElem hk, List.take_succ_eq_append_getElem hk', List.zip_append (by simp; omega)]
 simp [-List.take_append_getElem]
theorem chgW_succ (es : List Ent) (seen : List Int) {k : Nat} (hk : k < es.length) (hk' : k < seen.length) : chgW (es.take (k + 1)) (seen.take (k + 1)) = chgW (es.take k) (seen.take k) ++ [(es[k].off, es[k].after seen[k])] := by
 unfold chgW
 rw [List.take_succ_eq_append_getElem hk, List.take_succ_eq_append_getElem hk', List.zip_append (by simp; omega)]
 simp [-List.take_append_getElem]
theorem recW_take (b : Int) (ws : List Int) {j : Nat} (hj : j < ws.length) : (recW b ws).take (j + 1) = (recW b ws).take j ++ [(b + 64 + 8 * (j : Int), ws[j])] := by
 have hl : j < (recW b ws).length := by rw [length_recW]; exact hj
 rw [List.take_succ_eq_append_getElem hl]
 congr 2
 simp [recW]
theorem uints_app (xs ys : List Int) : uints (xs ++ ys) = uints xs ++ uints ys := by simp [uints]
/-- One entry. -/
theorem Sl.ent {w : World} {A : Option Addr} {m c : Nat} {es : List Ent} (h : Sl 174 4 w A m c (ecells es)) {k : Nat} (hk : k < es.length) :
 ∃ g off, A = some ⟨g, off, none⟩ ∧ g < w.heap.size ∧ w.cell? ⟨g, off + k * 4, none⟩ = some (.int .u64 es[k].off) ∧ w.cell? ⟨g, off + k * 4 + 1, none⟩ = some (.int .u64 es[k].old) ∧ w.cell? ⟨g, off + k * 4 + 2, none⟩ = some (.int .u64 es[k].new) ∧ w.cell? ⟨g, off + k * 4 + 3, none⟩ = some (.bool es[k].ex) := by
 obtain ⟨e1, e2, e3, e4⟩ := ecells_get es k hk
 obtain ⟨g, off, hA, hl, _⟩ := h.at_ (j := k * 4) (by rw [length_ecells]; omega)
 have c1 := h.cells _ hA _ _ e1
 have c2 := h.cells _ hA _ _ e2
 have c3 := h.cells _ hA _ _ e3
 have c4 := h.cells _ hA _ _ e4
 have h1 : ∀ j, (⟨g, off, none⟩ : Addr).add j = ⟨g, off + j, none⟩ := by intro j; unfold Addr.add; split <;> simp_all
 rw [h1] at c1 c2 c3 c4
 exact ⟨g, off, hA, hl, c1, c2, c3, c4⟩
theorem info_ent : (Tryz.prog.info? 174).map (fun i => (i.zero, i.size, i.bytes)) = some (some (.agg #[.int .u64 0, .int .u64 0, .int .u64 0, .bool false]), 4, 32) := by kernel_rfl
theorem u64_three (a b c : Int) : ∀ u ∈ ([.int .u64 a, .int .u64 b, .int .u64 c] : List Value), u.oneCell' = true := by
 intro u hu
 simp only [List.mem_cons, List.not_mem_nil, or_false] at hu
 rcases hu with rfl | rfl | rfl <;> rfl
theorem u64_two (a b : Int) : ∀ u ∈ ([.int .u64 a, .int .u64 b] : List Value), u.oneCell' = true := by
 intro u hu
 simp only [List.mem_cons, List.not_mem_nil, or_false] at hu
 rcases hu with rfl | rfl <;> rfl
section
variable {role : Nat → Nat} {K : Nat → Prop} {p d bb a line lines : Nat} {t : Nat → Nat} {size : Int} {w w2 : World} {σ : PwS} {o : OpS}
/-- The stage is stored, memory is made, the program is stored. -/
theorem PMx.enterSet (h : PM role p d bb t line lines size w σ) (hK : ∀ b, K b → role b = 0 ∧ b < w.heap.size) (ha : σ.ops a = some o) (s : Nat) (hB : Below (w.setCell ⟨a, 7, none⟩ (.int .i64 s)).heap.size (w.setCell ⟨a, 7, none⟩ (.int .i64 s)) w2)
 (A : Option Addr) (ps : List Ins) (c : Nat) (hS : Sl 144 3 w2 A ps.length c (pcells ps)) (hA : ∀ b, OwnB A b → w.heap.size ≤ b) :
 PMx K p d t line lines size (w2.setCell ⟨a, 8, none⟩ (.slice A ps.length c)) (σ.setOp a { o with stage := s, prog := ps }) ∧ Ch (fun b => ¬ K b) w (w2.setCell ⟨a, 8, none⟩ (.slice A ps.length c)) := by
 have hO := h.op a o ha
 have hr := hO.ra
 obtain ⟨ea, ec, oa, oc, sb, sc, pa, pc, h1, h2, h3, h4, h4', h5, r1, r2, n1, r3, r4, r5⟩ := hO
 have hC : Ch (At a) w (w2.setCell ⟨a, 8, none⟩ (.slice A ps.length c)) := (((Ch.refl _ _).set1 7 _).trans (Ch.of_below (S := At a) hB) (fun _ hb _ => hb)).set1 8 _
 have hs := hC.size
 have hal : a < (w.setCell ⟨a, 7, none⟩ (.int .i64 s)).heap.size := by have := h1.lt; simpa using this
 have hcb : CB (w2.setCell ⟨a, 8, none⟩ (.slice A ps.length c)) a 162 (opcells p t { o with stage := s, prog := ps } ea ec oa oc sb sc A c) := ((h1.set 7 (.int .i64 s)).keep (hB.block a hal)).set 8 _
 refine PMx.opSet h hK (hC.mono (fun b hb _ => by rw [show b = a from hb]; exact hr)) ⟨ea, ec, oa, oc, sb, sc, A, c, hcb, h2.ch hC (fun b hb => (r3 b hb).2.1), h3.ch hC (fun b hb => (r4 b hb).2.1), h4.ch hC n1, h4', hS.ch ((Ch.refl (At a) _).set1 8 _) (fun b hb hba => ?_), by rw [rl_old h1.lt]; exact r1, by rw [rl_old h4.lt]; exact r2, n1, fun b hb => by rw [rl_old (h2.lt hb)]; exact r3 b hb, fun b hb => by rw [rl_old (h3.lt hb)]; exact r4 b hb, fun b hb => ?_⟩
 · have := hA b hb
   have hba : b = a := hba
   have := h1.lt
   omega
 · have := hA b hb
   have h6 := h1.lt
   have h7 := h4.lt
   exact ⟨rl_new this, by omega, by omega⟩
/-- The stage is stored. -/
theorem PMx.stageSet (h : PM role p d bb t line lines size w σ) (hK : ∀ b, K b → role b = 0 ∧ b < w.heap.size) (ha : σ.ops a = some o) (s : Nat) :
 PMx K p d t line lines size (w.setCell ⟨a, 7, none⟩ (.int .i64 s)) (σ.setOp a { o with stage := s }) ∧ Ch (fun b => ¬ K b) w (w.setCell ⟨a, 7, none⟩ (.int .i64 s)) := by
 have hO := h.op a o ha
 exact PMx.opSet h hK ((Ch.refl _ _).setCell (a := ⟨a, 7, none⟩) (.inl hO.ra) _) (hO.of_cells (o' := { o with stage := s }) ((Ch.refl _ _).set1 _ _) (fun _ _ _ _ _ _ _ _ hcb => hcb.set _ _) rfl rfl rfl rfl)
end
end Go.Proofs.YtaefkelaffijbaaGreatDoor
