/- Told and own (merged). -/
import Derived.Test.YtjaohgnloddgfaaGreatDoorKml
import Derived.Test.YtjaohgnloddgfaaGreatDoorKd
import Derived.Maps.OwnOps
import Derived.Test.YtjaohgnloddgfaaGreatDoorKmi
namespace Go.Proofs.YtjaohgnloddgfaaGreatDoor
open Go.RowKit
set_option linter.unusedVariables false
set_option linter.unusedSimpArgs false

theorem under_mapIB : Tryz.prog.underlying 90 = some (.map 3 4) := Tryz.underlying90
theorem keyedI : Maps.Keyed Tryz.prog 3 := Maps.int_keyed under_int
set_option maxRecDepth 100000 in
theorem plainElem_bool_inv17 {H : Type} {v : Value} {z : DataW H × List MemPlace} (h : plainElem Tryz.prog 4 v = some z) : ∃ b, v = .bool b ∧ z = (.lit (.bool b), []) := by
  unfold plainElem at h
  rw [Tryz.underlying4] at h
  cases v <;> simp at h
  exact ⟨_, rfl, h.symm⟩
theorem zeroB17 (w : World) : (zeroValue 4).run Tryz.prog w = .ok (.bool false) w := by kernel_rfl
/-- A set of numbers as a map of bools. -/
def BMap (w : World) (b : Nat) (S : Int → Bool) (n : Nat) : Prop :=
  ∃ D : DataW Unit, w.ownsMap Tryz.prog 3 (plainElem Tryz.prog 4) b n D ∧ ∀ x, (Lit.int .i64 x).wf = true → D.atKey (.int .i64 x) (.lit (.bool false)) = .lit (.bool (S x))
theorem BMap.keep {w w' : World} {b n : Nat} {S : Int → Bool} (h : BMap w b S n) (hb : w'.heap[b]? = w.heap[b]?) : BMap w' b S n := by
  obtain ⟨D, ⟨es, clock, h1, r⟩, h2⟩ := h
  exact ⟨D, ⟨es, clock, hb.trans h1, r⟩, h2⟩
theorem BMap.lt {w : World} {b n : Nat} {S : Int → Bool} (h : BMap w b S n) : b < w.heap.size := by
  obtain ⟨D, h1, _⟩ := h
  exact h1.lt
theorem BMap.made (w : World) : BMap (w.alloc (.map #[] 0)) w.heap.size (fun _ => false) 0 := by
  refine ⟨.map [], World.ownsMap_made w Tryz.prog 3 _, fun x hx => ?_⟩
  rfl
theorem wpList_lookup_set {w : World} {ops : Array Oper} {rest : List Oper} {o : Oper} {a : Act} {Q : Exit → Act → World → Prop}
    (hg : o.guard = none) (m x : Operand) (hop : o.op = Op.lookup 90 m x false) (b n : Nat) (S : Int → Bool)
    (hm : a.eval m = .map (some b)) (hown : BMap w b S n) (k : Int) (hx : a.eval x = .int .i64 k) (hk : (Lit.int .i64 k).wf = true)
    (hK : wpList Tryz.prog ops Q rest (a.put o.dst (.bool (S k))) w) :
    wpList Tryz.prog ops Q (o :: rest) a w := by
  refine wpList_plain hg fun K' hK' => ?_
  obtain ⟨D, hD, hS⟩ := hown
  obtain ⟨v, ps, hrun, hv⟩ := hD.lookup keyedI under_mapIB (zeroB17 w) (plainElem_bool Tryz.underlying4 false) (Maps.keyOf_int_mk under_int hk)
  obtain ⟨c, rfl, hc⟩ := plainElem_bool_inv17 hv
  rw [hS k hk] at hc
  injection hc with hc _
  injection hc with hc
  injection hc with hc
  unfold Oper.wp
  simp [execOp, hop, hm, hx, hrun, Result.andThen]
  rw [← hc]
  exact hK' _ _ hK
theorem wpList_put_set {w : World} {ops : Array Oper} {rest : List Oper} {o : Oper} {a : Act} {Q : Exit → Act → World → Prop}
    (hg : o.guard = none) (m x v : Operand) (hop : o.op = Op.mapUpdate 90 m x v) (b n : Nat) (S : Int → Bool)
    (hm : a.eval m = .map (some b)) (hown : BMap w b S n) (hn : n < maxLen) (k : Int) (hx : a.eval x = .int .i64 k) (hv : a.eval v = .bool true) (hk : (Lit.int .i64 k).wf = true)
    (hK : ∀ w', BMap w' b (fun x => if k = x then true else S x) (n + 1) → w.grownBy w' (some b) → wpList Tryz.prog ops Q rest (a.put o.dst undef) w') :
    wpList Tryz.prog ops Q (o :: rest) a w := by
  obtain ⟨D, hD, hS⟩ := hown
  refine wpList_mapUpdate_own w hg m x v 90 hop 3 4 keyedI under_mapIB _ b n D hm hD hn _ _ (.int .i64 k) hx hv (Maps.keyOf_int_mk under_int hk) _ [] (plainElem_bool Tryz.underlying4 true) ?_
  intro w' h1 h2
  refine hK w' ⟨_, h1, fun x hxw => ?_⟩ h2
  have hkl : WideAt.IsKeyLit (Lit.int .i64 k) := by simp [WideAt.IsKeyLit]
  have hM : Maps.IsMap D := hD.isMap
  by_cases hxk : k = x
  · subst hxk
    show _ = DataW.lit (Lit.bool (if k = k then true else S k))
    rw [Maps.atKey_put_same hM hkl, if_pos rfl]
  · have hne : (Lit.int .i64 x) ≠ Lit.int .i64 k := fun h => hxk (by injection h with _ h; exact h.symm)
    show _ = DataW.lit (Lit.bool (if k = x then true else S x))
    rw [Maps.atKey_put_other hne, if_neg hxk]
    exact hS x hxw
end Go.Proofs.YtjaohgnloddgfaaGreatDoor

namespace Go.Proofs.YtjaohgnloddgfaaGreatDoor
open Go.RowKit
set_option linter.unusedVariables false
set_option linter.unusedSimpArgs false

def REi := Int × Int × Int
/-- A view of entries that came in. -/
def RiV (w : World) (A : Option Addr) (m c : Nat) (l : List (Int × Int × Int)) : Prop :=
  l.length = m ∧ m ≤ c ∧ ∀ (k : Nat), k < m → ∃ g off, A = some ⟨g, off, none⟩ ∧ g < w.heap.size ∧ w.cell? ⟨g, off + k * 3, none⟩ = some (.int .i64 (l.getD k (0, 0, 0)).1) ∧ w.cell? ⟨g, off + k * 3 + 1, none⟩ = some (.int .u64 (l.getD k (0, 0, 0)).2.1) ∧ w.cell? ⟨g, off + k * 3 + 2, none⟩ = some (.int .u64 (l.getD k (0, 0, 0)).2.2)
theorem RiV.bl {w w' : World} {A : Option Addr} {m c : Nat} {es : List (Int × Int × Int)} (h : RiV w A m c es) (hB : Below w.heap.size w w') : RiV w' A m c es := by
  refine ⟨h.1, h.2.1, fun k hk => ?_⟩
  obtain ⟨g, off, hA, hl, t1, t2, t3⟩ := h.2.2 k hk
  have hc : ∀ o, w'.cell? ⟨g, o, none⟩ = w.cell? ⟨g, o, none⟩ := fun o => hB.cell (p := ⟨g, o, none⟩) hl
  exact ⟨g, off, hA, Nat.lt_of_lt_of_le hl hB.size, by rw [hc]; exact t1, by rw [hc]; exact t2, by rw [hc]; exact t3⟩
/-- The numbers are those of their types. -/
def RiW (l : List (Int × Int × Int)) : Prop := ∀ e ∈ l, (-9223372036854775808 ≤ e.1 ∧ e.1 < 9223372036854775808) ∧ (0 ≤ e.2.1 ∧ e.2.1 < 18446744073709551616) ∧ 0 ≤ e.2.2 ∧ e.2.2 < 18446744073709551616
def inE (es : List REnt) (x : Int) : Bool := es.any fun r => decide ((r.word : Int) = x)
def tdStep (out : List REnt) (e : Int × Int × Int) : List REnt := if inE out (e.1 % 8) || decide (out.length = 6) then out else out ++ [⟨(e.1 % 8).toNat, e.2.1 % 256, e.2.2 % 256⟩]
def tdEs (l : List (Int × Int × Int)) : List REnt := l.foldl tdStep []
theorem tdEs_succ (l : List (Int × Int × Int)) {j : Nat} (hj : j < l.length) : tdEs (l.take (j + 1)) = tdStep (tdEs (l.take j)) (l.getD j (0, 0, 0)) := by
  unfold tdEs
  rw [List.take_succ_eq_append_getElem hj, List.foldl_append, List.getD_eq_getElem?_getD, List.getElem?_eq_getElem hj]; rfl
theorem tdStep_ok {out : List REnt} {e : Int × Int × Int} (h : RIn out) : RIn (tdStep out e) := by
  unfold tdStep
  split
  · exact h
  · rename_i hx
    rw [Bool.not_eq_true, Bool.or_eq_false_iff, decide_eq_false_iff_not] at hx
    have hl := h.l
    refine ⟨fun x hx2 => ?_, ?_, ?_⟩
    · rcases List.mem_append.1 hx2 with h1 | h1
      · exact h.w x h1
      · rw [List.mem_singleton.1 h1]
        dsimp only
        omega
    · rw [List.map_append, List.nodup_append]
      refine ⟨h.nd, by simp, fun a ha b hb => ?_⟩
      simp only [List.map_cons, List.map_nil, List.mem_singleton] at hb
      rw [hb]
      intro hab
      obtain ⟨r, hr, hrw⟩ := List.mem_map.1 ha
      have h2 : inE out (e.1 % 8) = true := List.any_eq_true.2 ⟨r, hr, by rw [decide_eq_true_eq]; omega⟩
      rw [h2] at hx; cases hx.1
    · rw [List.length_append, List.length_singleton]; omega
theorem tdEs_ok (l : List (Int × Int × Int)) : RIn (tdEs l) := by
  have key : ∀ (l : List (Int × Int × Int)) (out : List REnt), RIn out → RIn (l.foldl tdStep out) := by
    intro l
    induction l with
    | nil => intro out h; exact h
    | cons e l ih => intro out h; exact ih _ (tdStep_ok h)
  exact key l [] ⟨fun e he => by simp at he, by simp, by simp⟩
def recells (es : List REnt) : List Value := es.flatMap fun e => [.int .i64 e.word, .int .u64 e.old, .int .u64 e.new]
theorem recells_snoc (es : List REnt) (e : REnt) : recells (es ++ [e]) = recells es ++ [.int .i64 e.word, .int .u64 e.old, .int .u64 e.new] := by simp [recells]
theorem length_recells (es : List REnt) : (recells es).length = es.length * 3 := by
  induction es with
  | nil => rfl
  | cons e es ih => rw [recells, List.flatMap_cons, List.length_append]; change _ + (recells es).length = _; rw [ih]; simp; omega
theorem recells_get (es : List REnt) : ∀ (k : Nat), k < es.length → (recells es)[k * 3]? = some (.int .i64 (es.getD k RE0).word) ∧ (recells es)[k * 3 + 1]? = some (.int .u64 (es.getD k RE0).old) ∧ (recells es)[k * 3 + 2]? = some (.int .u64 (es.getD k RE0).new) := by
  induction es with
  | nil => intro k h; simp at h
  | cons p es ih =>
    intro k h
    cases k with
    | zero => simp [recells]
    | succ k =>
      have := ih k (by simpa using h)
      rw [show recells (p :: es) = .int .i64 p.word :: .int .u64 p.old :: .int .u64 p.new :: recells es from rfl, show (k + 1) * 3 = k * 3 + 1 + 1 + 1 by omega]
      simpa using this
theorem Sl.rsV {w : World} {A : Option Addr} {n c : Nat} {es : List REnt} (h : Sl 56 3 w A n c (recells es)) : RsV w A n c es := by
  have hl := h.1
  rw [length_recells] at hl
  have hn : es.length = n := by omega
  refine ⟨hn, ?_, fun k hk => ?_⟩
  · rcases h.2 with ⟨_, h1, h2⟩ | ⟨_, _, _, _, _, h1, _⟩
    · omega
    · exact h1
  · obtain ⟨e0, e1, e2⟩ := recells_get es k (by omega)
    have hlen := length_recells es
    obtain ⟨g, off, hA, hl0, c0⟩ := h.at_ (j := k * 3) (by omega)
    obtain ⟨g1, off1, hA1, _, c1⟩ := h.at_ (j := k * 3 + 1) (by omega)
    obtain ⟨g2, off2, hA2, _, c2⟩ := h.at_ (j := k * 3 + 2) (by omega)
    rw [hA] at hA1 hA2
    injection hA1 with hA1
    injection hA1 with x1 x2
    injection hA2 with hA2
    injection hA2 with x3 x4
    subst x1 x2 x3 x4
    rw [List.getElem?_eq_getElem (by omega)] at e0 e1 e2
    injection e0 with e0
    injection e1 with e1
    injection e2 with e2
    rw [e0] at c0
    rw [e1] at c1
    rw [e2] at c2
    exact ⟨g, off, hA, hl0, c0, c1, c2⟩
end Go.Proofs.YtjaohgnloddgfaaGreatDoor

namespace Go.Proofs.YtjaohgnloddgfaaGreatDoor
open Go.RowKit
set_option linter.unusedVariables false
set_option linter.unusedSimpArgs false

/-- The record of the call so far. -/
structure TdI (w0 : World) (gr go mb : Nat) (word : Int) (es : List REnt) (A : Option Addr) (c : Nat) (wr : World) : Prop where
  cr : CB wr gr 52 #[.bool false, .int .i64 0, .slice none 0 0, .int .i64 0, .int .i64 0, .bool false, .bool false, .int .u64 0]
  co : CB wr go 52 #[.bool false, .int .i64 word, .slice A es.length c, .int .i64 0, .int .i64 0, .bool false, .bool false, .int .u64 0]
  sl : Sl 56 3 wr A es.length c (recells es)
  mp : BMap wr mb (inE es) es.length
  bl : Below w0.heap.size w0 wr
  ow : ∀ b, OwnB A b → w0.heap.size ≤ b ∧ b ≠ gr ∧ b ≠ go ∧ b ≠ mb
theorem TdI.start (w : World) (x : Obj) (word : Int) : TdI w (w.heap.size + 1) (w.heap.size + 1 + 1) (w.heap.size + 1 + 1 + 1) word [] none 0 ((((w.alloc x).alloc (.cells #[.bool false, .int .i64 0, .slice none 0 0, .int .i64 0, .int .i64 0, .bool false, .bool false, .int .u64 0] 52)).alloc (.cells #[.bool false, .int .i64 word, .slice none 0 0, .int .i64 0, .int .i64 0, .bool false, .bool false, .int .u64 0] 52)).alloc (.map #[] 0)) := by
  have q1 : ∀ (W : World) (o : Obj), (W.alloc o).heap.size = W.heap.size + 1 := by intro W o; simp
  have h2 := CB.new (w.alloc x) 52 #[.bool false, .int .i64 0, .slice none 0 0, .int .i64 0, .int .i64 0, .bool false, .bool false, .int .u64 0]
  have h3 := CB.new ((w.alloc x).alloc (.cells #[.bool false, .int .i64 0, .slice none 0 0, .int .i64 0, .int .i64 0, .bool false, .bool false, .int .u64 0] 52)) 52 #[.bool false, .int .i64 word, .slice none 0 0, .int .i64 0, .int .i64 0, .bool false, .bool false, .int .u64 0]
  have h4 := BMap.made (((w.alloc x).alloc (.cells #[.bool false, .int .i64 0, .slice none 0 0, .int .i64 0, .int .i64 0, .bool false, .bool false, .int .u64 0] 52)).alloc (.cells #[.bool false, .int .i64 word, .slice none 0 0, .int .i64 0, .int .i64 0, .bool false, .bool false, .int .u64 0] 52))
  rw [q1] at h2
  rw [q1, q1] at h3
  rw [q1, q1, q1] at h4
  exact ⟨(h2.alloc _).alloc _, h3.alloc _, Sl.nil, h4, bl_alloc (bl_alloc (bl_alloc (bl_alloc (Below.refl _ _) _) _) _) _, by simp [OwnB]⟩
theorem TdI.al {w0 : World} {gr go mb : Nat} {word : Int} {es : List REnt} {A : Option Addr} {c : Nat} {wr : World} (h : TdI w0 gr go mb word es A c wr) (o : Obj) : TdI w0 gr go mb word es A c (wr.alloc o) :=
  ⟨h.cr.alloc o, h.co.alloc o, h.sl.keep (fun b hb => Below.heap_alloc _ _ _ (h.sl.lt hb)), h.mp.keep (Below.heap_alloc _ _ _ h.mp.lt), bl_alloc h.bl _, h.ow⟩
def TdPost (w : World) (c : RCall) (e : Ending) (w' : World) : Prop := ∃ B cp, e = .returned (rcV c B c.es.length cp) ∧ RsV w' B c.es.length cp c.es ∧ Below w.heap.size w w' ∧ ∀ b, OwnB B b → w.heap.size ≤ b ∧ b < w'.heap.size
theorem info_ent17R : (Tryz.prog.info? 56).map (fun i => (i.zero, i.size, i.bytes)) = some (some (.agg #[.int .i64 0, .int .u64 0, .int .u64 0]), 3, 24) := by kernel_rfl
theorem wf_lt8 (x : Int) (h : 0 ≤ x ∧ x < 8) : (Lit.int .i64 x).wf = true := wf_mk _ _ (by show (-9223372036854775808 : Int) ≤ _; omega) (by show _ ≤ (9223372036854775807 : Int); omega)
theorem inE_snoc (es : List REnt) (w : Nat) (a b : Int) : inE (es ++ [⟨w, a, b⟩]) = fun x => if (w : Int) = x then true else inE es x := by
  funext x
  unfold inE
  rw [List.any_append]
  by_cases h : (w : Int) = x <;> simp [h]
set_option maxRecDepth 100000 in
set_option maxHeartbeats 4000000 in
theorem told17 (w : World) (th wd : Int) (A : Option Addr) (n c : Nat) (l : List (Int × Int × Int)) (hS : RiV w A n c l) (hn : n < 9223372036854775808) (hW : RiW l) (hwd : -9223372036854775808 ≤ wd ∧ wd < 9223372036854775808) :
    Calls Tryz.prog 43 #[.agg #[.int .i64 th, .int .i64 wd, .slice A n c]] w (TdPost w ⟨(tdEs l).isEmpty, (wd % 8).toNat, tdEs l, 0, 0, false, false, 0⟩) := by
  have HS := Lib.hid hS
  have HW := Lib.hid hW
  have HN : Hid (l.length = n) := hS.1
  have hmm := @run_makeMap Tryz.prog
  have HMD := Lib.hid (fun (W : World) (a : Int) (ha : -9223372036854775808 ≤ a ∧ a < 9223372036854775808) => mod17 W a ha 8 (by omega))
  clear hS hW
  go_enter Tryz.func43, Tryz.ntmps43
  go_upto_region 4 with (go_at_call 27; refine (HMD.out _ wd hwd).mono ?_; rintro e w' ⟨rfl, rfl⟩)
  have HI0 := Lib.hid (TdI.start w (.cells #[.int .i64 th, .int .i64 wd, .slice A n c] 71) (wd % 8))
  obtain ⟨gr, hgr⟩ : ∃ g, w.heap.size + 1 = g := ⟨_, rfl⟩
  obtain ⟨go, hgo⟩ : ∃ g, w.heap.size + 1 + 1 = g := ⟨_, rfl⟩
  obtain ⟨mb, hmb⟩ : ∃ g, w.heap.size + 1 + 1 + 1 = g := ⟨_, rfl⟩
  have HD : Hid (w.heap.size ≤ gr ∧ w.heap.size ≤ go ∧ w.heap.size ≤ mb ∧ gr ≠ go ∧ gr ≠ mb ∧ go ≠ mb) := by show _ ∧ _; omega
  obtain ⟨W1, hW1⟩ : ∃ W1, ((((w.alloc (.cells #[.int .i64 th, .int .i64 wd, .slice A n c] 71)).alloc (.cells #[.bool false, .int .i64 0, .slice none 0 0, .int .i64 0, .int .i64 0, .bool false, .bool false, .int .u64 0] 52)).alloc (.cells #[.bool false, .int .i64 (wd % 8), .slice none 0 0, .int .i64 0, .int .i64 0, .bool false, .bool false, .int .u64 0] 52)).alloc (.map #[] 0)) = W1 := ⟨_, rfl⟩
  rw [hW1] at HI0 ⊢
  simp only [hmb] at HI0 ⊢
  simp only [hgo] at HI0 ⊢
  simp only [hgr] at HI0 ⊢
  clear hW1 hgr hgo hmb hmm
  go_loopw [16, 6, 7, 17, 18, 19, 20, 21, 22, 23, 24, 25, 26, 27, 28, 29, 30, 31, 32, 33, 34, 35, 36, 37, 38, 39, 40, 41, 42, 43, 44, 45, 46, 47] (fun i _ _ _ _ _ _ _ _ _ _ _ _ _ _ _ _ _ _ _ _ _ _ _ _ _ _ _ _ _ _ _ _ _ wr => ∃ (j : Nat) (A' : Option Addr) (c' : Nat), j ≤ n ∧ i = .int .i64 j ∧ TdI w gr go mb (wd % 8) (tdEs (l.take j)) A' c' wr) (fun i _ _ _ _ _ _ _ _ _ _ _ _ _ _ _ _ _ _ _ _ _ _ _ _ _ _ _ _ _ _ _ _ _ _ => n - (intOf i).toNat)
  case atStart => exact ⟨0, none, 0, by omega, rfl, HI0.out⟩
  case round =>
    clear HI0
    obtain ⟨j, A', c', hj, rfl, hI⟩ := hrel
    have HI := Lib.hid hI
    by_cases hlt : j < n
    · have hlt' : (j : Int) < (n : Int) := by omega
      have hjl : j < l.length := by rw [HN.out]; exact hlt
      obtain ⟨gi, oi, hA, hgi, t0, t1, t2⟩ := (HS.out.bl hI.bl).2.2 j hlt
      have HST := Lib.hid (tdEs_succ l hjl)
      obtain ⟨r0, r1, r2⟩ := HW.out _ (getD_mem l (0, 0, 0) hjl)
      obtain ⟨e, he⟩ : ∃ e, l.getD j (0, 0, 0) = e := ⟨_, rfl⟩
      rw [he] at t0 t1 t2 HST r0 r1 r2
      obtain ⟨e0, e1, e2⟩ := e
      dsimp only at t0 t1 t2 r0 r1 r2
      subst hA
      have hout := tdEs_ok (l.take j)
      obtain ⟨out, ho⟩ : ∃ out, tdEs (l.take j) = out := ⟨_, rfl⟩
      rw [ho] at HI HST hout
      have HOUT := Lib.hid hout
      have hol := hout.l
      obtain ⟨k, hk⟩ : ∃ k, e0 % 8 = k := ⟨_, rfl⟩
      have hkr : 0 ≤ k ∧ k < 8 := by omega
      have HM : Hid (∀ W, Calls Tryz.prog 27 #[.int .i64 e0, .int .i64 8] W fun r w' => r = .returned (.int .i64 k) ∧ W = w') := fun W => by rw [← hk]; exact HMD.out W e0 r0
      have HST2 : Hid (tdEs (l.take (j + 1)) = if inE out k || decide (out.length = 6) then out else out ++ [⟨k.toNat, e1 % 256, e2 % 256⟩]) := by
        show _ = _
        rw [HST.out]; unfold tdStep; dsimp only; rw [hk]
      have hwf := wf_lt8 k hkr
      have HMP := Lib.hid HI.out.mp
      have hmbl := HI.out.mp.lt
      obtain ⟨m, hm⟩ : ∃ m, out.length = m := ⟨_, rfl⟩
      have HSL := Lib.hid HI.out.sl
      have hco := HI.out.co
      have hcr := HI.out.cr
      rw [hm] at hol hco HMP HSL HST2
      have q2 := hco.cell 2
      have z2 := hco.frozen 2
      have hgol := hco.lt
      simp only [List.getElem?_toArray, List.getElem?_cons_succ, List.getElem?_cons_zero] at q2
      obtain ⟨S, hSd⟩ : ∃ S, inE out = S := ⟨_, rfl⟩
      rw [hSd] at HMP HST2
      obtain ⟨sk, hsk⟩ : ∃ sk, S k = sk := ⟨_, rfl⟩
      rw [hsk] at HST2
      have HSK := Lib.hid hsk
      have HHM := Lib.hid hm
      have HSD := Lib.hid hSd
      clear hI he HST hout ho hsk hm hSd hcr hk r0
      have wb1 := wb_255 e1 r1
      have wb2 := wb_255 e2 r2
      cases sk with
      | true =>
        go_wp2_with (first
          | (go_at_call 27; refine (HM.out _).mono ?_; rintro e w' ⟨rfl, rfl⟩)
          | (at_lookup; refine wpList_lookup_set rfl (.tmp 23) (.tmp 24) rfl mb _ _ rfl (HMP.out.keep (Below.heap_alloc _ _ _ HMP.out.lt)) k rfl hwf ?_; rw [HSK.out]))
        refine ⟨⟨j + 1, A', c', by omega, by go_num, ?_⟩, by simp [intOf]; omega⟩
        rw [HST2.out]
        exact HI.out.al _
      | false =>
        by_cases h6 : m = 6
        · subst h6
          go_wp2_with (first
            | (go_at_call 27; refine (HM.out _).mono ?_; rintro e w' ⟨rfl, rfl⟩)
            | (at_lookup; refine wpList_lookup_set rfl (.tmp 23) (.tmp 24) rfl mb _ _ rfl (HMP.out.keep (Below.heap_alloc _ _ _ HMP.out.lt)) k rfl hwf ?_; rw [HSK.out]))
          refine ⟨⟨j + 1, A', c', by omega, by go_num, ?_⟩, by simp [intOf]; omega⟩
          rw [HST2.out]
          exact HI.out.al _
        · have hd6 : decide ((m : Int) = 6) = false := decide_eq_false (by omega)
          go_upto_region 8 with (first
            | (go_at_call 27; refine (HM.out _).mono ?_; rintro e w' ⟨rfl, rfl⟩)
            | (at_lookup; refine wpList_lookup_set rfl (.tmp 23) (.tmp 24) rfl mb _ _ rfl (HMP.out.keep (Below.heap_alloc _ _ _ HMP.out.lt)) k rfl hwf ?_; rw [HSK.out]))
          have HI2 := Lib.hid (HI.out.al (.cells #[.int .i64 e0, .int .u64 e1, .int .u64 e2] 56))
          have hcb := CB.new wr 56 #[.int .i64 e0, .int .u64 e1, .int .u64 e2]
          obtain ⟨gb, hgb⟩ : ∃ gb, wr.heap.size = gb := ⟨_, rfl⟩
          obtain ⟨W2, hW2⟩ : ∃ W2, wr.alloc (.cells #[.int .i64 e0, .int .u64 e1, .int .u64 e2] 56) = W2 := ⟨_, rfl⟩
          have hmb2 : mb < gb := by rw [← hgb]; exact hmbl
          have hgo2 : go < gb := by rw [← hgb]; exact hgol
          rw [hW2] at HI2 hcb ⊢
          rw [hgb] at hcb
          simp only [hgb]
          have hgbl := hcb.lt
          have HMP2 := Lib.hid HI2.out.mp
          rw [HHM.out, HSD.out] at HMP2
          have HCB := Lib.hid hcb
          have HLE : Hid (wr.heap.size = gb) := hgb
          have hml : m < maxLen := by show m < 9223372036854775807; omega
          clear hcb hW2 hgb q2 z2 hco HMP HI
          go_upto_region 9 with (at_mapUpdate; refine wpList_put_set rfl (.tmp 32) (.tmp 33) (.const (.bool true)) rfl mb _ _ rfl HMP2.out hml k rfl rfl hwf ?_; intro w3 hM3 hG3; have HM3 := Lib.hid hM3; have HG3 := Lib.hid hG3; clear hM3 hG3)
          have hblk : ∀ b, b < W2.heap.size → b ≠ mb → w3.heap[b]? = W2.heap[b]? := fun b hb hne => HG3.out.block b hb (by intro h; injection h with h; exact hne h)
          have hs3 : W2.heap.size ≤ w3.heap.size := HG3.out.size
          have hco3 : CB w3 go 52 #[.bool false, .int .i64 (wd % 8), .slice A' m c', .int .i64 0, .int .i64 0, .bool false, .bool false, .int .u64 0] := by
            have := HI2.out.co
            rw [HHM.out] at this
            exact this.keep (hblk go (by omega) HD.out.2.2.2.2.2)
          have hcr3 := HI2.out.cr.keep (hblk gr HI2.out.cr.lt HD.out.2.2.2.2.1)
          have hcb3 := HCB.out.keep (hblk gb hgbl (by omega))
          have HSL3 : Hid (Sl 56 3 w3 A' m c' (recells out)) := by
            have := HI2.out.sl
            rw [HHM.out] at this
            exact this.keep (fun b hb => hblk b (this.lt hb) (HI2.out.ow b hb).2.2.2)
          have HBL3 : Hid (Below w.heap.size w w3) := HI2.out.bl.grown HG3.out HI2.out.bl.size (fun b hb => by injection hb with hb; rw [← hb]; exact HD.out.2.2.1)
          have q2 := hco3.cell 2
          have z2 := hco3.frozen 2
          have p0 := hcb3.cell 0
          have p1 := hcb3.cell 1
          have p2 := hcb3.cell 2
          simp only [List.getElem?_toArray, List.getElem?_cons_succ, List.getElem?_cons_zero] at q2 p0 p1 p2
          have hgo3 := hco3.lt
          have hgb3 := hcb3.lt
          have HCO3 := Lib.hid hco3
          have HCR3 := Lib.hid hcr3
          clear hco3 hcr3 hcb3 hblk
          go_wp2_with (at_builtin; refine wpList_append_sl rfl (.tmp 35) (.tmp 44) 50 rfl 56 (.agg #[.int .i64 0, .int .u64 0, .int .u64 0]) 3 24 rfl (by omega) Tryz.underlying50 info_ent17R (by omega) A' m c' (recells out) ⟨w3.heap.size, 0, none⟩ 1 1 [.int .i64 k, .int .u64 (e1 % 256), .int .u64 (e2 % 256)] rfl rfl (HSL3.out.keep (fun b hb => Below.heap_alloc _ _ _ (HSL3.out.lt hb))) rfl (by omega) (cells_three w3 56 _ _ _) (fun u hu => by simp at hu; rcases hu with rfl | rfl | rfl <;> rfl) (by omega) ?_; intro A4 c4 w4 HO4 HC4 HW4 HG4; have s2 : w4.cell? ⟨go, 2, none⟩ = some (.slice A' m c') := ((HC4.out.cells go 2 (by simp; omega) (fun ho => (HI2.out.ow go ho).2.2.1 rfl)).trans ((Below.cell (bl_alloc (Below.refl _ _) _ : Below w3.heap.size w3 _) (p := ⟨go, 2, none⟩) hgo3).trans q2)); have s3 : go < w4.heap.size := (by have := HC4.out.size; simp at this; omega); have z4 : w4.frozen? ⟨go, 2, none⟩ = false := ((HCO3.out.alloc (.cells #[.int .i64 k, .int .u64 (e1 % 256), .int .u64 (e2 % 256)] 56)).keep (HC4.out.block go (by simp; omega) (fun ho => (HI2.out.ow go ho).2.2.1 rfl))).frozen 2)
          have hk4 : ∀ b, b < w3.heap.size → ¬ OwnB A' b → w4.heap[b]? = w3.heap[b]? := fun b hb hn => (HC4.out.block b (by simp; omega) hn).trans (Below.heap_alloc _ _ _ hb)
          have hnw : ∀ b, OwnB A4 b → w.heap.size ≤ b ∧ b ≠ gr ∧ b ≠ go ∧ b ≠ mb := fun b hb => by
            rcases HW4.out b hb with h | h
            · exact HI2.out.ow b h
            · have l1 := HCR3.out.lt
              have l2 := HM3.out.lt
              have l3 := HBL3.out.size
              rw [h]; simp; omega
          have hke : (k.toNat : Int) = k := by omega
          refine ⟨⟨j + 1, A4, c4, by omega, by go_num, ?_⟩, by simp [intOf]; omega⟩
          have hd6' : decide (m = 6) = false := decide_eq_false h6
          rw [HST2.out, hd6']
          simp only [Bool.or_false, Bool.false_eq_true, if_false]
          have hlen : (out ++ [(⟨k.toNat, e1 % 256, e2 % 256⟩ : REnt)]).length = m + 1 := by rw [List.length_append, HHM.out]; rfl
          refine ⟨?_, ?_, ?_, ?_, ?_, hnw⟩
          · exact (HCR3.out.keep (hk4 gr HCR3.out.lt (fun ho => (HI2.out.ow gr ho).2.1 rfl))).keep (Below.heap_setCell _ _ _ _ HD.out.2.2.2.1)
          · rw [hlen]
            exact (HCO3.out.keep (hk4 go HCO3.out.lt (fun ho => (HI2.out.ow go ho).2.2.1 rfl))).set 2 _
          · rw [hlen, recells_snoc]
            dsimp only
            rw [hke]
            exact HO4.out.keep (fun b hb => Below.heap_setCell _ _ _ _ (hnw b hb).2.2.1)
          · rw [hlen, inE_snoc, hke, HSD.out]
            exact (HM3.out.keep (hk4 mb HM3.out.lt (fun ho => (HI2.out.ow mb ho).2.2.2 rfl))).keep (Below.heap_setCell _ _ _ _ (fun h => HD.out.2.2.2.2.2 h.symm))
          · exact bl_set (bl_ch (bl_alloc HBL3.out _) HC4.out (fun b hb => (HI2.out.ow b hb).1)) (p := ⟨go, 2, none⟩) HD.out.2.1 _
    · obtain rfl : j = n := by omega
      have hf : l.take j = l := List.take_of_length_le (by rw [HN.out]; exact Nat.le_refl _)
      rw [hf] at hI
      have HF := Lib.hid hI
      have hout := tdEs_ok l
      obtain ⟨out, ho⟩ : ∃ out, tdEs l = out := ⟨_, rfl⟩
      have HO := Lib.hid ho
      rw [ho] at HF
      have hco := HF.out.co
      have hcr := HF.out.cr
      have f0 := hco.cell 0
      have f1 := hco.cell 1
      have f2 := hco.cell 2
      have f3 := hco.cell 3
      have f4 := hco.cell 4
      have f5 := hco.cell 5
      have f6 := hco.cell 6
      have f7 := hco.cell 7
      have z0 := hco.frozen 0
      simp only [List.getElem?_toArray, List.getElem?_cons_succ, List.getElem?_cons_zero] at f0 f1 f2 f3 f4 f5 f6 f7
      have hgol := hco.lt
      have hgrl := hcr.lt
      go_upto_region 12 with (fail)
      have HCR := Lib.hid hcr
      have HCOW := Lib.hid (hco.set 0 (.bool ((out.length : Int) == 0)))
      have HCRW := Lib.hid (hcr.keep (w' := wr.setCell ⟨go, 0, none⟩ (.bool ((out.length : Int) == 0))) (Below.heap_setCell _ _ _ _ HD.out.2.2.2.1))
      have HBW : Hid (Below w.heap.size w (wr.setCell ⟨go, 0, none⟩ (.bool ((out.length : Int) == 0)))) := bl_set HF.out.bl (p := ⟨go, 0, none⟩) HD.out.2.1 _
      have HSW : Hid (Sl 56 3 (wr.setCell ⟨go, 0, none⟩ (.bool ((out.length : Int) == 0))) A' out.length c' (recells out)) := HF.out.sl.keep (fun b hb => Below.heap_setCell _ _ _ _ (HF.out.ow b hb).2.2.1)
      have HOW : Hid (∀ b, OwnB A' b → w.heap.size ≤ b ∧ b ≠ gr) := fun b hb => ⟨(HF.out.ow b hb).1, (HF.out.ow b hb).2.1⟩
      obtain ⟨W, hW⟩ : ∃ W, wr.setCell ⟨go, 0, none⟩ (.bool ((out.length : Int) == 0)) = W := ⟨_, rfl⟩
      rw [hW] at HCOW HCRW HBW HSW ⊢
      have hbz : ((out.length : Int) == 0) = out.isEmpty := by cases out <;> simp; omega
      obtain ⟨bz, hbz2⟩ : ∃ bz, ((out.length : Int) == 0) = bz := ⟨_, rfl⟩
      rw [hbz2] at HCOW hbz ⊢
      have HBZ := Lib.hid hbz
      clear hco hcr f0 f1 f2 f3 f4 f5 f6 f7 z0 hgol hgrl hI hout ho hW hbz hbz2
      have f0 := HCOW.out.cell 0
      have f1 := HCOW.out.cell 1
      have f2 := HCOW.out.cell 2
      have f3 := HCOW.out.cell 3
      have f4 := HCOW.out.cell 4
      have f5 := HCOW.out.cell 5
      have f6 := HCOW.out.cell 6
      have f7 := HCOW.out.cell 7
      simp at f0 f1 f2 f3 f4 f5 f6 f7
      have c0 := HCRW.out.cell 0
      have c1 := HCRW.out.cell 1
      have c2 := HCRW.out.cell 2
      have c3 := HCRW.out.cell 3
      have c4 := HCRW.out.cell 4
      have c5 := HCRW.out.cell 5
      have c6 := HCRW.out.cell 6
      have c7 := HCRW.out.cell 7
      simp only [List.getElem?_toArray, List.getElem?_cons_succ, List.getElem?_cons_zero] at c0 c1 c2 c3 c4 c5 c6 c7
      have z0 := HCRW.out.frozen 0
      have z1 := HCRW.out.frozen 1
      have z2 := HCRW.out.frozen 2
      have z3 := HCRW.out.frozen 3
      have z4 := HCRW.out.frozen 4
      have z5 := HCRW.out.frozen 5
      have z6 := HCRW.out.frozen 6
      have z7 := HCRW.out.frozen 7
      have hgol := HCOW.out.lt
      have hgrl := HCRW.out.lt
      go_wp2
      have hwd8 : ((wd % 8).toNat : Int) = wd % 8 := by omega
      have hg : w.heap.size ≤ gr := HD.out.1
      refine bodyPost_ret (v := .agg #[.bool bz, .int .i64 (wd % 8), .slice A' out.length c', .int .i64 0, .int .i64 0, .bool false, .bool false, .int .u64 0]) (by simp [results, Tryz.results43, go_sem, c0, c1, c2, c3, c4, c5, c6, c7, hgrl]) rfl ⟨A', c', ?_, ?_, ?_, fun b hb => ⟨(HOW.out b hb).1, by have := HSW.out.lt hb; simpa using this⟩⟩
      · unfold rcV
        dsimp only
        rw [HO.out, HBZ.out, hwd8]
      · dsimp only
        rw [HO.out]
        refine Sl.rsV (HSW.out.keep (fun b hb => ?_))
        have hne := (HOW.out b hb).2
        repeat (rw [Below.heap_setCell _ _ _ _ (by exact hne)])
      · exact bl_set (bl_set (bl_set (bl_set (bl_set (bl_set (bl_set (bl_set HBW.out hg _) hg _) hg _) hg _) hg _) hg _) hg _) hg _
end Go.Proofs.YtjaohgnloddgfaaGreatDoor

namespace Go.Proofs.YtjaohgnloddgfaaGreatDoor
open Go.RowKit
set_option linter.unusedVariables false
set_option linter.unusedSimpArgs false

theorem cells_four (w : World) (e : TypeId) (a b c d : Value) : ∀ (j : Nat) (u : Value), [a, b, c, d][j]? = some u → (w.alloc (.cells #[a, b, c, d] e)).cell? ((⟨w.heap.size, 0, none⟩ : Addr).add j) = some u := by
  intro j u hu
  have h1 : (⟨w.heap.size, 0, none⟩ : Addr).add j = ⟨w.heap.size, j, none⟩ := by unfold Addr.add; split <;> simp_all
  rw [h1, (CB.new w e #[a, b, c, d]).cell j]
  simpa using hu
theorem ecells_snoc (es : List Ent) (e : Ent) : ecells (es ++ [e]) = ecells es ++ [.int .u64 e.off, .int .u64 e.old, .int .u64 e.new, .bool e.ex] := by simp [ecells]
def OwnPost (w : World) (es : List REnt) (n : Nat) (e : Ending) (w' : World) : Prop := ∃ A c, e = .returned (.slice A n c) ∧ Sl 33 4 w' A n c (ecells (es.map entOf)) ∧ Below w.heap.size w w' ∧ ∀ b, OwnB A b → w.heap.size ≤ b
set_option maxRecDepth 100000 in
set_option maxHeartbeats 4000000 in
theorem own17 (w : World) (A : Option Addr) (n c : Nat) (es : List REnt) (hS : RsV w A n c es) (hn : n ≤ 6) (hw : ∀ e ∈ es, e.word < 8) :
    Calls Tryz.prog 48 #[.slice A n c] w (OwnPost w es n) := by
  have HS := Lib.hid hS
  have HW := Lib.hid hw
  have HN : Hid (es.length = n) := hS.1
  clear hS hw
  go_enter Tryz.func48, Tryz.ntmps48
  go_wp2
  go_loopw [8, 3, 5, 9, 10, 11, 12, 13, 14, 15, 16, 17, 18, 19, 20, 21, 22, 23] (fun i s _ _ _ _ _ _ _ _ _ _ _ _ _ _ _ _ wr => ∃ (j : Nat) (A' : Option Addr) (c' : Nat), j ≤ n ∧ i = .int .i64 j ∧ s = .slice A' j c' ∧ Sl 33 4 wr A' j c' (ecells ((es.take j).map entOf)) ∧ Below w.heap.size w wr ∧ ∀ b, OwnB A' b → w.heap.size ≤ b) (fun i s _ _ _ _ _ _ _ _ _ _ _ _ _ _ _ _ _ => n - (intOf i).toNat)
  case atStart => exact ⟨0, none, 0, by omega, rfl, rfl, Sl.nil, Below.refl _ _, by simp [OwnB]⟩
  case round =>
    obtain ⟨j, A', c', hj, rfl, rfl, hSl, hB, hO⟩ := hrel
    have HSl := Lib.hid hSl
    have HB := Lib.hid hB
    have HO := Lib.hid hO
    by_cases hlt : j < n
    · have hlt' : (j : Int) < (n : Int) := by omega
      have hje : j < es.length := by rw [HN.out]; exact hlt
      obtain ⟨g2, o2, hA, hgl, t0, t1, t2⟩ := (HS.out.bl hB).2.2 j hlt
      have hwd := HW.out _ (getD_mem es RE0 hje)
      have HTK : Hid (ecells ((es.take (j + 1)).map entOf) = ecells ((es.take j).map entOf) ++ [.int .u64 (8 * ((288 + (es.getD j RE0).word : Nat) : Int)), .int .u64 (es.getD j RE0).old, .int .u64 (es.getD j RE0).new, .bool false]) := by
        show _ = _
        rw [List.take_succ_eq_append_getElem hje, List.map_append, List.map_singleton, ecells_snoc, List.getD_eq_getElem?_getD, List.getElem?_eq_getElem hje]
        rfl
      obtain ⟨e, he⟩ : ∃ e, es.getD j RE0 = e := ⟨_, rfl⟩
      rw [he] at t0 t1 t2 hwd HTK
      obtain ⟨ew, eo, en⟩ := e
      dsimp only at t0 t1 t2 hwd HTK
      have HOF := Lib.hid (fun W => off17 W ew hwd)
      obtain ⟨of, hof⟩ : ∃ of, 8 * ((288 + ew : Nat) : Int) = of := ⟨_, rfl⟩
      rw [hof] at HOF HTK
      subst hA
      clear hSl hB hO he hof
      go_upto_region 5 with (fail)
      refine ord_makes [] [.p [0, 1, 4, 6], .q [2, 3, 5, 7, 8], .h [9, 10, 11]] (by kernel_rfl) (fun _ _ d _ _ h => by cases d <;> exact h) (by kernel_rfl) ?_
      dsimp only [pick, List.filterMap, List.getElem?_cons_zero, List.getElem?_cons_succ]
      refine wpQuiet_nil ?_
      rintro _ ⟨x0, rfl⟩
      have hcb : CB x0.w wr.heap.size 56 #[.int .i64 ew, .int .u64 eo, .int .u64 en] := (CB.new _ _ _).bx x0
      have y0 := hcb.cell 0
      have y1 := hcb.cell 1
      have y2 := hcb.cell 2
      have hgl0 := hcb.lt
      simp only [List.getElem?_toArray, List.getElem?_cons_zero, List.getElem?_cons_succ] at y0 y1 y2
      clear hcb
      with_reducible refine part_pure ?_
      dsimp only [pick, List.filterMap, List.getElem?_cons_zero, List.getElem?_cons_succ]
      (repeat (first | (refine pure_ex rfl ?_; apply Exists.intro; apply And.intro; (intro w; go_simp; rfl); simp only [Act.put, List.setIfInBounds_toArray, List.set_cons_succ, List.set_cons_zero]) | (refine pure_skip rfl ?_; simp only [Act.put, List.setIfInBounds_toArray, List.set_cons_succ, List.set_cons_zero]))); refine pure_nil ?_
      with_reducible refine part_makes ?_
      dsimp only [pick, List.filterMap, List.getElem?_cons_zero, List.getElem?_cons_succ]
      (repeat (go_big_quiet_step ((go_at_call 26; exact bx_calle (HOF.out _)))))
      refine wpQuiet_nil ?_
      rintro _ ⟨y, rfl⟩
      with_reducible refine part_hard ?_
      dsimp only [pick, List.filterMap, List.getElem?_cons_zero, List.getElem?_cons_succ]
      have HBy : Hid (Below wr.heap.size wr (y.w.alloc (.cells #[.int .u64 of, .int .u64 eo, .int .u64 en, .bool false] 33))) := bl_alloc (bl_bx (bl_bx (bl_alloc (Below.refl _ _) _) x0) y) _
      go_wp2_with (at_builtin; refine wpList_append_sl rfl (.tmp 12) (.tmp 21) 22 rfl 33 (.agg #[.int .u64 0, .int .u64 0, .int .u64 0, .bool false]) 4 32 rfl (by omega) Tryz.underlying22 info_ent (by omega) A' j c' (ecells ((es.take j).map entOf)) ⟨y.w.heap.size, 0, none⟩ 1 1 [.int .u64 of, .int .u64 eo, .int .u64 en, .bool false] rfl rfl (HSl.out.keep (fun b hb => HBy.out.block b (HSl.out.lt hb))) rfl (by omega) (cells_four y.w 33 _ _ _ _) (fun u hu => by simp at hu; rcases hu with rfl | rfl | rfl | rfl <;> rfl) (by omega) ?_; intro A4 c4 w4 HO4 HC4 HW4 HG4)
      with_reducible refine segs_end ?_
      with_reducible refine part_nil ?_
      go_wp2
      refine ⟨⟨j + 1, A4, c4, by omega, by go_num, rfl, by rw [HTK.out]; exact HO4.out, bl_ch (HB.out.trans (HBy.out.mono HB.out.size)) HC4.out (fun b hb => HO.out b hb), fun b hb => ?_⟩, by simp [intOf]; omega⟩
      rcases HW4.out b hb with h | h
      · exact HO.out b h
      · have h1 := HB.out.size
        have h2 := y.size
        have h3 := x0.size
        simp at h3
        rw [h]; simp; omega
    · obtain rfl : j = n := by omega
      have hf : es.take j = es := List.take_of_length_le (by rw [HN.out]; exact Nat.le_refl _)
      rw [hf] at hSl
      have HF := Lib.hid hSl
      clear hSl hB hO HSl hf
      go_wp2
      go_ret
      exact ⟨A', c', rfl, HF.out, HB.out, HO.out⟩
end Go.Proofs.YtjaohgnloddgfaaGreatDoor
