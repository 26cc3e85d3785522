/- A run's beginning; a queue at rest (merged). -/
import Derived.Test.YtaefkelaffijbaaGreatDoorKfn
import Derived.Test.YtaefkelaffijbaaGreatDoorKfm
import Derived.Test.YtaefkelaffijbaaGreatDoorKfa
namespace Go.Proofs.YtaefkelaffijbaaGreatDoor
open Go.RowKit
set_option linter.unusedVariables false
set_option linter.unusedSimpArgs false
theorem fmod30 (w : World) (a : Int) (ha : -9223372036854775808 ≤ a ∧ a < 9223372036854775808) (n : Int) (hn : 1 ≤ n ∧ n ≤ 1000) : Calls Tryz.prog 14 #[.int .i64 a, .int .i64 n] w fun r w' => r = .returned (.int .i64 (a % n)) ∧ w = w' := by
 obtain ⟨a1, a2⟩ := ha
 obtain ⟨n1, n2⟩ := hn
 have h1 : -n < a.tmod n := by have := Int.lt_tmod_of_pos a (show 0 < n by omega); omega
 have h2 : a.tmod n < n := Int.tmod_lt_of_pos a (by omega)
 have hw : IntKind.i64.wrap (a.tmod n + n) = a.tmod n + n := IntWalk.i64_in _ (by omega)
 have hr : (a.tmod n + n) % n = a % n := by
  rw [Int.add_emod_right]
  have := Int.tmod_add_mul_tdiv a n
  have h3 : a % n = (a.tmod n + n * a.tdiv n) % n := by rw [this]
  rw [h3, Int.add_mul_emod_self_left]
 have hn0 : (n == 0) = false := by simp; omega
 have hn0' : ¬ n = 0 := by omega
 have HR := Lib.hid hr
 clear hr
 go_enter Tryz.func14, Tryz.ntmps14
 go_wp2
 go_ret
 exact ⟨ret_int HR.out, rfl⟩
theorem info_call30 : (Tryz.prog.info? 44).map (fun i => (i.zero, i.size, i.bytes)) = some (some (.agg #[.bool false, .int .u64 0, .int .i64 0]), 3, 24) := by kernel_rfl
theorem make_machs3 (W : World) : (Instr.makeSlice 29 (.int .i64 3) (.int .i64 3)).run Tryz.prog W = .ok (.slice (some ⟨W.heap.size, 0, none⟩) 3 3) (W.alloc (.cells #[.pointer none, .pointer none, .pointer none] 33)) := by kernel_rfl
theorem make_calls3 (W : World) : (Instr.makeSlice 89 (.int .i64 3) (.int .i64 3)).run Tryz.prog W = .ok (.slice (some ⟨W.heap.size, 0, none⟩) 3 3) (W.alloc (.cells #[.slice none 0 0, .slice none 0 0, .slice none 0 0] 22)) := by kernel_rfl
/-- The calls of a thread. -/
def rlOf (l : List (Bool × Int × Int)) (s : Nat) : List (Bool × Int × Int) := l.filter fun c => decide (c.2.2 % 3 = (s : Int))
theorem rlOf_snoc (l : List (Bool × Int × Int)) (c : Bool × Int × Int) (s : Nat) : rlOf (l ++ [c]) s = if c.2.2 % 3 = (s : Int) then rlOf l s ++ [c] else rlOf l s := by
 unfold rlOf
 rw [List.filter_append]
 by_cases h : c.2.2 % 3 = (s : Int)
 · simp [h]
 · simp [h]
def cvals (c : Bool × Int × Int) : List Value := [.bool c.1, .int .u64 c.2.1, .int .i64 c.2.2]
def ccells (l : List (Bool × Int × Int)) : List Value := l.flatMap cvals
theorem ccells_snoc (l : List (Bool × Int × Int)) (c : Bool × Int × Int) : ccells (l ++ [c]) = ccells l ++ [.bool c.1, .int .u64 c.2.1, .int .i64 c.2.2] := by simp [ccells, cvals]
theorem length_ccells (l : List (Bool × Int × Int)) : (ccells l).length = l.length * 3 := by
 induction l with
 | nil => rfl
 | cons c l ih => rw [ccells, List.flatMap_cons, List.length_append]; change _ + (ccells l).length = _; rw [ih]; simp [cvals]; omega
theorem ccells_get (l : List (Bool × Int × Int)) : ∀ (k : Nat), k < l.length → (ccells l)[k * 3]? = some (.bool (l.getD k RC30).1) ∧ (ccells l)[k * 3 + 1]? = some (.int .u64 (l.getD k RC30).2.1) ∧ (ccells l)[k * 3 + 2]? = some (.int .i64 (l.getD k RC30).2.2) := by
 induction l with
 | nil => intro k h; simp at h
 | cons p l ih =>
   intro k h
   cases k with
   | zero => simp [ccells, cvals]
   | succ k =>
     have := ih k (by simpa using h)
     rw [show ccells (p :: l) = .bool p.1 :: .int .u64 p.2.1 :: .int .i64 p.2.2 :: ccells l from rfl, show (k + 1) * 3 = k * 3 + 1 + 1 + 1 by omega]
     simpa using this
/-- Behind j calls. -/
def F1 (cs : List (Bool × Int × Int)) (W0 : World) (al j : Nat) (wr : World) : Prop :=
 ∃ (A : Nat → Option Addr) (cp : Nat → Nat), CB wr al 22 #[.slice (A 0) (rlOf (cs.take j) 0).length (cp 0), .slice (A 1) (rlOf (cs.take j) 1).length (cp 1), .slice (A 2) (rlOf (cs.take j) 2).length (cp 2)] ∧
  (∀ s, s < 3 → Sl 44 3 wr (A s) (rlOf (cs.take j) s).length (cp s) (ccells (rlOf (cs.take j) s)) ∧ ∀ b, OwnB (A s) b → W0.heap.size ≤ b) ∧ (∀ s u, s < 3 → u < 3 → s ≠ u → ∀ b, OwnB (A s) b → ¬ OwnB (A u) b) ∧ Ch (At al) W0 wr
theorem setIf3 (f : Nat → Value) (s : Nat) (hs : s < 3) (v : Value) : (#[f 0, f 1, f 2] : Array Value).setIfInBounds s v = #[if 0 = s then v else f 0, if 1 = s then v else f 1, if 2 = s then v else f 2] := by
 rcases (by omega : s = 0 ∨ s = 1 ∨ s = 2) with rfl | rfl | rfl <;> simp
/-- Behind one more call, of thread s. -/
theorem F1.next {cs : List (Bool × Int × Int)} {W0 wr w4 : World} {al j s c4 : Nat} {o : Obj} {A : Nat → Option Addr} {cp : Nat → Nat} {A4 : Option Addr} {c : Bool × Int × Int} (hj : j < cs.length) (hcj : cs.getD j RC30 = c) (hs : s < 3) (hth : c.2.2 % 3 = (s : Int)) (hal : al < W0.heap.size)
 (h1 : CB wr al 22 #[.slice (A 0) (rlOf (cs.take j) 0).length (cp 0), .slice (A 1) (rlOf (cs.take j) 1).length (cp 1), .slice (A 2) (rlOf (cs.take j) 2).length (cp 2)]) (h2 : ∀ s, s < 3 → Sl 44 3 wr (A s) (rlOf (cs.take j) s).length (cp s) (ccells (rlOf (cs.take j) s)) ∧ ∀ b, OwnB (A s) b → W0.heap.size ≤ b) (h3 : ∀ s u, s < 3 → u < 3 → s ≠ u → ∀ b, OwnB (A s) b → ¬ OwnB (A u) b) (h4 : Ch (At al) W0 wr)
 (o4 : Sl 44 3 w4 A4 ((rlOf (cs.take j) s).length + 1) c4 (ccells (rlOf (cs.take j) s) ++ [.bool c.1, .int .u64 c.2.1, .int .i64 c.2.2])) (ch : Ch (OwnB (A s)) (wr.alloc o) w4) (hW : ∀ b, OwnB A4 b → OwnB (A s) b ∨ b = (wr.alloc o).heap.size) :
 F1 cs W0 al (j + 1) (w4.setCell ⟨al, s, none⟩ (.slice A4 ((rlOf (cs.take j) s).length + 1) c4)) := by
 have hsz : (wr.alloc o).heap.size = wr.heap.size + 1 := by simp
 have hs0 := h4.size
 have hc1 := ch.size
 have hst : cs.take (j + 1) = cs.take j ++ [c] := by
  rw [List.take_succ_eq_append_getElem hj]
  rw [List.getD_eq_getElem?_getD, List.getElem?_eq_getElem hj] at hcj
  rw [← hcj]; rfl
 have hlt : ∀ u, u < 3 → ∀ b, OwnB (A u) b → b < wr.heap.size := fun u hu b hb => (h2 u hu).1.lt hb
 have hrl : ∀ u : Nat, u < 3 → rlOf (cs.take (j + 1)) u = if u = s then rlOf (cs.take j) s ++ [c] else rlOf (cs.take j) u := fun u hu => by
  rw [hst, rlOf_snoc]
  by_cases hus : u = s
  · subst hus; rw [if_pos hth, if_pos rfl]
  · rw [if_neg (by omega), if_neg hus]
 have hnal : ∀ b, OwnB A4 b → b ≠ al := fun b hb => by
  rcases hW b hb with hx | hx
  · have := (h2 s hs).2 b hx; omega
  · omega
 have hcb : CB w4 al 22 #[.slice (A 0) (rlOf (cs.take j) 0).length (cp 0), .slice (A 1) (rlOf (cs.take j) 1).length (cp 1), .slice (A 2) (rlOf (cs.take j) 2).length (cp 2)] := (h1.below (bl_alloc (Below.refl _ _) _)).keep (ch.block al (by have := h1.lt; omega) (fun hx => by have := (h2 s hs).2 al hx; omega))
 have hcb2 := hcb.set s (.slice A4 ((rlOf (cs.take j) s).length + 1) c4)
 rw [setIf3 (fun u => .slice (A u) (rlOf (cs.take j) u).length (cp u)) s hs] at hcb2
 refine ⟨fun u => if u = s then A4 else A u, fun u => if u = s then c4 else cp u, ?_, fun u hu => ?_, fun u v hu hv huv b hb => ?_, ?_⟩
 · have key : ∀ u : Nat, u < 3 → (if u = s then Value.slice A4 ((rlOf (cs.take j) s).length + 1) c4 else .slice (A u) (rlOf (cs.take j) u).length (cp u)) = .slice (if u = s then A4 else A u) (rlOf (cs.take (j + 1)) u).length (if u = s then c4 else cp u) := fun u hu => by
    rw [hrl u hu]
    by_cases hus : u = s
    · simp [hus]
    · simp [hus]
   rw [key 0 (by omega), key 1 (by omega), key 2 (by omega)] at hcb2
   exact hcb2
 · rw [hrl u hu]
   by_cases hus : u = s
   · simp only [if_pos hus, List.length_append, List.length_singleton, ccells_snoc]
     exact ⟨o4.keep (fun b hb => Below.heap_setCell _ _ _ _ (hnal b hb)), fun b hb => by
      rcases hW b hb with hx | hx
      · exact (h2 s hs).2 b hx
      · omega⟩
   · simp only [if_neg hus]
     refine ⟨(h2 u hu).1.keep (fun b hb => ?_), (h2 u hu).2⟩
     have hbw := hlt u hu b hb
     have hba : b ≠ al := by have := (h2 u hu).2 b hb; omega
     exact ((Below.heap_setCell _ _ _ _ hba).trans (ch.block b (by omega) (h3 u s hu hs hus b hb))).trans (Below.heap_alloc _ _ _ hbw)
 · by_cases hus : u = s
   · have hvs : v ≠ s := fun hx => huv (by rw [hus, hx])
     simp only [if_pos hus] at hb
     simp only [if_neg hvs]
     rcases hW b hb with hx | hx
     · exact h3 s v hs hv (Ne.symm hvs) b hx
     · intro hx2; have := hlt v hv b hx2; omega
   · simp only [if_neg hus] at hb
     by_cases hvs : v = s
     · simp only [if_pos hvs]
       intro hx2
       rcases hW b hx2 with hx | hx
       · exact h3 u s hu hs hus b hb hx
       · have := hlt u hu b hb; omega
     · simp only [if_neg hvs]
       exact h3 u v hu hv huv b hb
 · refine ((h4.trans (Ch.of_below (S := fun _ => False) (bl_alloc (Below.refl _ _) _)) (fun b hb _ => hb.elim)).trans ch (fun b hb hl => ?_)).trans ((Ch.refl (At al) w4).set1 _ _) (fun b hb _ => hb)
   have := (h2 s hs).2 b hb; omega
/-- The calls of a run, as the plain law has them. -/
def csOf (l : List (Bool × Int × Int)) : List (Bool × Int × Nat) := l.map fun c => (c.1, c.2.1 % 1099511627776, (c.2.2 % 3).toNat)
theorem lfOf_rl (l : List (Bool × Int × Int)) (s : Nat) : lfOf (csOf l) s = (rlOf l s).map mkC := by
 induction l with
 | nil => rfl
 | cons c l ih =>
   unfold lfOf csOf rlOf at ih ⊢
   simp only [List.map_cons, List.filter_cons]
   by_cases h : c.2.2 % 3 = (s : Int)
   · have h2 : ((c.2.2 % 3).toNat == s) = true := by simp; omega
     rw [h2]
     simp only [if_true, List.map_cons, decide_eq_true_eq, h]
     rw [ih]; rfl
   · have h2 : ((c.2.2 % 3).toNat == s) = false := by simp; omega
     rw [h2]
     simp only [Bool.false_eq_true, if_false, decide_eq_true_eq, h]
     exact ih
theorem rlOf_sum (l : List (Bool × Int × Int)) : (rlOf l 0).length + (rlOf l 1).length + (rlOf l 2).length = l.length := by
 induction l with
 | nil => rfl
 | cons c l ih =>
   unfold rlOf at ih ⊢
   simp only [List.filter_cons, List.length_cons]
   have h : c.2.2 % 3 = 0 ∨ c.2.2 % 3 = 1 ∨ c.2.2 % 3 = 2 := by omega
   rcases h with h | h | h <;> (simp [h]; simp at ih; omega)
def rolI (κ0 : Nat → Nat) (w W : World) (B : RqB) : Nat → Nat := fun b => if b < w.heap.size then κ0 b else if b = B.bm ∨ b = B.bt ∨ b = B.an ∨ b = B.al then 3 else if b < W.heap.size then 1 else 0
section
variable {k : RqK} {rl : Nat → List (Bool × Int × Int)} {now : Nat → Option Nat} {ms : List QM} {gs : List Nat} {T mu : Nat} {w w' W : World} {κ : Nat → Nat} {A : Nat → Option Addr} {cp : Nat → Nat} {oz : List Nat} {Am : Option Addr} {cm : Nat} {bs : Nat → Option Nat} {σ : PwS} {xs : List Int} {L : Nat → Int} {ord : List Nat} {N s i : Nat} {m : QM}
structure RqB.New (B : RqB) (n0 : Nat) : Prop where
 gn : n0 ≤ B.bn ∧ n0 ≤ B.bl ∧ n0 ≤ B.bq ∧ n0 ≤ B.bm ∧ n0 ≤ B.bt ∧ n0 ≤ B.an ∧ n0 ≤ B.al
 n1 : B.bm ≠ B.bt
 n2 : B.bm ≠ B.an
 n3 : B.bm ≠ B.al
 n4 : B.bt ≠ B.an
 n5 : B.bt ≠ B.al
 n6 : B.an ≠ B.al
 o1 : B.bn ≠ B.bm ∧ B.bn ≠ B.bt ∧ B.bn ≠ B.an ∧ B.bn ≠ B.al
 o2 : B.bl ≠ B.bm ∧ B.bl ≠ B.bt ∧ B.bl ≠ B.an ∧ B.bl ≠ B.al
 o3 : B.bq ≠ B.bm ∧ B.bq ≠ B.bt ∧ B.bq ≠ B.an ∧ B.bq ≠ B.al
/-- A run begins. -/
theorem rqInit {cs : List (Bool × Int × Int)} (H : QuM k.κ0 k.p k.d k.q k.n k.lines k.P k.t (fun _ => none) k.w0 σ) (Q : QW sumI (atW 0) k.n 256 k.P k.q0 σ [] N 0 xs L []) (hB : Below k.w0.heap.size k.w0 W) (hN : k.B.New k.w0.heap.size) (h012 : ∀ b, b < k.w0.heap.size → k.κ0 b ≤ 2)
 (cn : CB W k.B.bn 29 #[.slice (some ⟨k.B.an, 0, none⟩) 3 3]) (cl : CB W k.B.bl 89 #[.slice (some ⟨k.B.al, 0, none⟩) 3 3]) (cq : CB W k.B.bq 25 #[.pointer (some ⟨k.q, 0, none⟩)]) (cm_ : CB W k.B.bm 29 #[.slice none 0 0]) (ct : CB W k.B.bt 3 #[.int .i64 0]) (ca : CB W k.B.an 33 #[.pointer none, .pointer none, .pointer none])
 (cc : CB W k.B.al 22 #[.slice (A 0) (rlOf cs 0).length (cp 0), .slice (A 1) (rlOf cs 1).length (cp 1), .slice (A 2) (rlOf cs 2).length (cp 2)]) (hA : ∀ s, s < 3 → Sl 44 3 W (A s) (rlOf cs s).length (cp s) (ccells (rlOf cs s)) ∧ ∀ b, OwnB (A s) b → k.w0.heap.size ≤ b ∧ b ≠ k.B.bm ∧ b ≠ k.B.bt ∧ b ≠ k.B.an ∧ b ≠ k.B.al)
 (hcs : k.cs = csOf cs) (hl7 : cs.length ≤ 7) (hv : ∀ c ∈ cs, 0 ≤ c.2.1 ∧ c.2.1 < 18446744073709551616) (hbd : N + 4559 * cs.length ≤ k.Bd) (hbdl : k.Bd < 1000000) (hP : k.P < 1000000) :
 RqS k (rlOf cs) (fun _ => none) [] [] 0 (4559 * cs.length) W (rolI k.κ0 k.w0 W k.B) A cp [] none 0 (fun _ => none) σ xs L [] N := by
 obtain ⟨n1, n2, n3, n4, n5, n6, n7⟩ := hN.gn
 have old : ∀ {b : Nat}, b < k.w0.heap.size → rolI k.κ0 k.w0 W k.B b = k.κ0 b := fun hb => if_pos hb
 have r3 : ∀ {b : Nat}, k.w0.heap.size ≤ b → (b = k.B.bm ∨ b = k.B.bt ∨ b = k.B.an ∨ b = k.B.al) → rolI k.κ0 k.w0 W k.B b = 3 := fun h1 h2 => by unfold rolI; rw [if_neg (by omega), if_pos h2]
 have r1 : ∀ {b : Nat}, k.w0.heap.size ≤ b → ¬ (b = k.B.bm ∨ b = k.B.bt ∨ b = k.B.an ∨ b = k.B.al) → b < W.heap.size → rolI k.κ0 k.w0 W k.B b = 1 := fun h1 h2 h3 => by unfold rolI; rw [if_neg (by omega), if_neg h2, if_pos h3]
 have h00 : (0 : Nat) < k.w0.heap.size := H.tab.1
 have hsum := rlOf_sum cs
 refine ⟨⟨⟨?_, H.hq.below hB, by rw [old H.hq.lt]; exact H.kq, H.tab.ch (Ch.of_below (S := fun _ => False) hB) (fun hx => hx), by rw [old h00]; exact H.k0, H.hn, H.hP, H.hn2⟩, fun j mj hj => by simp at hj, fun th _ => rfl, fun j mj hj => by simp at hj, rfl, rfl, cn, cl, cq, cm_, ct, ca, cc, Sl.nil, ?_, fun s hs => ?_⟩, Q, ?_, ?_, ?_, fun b hb => old hb, Ch.of_below hB, fun s c hc => hv c (List.mem_filter.1 hc).1, by simp; omega, h012, hbdl, hP, by omega⟩
 · refine (H.pm.bl hB).less (fun b hb => ?_)
   by_cases hl : b < k.w0.heap.size
   · left; rw [old hl] at hb; exact hb
   · right
     refine ⟨by omega, ?_⟩
     unfold rolI at hb
     rw [if_neg hl] at hb
     split at hb
     · rename_i hx
       rcases hx with hx | hx | hx | hx
       · rw [hx]; exact cm_.lt
       · rw [hx]; exact ct.lt
       · rw [hx]; exact ca.lt
       · rw [hx]; exact cc.lt
     · split at hb
       · assumption
       · omega
 · have q1 := hN.o1
   have q2 := hN.o2
   have q3 := hN.o3
   exact ⟨r1 n1 (by omega) cn.lt, r1 n2 (by omega) cl.lt, r1 n3 (by omega) cq.lt, r3 n4 (.inl rfl), r3 n5 (.inr (.inl rfl)), r3 n6 (.inr (.inr (.inl rfl))), r3 n7 (.inr (.inr (.inr rfl))), hN.n1, hN.n2, hN.n3, hN.n4, hN.n5, hN.n6, fun b hb => by simp [OwnB] at hb⟩
 · obtain ⟨hS, hO⟩ := hA s hs
   refine ⟨rfl, ?_, fun hp => ?_⟩
   · rcases hS.2 with ⟨_, h1, h2⟩ | ⟨g, off, cur, h1, h2, h3, _⟩
     · omega
     · exact h3
   · have hlen := length_ccells (rlOf cs s)
     obtain ⟨g, off, hAe, hgl, _⟩ := hS.at_ (j := 0) (by omega)
     obtain ⟨o1, o2, o3, o4, o5⟩ := hO g (by rw [hAe]; rfl)
     refine ⟨g, off, hAe, r1 o1 (by omega) hgl, hgl, fun j hj => ?_⟩
     obtain ⟨e1, e2, e3⟩ := ccells_get (rlOf cs s) j hj
     have hc := hS.cells _ hAe
     have had : ∀ x, (⟨g, off, none⟩ : Addr).add x = ⟨g, off + x, none⟩ := fun x => by unfold Addr.add; split <;> simp_all
     have h1 := hc _ _ e1
     have h2 := hc _ _ e2
     have h3 := hc _ _ e3
     rw [had] at h1 h2 h3
     exact ⟨h1, h2, h3⟩
 · rw [hcs]
   have := QRn.start (csOf cs)
   have e : lfOf (csOf cs) = fun s => (rlOf cs s).map mkC := by funext s; exact lfOf_rl cs s
   rw [e] at this
   exact this
 · unfold muR phi
   simp only [sumF]
   omega
 · omega
/-- Has a thread something to do? -/
def Active (rl : Nat → List (Bool × Int × Int)) (now : Nat → Option Nat) (ms : List QM) (s : Nat) : Bool := (match now s with
 | some i => match ms[i]? with
   | some m => !m.ph.over
   | none => false
 | none => false) || decide (0 < (rl s).length)
theorem idle_of (h : Active rl now ms s = false) : rl s = [] ∧ ∀ i m, now s = some i → ms[i]? = some m → m.ph.over = true := by
 unfold Active at h
 rw [Bool.or_eq_false_iff] at h
 obtain ⟨h1, h2⟩ := h
 refine ⟨by have := of_decide_eq_false h2; exact List.eq_nil_of_length_eq_zero (by omega), fun i m e1 e2 => ?_⟩
 rw [e1] at h1
 simp only [e2] at h1
 simpa using h1
theorem not_idle (h : Active rl now ms s = true) : ¬ (rl s = [] ∧ ∀ i m, now s = some i → ms[i]? = some m → m.ph.over = true) := by
 rintro ⟨h1, h2⟩
 unfold Active at h
 rw [h1] at h
 simp only [List.length_nil, Nat.lt_irrefl, decide_false, Bool.or_false] at h
 split at h
 · rename_i i hi
   split at h
   · rename_i m hm
     rw [h2 i m hi hm] at h; simp at h
   · simp at h
 · simp at h
/-- What the loops read of a thread. -/
theorem RqX.look (h : RqX k rl now ms gs T mu w) (hs : s < 3) : w.cell? ⟨k.B.bn, 0, none⟩ = some (.slice (some ⟨k.B.an, 0, none⟩) 3 3) ∧ w.cell? ⟨k.B.bl, 0, none⟩ = some (.slice (some ⟨k.B.al, 0, none⟩) 3 3) ∧ k.B.bn < w.heap.size ∧ k.B.bl < w.heap.size ∧ k.B.an < w.heap.size ∧ k.B.al < w.heap.size ∧
 (∃ A' c', w.cell? ⟨k.B.al, s, none⟩ = some (.slice A' (rl s).length c')) ∧ ((w.cell? ⟨k.B.an, s, none⟩ = some (.pointer none) ∧ Active rl now ms s = decide (0 < (rl s).length)) ∨ ∃ gm dn, w.cell? ⟨k.B.an, s, none⟩ = some (.pointer (some ⟨gm, 0, none⟩)) ∧ w.cell? ⟨gm, 9, none⟩ = some (.bool dn) ∧ gm < w.heap.size ∧ Active rl now ms s = (!dn || decide (0 < (rl s).length))) := by
 obtain ⟨κ, A, cp, oz, Am, cm, bs, σ, xs, L, ord, N, h⟩ := h
 have hn := CB.now3 (s := s) (f := nowV now gs) (a := .pointer none) (b := .pointer none) (c := .pointer none) h.mem.ca hs
 have hc := CB.now3 (s := s) (f := fun s => .slice (A s) (rl s).length (cp s)) (a := .pointer none) (b := .pointer none) (c := .pointer none) h.mem.cc hs
 refine ⟨h.mem.cn.cell 0, h.mem.cl.cell 0, h.mem.cn.lt, h.mem.cl.lt, h.mem.ca.lt, h.mem.cc.lt, ⟨_, _, hc⟩, ?_⟩
 cases hns : now s with
 | none =>
   left
   refine ⟨by rw [hn, nowV_none hns], ?_⟩
   unfold Active
   rw [hns]; rfl
 | some i =>
   right
   obtain ⟨m, e1, e2⟩ := h.rn.nw s i hns
   have hm := h.mem.mm i m e1
   refine ⟨gs.getD i 0, m.ph.over, by rw [hn, nowV_some hns], ?_, hm.cb.lt, ?_⟩
   · exact hm.cb.cell 9
   · unfold Active
     rw [hns]
     simp only [e1]
/-- The closure of run. -/
theorem frunA30 (h : RqX k rl now ms gs T mu w) (hs : s < 3) :
 Calls Tryz.prog 38 #[.int .i64 (s : Int), .pointer (some ⟨k.B.bn, 0, none⟩), .pointer (some ⟨k.B.bl, 0, none⟩), .pointer (some ⟨k.B.bq, 0, none⟩), .pointer (some ⟨k.B.bm, 0, none⟩), .pointer (some ⟨k.B.bt, 0, none⟩)] w (RaP k rl now ms gs T mu s) := by
 obtain ⟨κ, A, cp, oz, Am, cm, bs, σ, xs, L, ord, N, h⟩ := h
 by_cases hd : ∀ i m, now s = some i → ms[i]? = some m → m.ph.over = true
 · cases hrl : rl s with
   | nil => exact runA_idle h hs hd hrl
   | cons c rest => exact runA_new h hs hd hrl
 · have : ∃ i m, now s = some i ∧ ms[i]? = some m ∧ m.ph.over = false := by
    apply Classical.byContradiction
    intro hno
    apply hd
    intro i m h1 h2
    cases ho : m.ph.over with
    | true => rfl
    | false => exact absurd ⟨i, m, h1, h2, ho⟩ hno
   obtain ⟨i, m, h1, h2, h3⟩ := this
   exact runA_go h hs h1 h2 h3
end
theorem vOff30 {F : Nat → Prop} {d : Nat} {t : Nat → Nat} {w : World} {S : DevS} (h : DV F d t w S) : Calls Tryz.prog 39 #[.pointer (some ⟨d, 0, none⟩)] w fun e w' => e = .returned (.bool S.off) ∧ w = w' := by
 obtain ⟨_, L, rfl, h3, _⟩ := h
 have ho := h3.ocell
 have hl := h3.lt
 clear h3
 go_enter Tryz.func39, Tryz.ntmps39
 go_wp2
 go_ret
 exact ⟨rfl, rfl⟩
/-- A queue at rest, with its values. -/
structure QuV (K : Nat → Prop) (p d q n lines P : Nat) (t : Nat → Nat) (bs : Nat → Option Nat) (w : World) (σ : PwS) (xs : List Int) (N : Nat) (L : Nat → Int) (f : Nat) (qs : List Int) : Prop where
 pm : PMx K p d t 0 32 ((n : Int) * 64) w σ
 on : On σ.dev n xs N
 hq : CB w q 93 (qcells d p 2048 lines bs)
 hn : n < 1000
 hP : 8 * (lines - 1) = P ∧ 2 ≤ lines ∧ lines < 1000
 hn2 : 264 + P = 8 * n
 wd : ∀ k, Mq 256 P k → xs[k]? = some (L k)
 lr : ∀ k, Mq 256 P k → 0 ≤ L k ∧ L k < 4611686018427387904
 ab : QAb 256 P L f qs
section
variable {K : Nat → Prop} {p d q n lines P N f : Nat} {t : Nat → Nat} {bs : Nat → Option Nat} {w w' : World} {σ : PwS} {xs : List Int} {L : Nat → Int} {qs : List Int}
theorem QuV.bl (h : QuV K p d q n lines P t bs w σ xs N L f qs) (hB : Below w.heap.size w w') : QuV K p d q n lines P t bs w' σ xs N L f qs :=
 ⟨h.pm.bl0 hB, h.on, h.hq.below hB, h.hn, h.hP, h.hn2, h.wd, h.lr, h.ab⟩
set_option maxRecDepth 100000 in
theorem quLoadW (H : PMx K p d t 0 32 ((n : Int) * 64) w σ) (hon : On σ.dev n xs N) (hq : CB w q 93 (qcells d p 2048 lines bs)) (k : Nat) (v : Int) (hk : xs[k]? = some v) :
 Calls Tryz.prog 41 #[.pointer (some ⟨q, 0, none⟩), .int .u64 (8 * (k : Int))] w fun e w' => e = .returned (.int .u64 v) ∧ w = w' := by
 have HTH : Hid (Calls Tryz.prog 35 #[.pointer (some ⟨d, 0, none⟩), .int .i64 0] w fun e w' => e = .returned (.pointer (some ⟨t 0, 0, none⟩)) ∧ w = w') := by
  obtain ⟨role, bb, h, hK⟩ := H
  exact vThread h.dv 0 (by omega)
 have HLD : Hid (Calls Tryz.prog 61 #[.pointer (some ⟨t 0, 0, none⟩), .int .u64 (8 * (k : Int))] w fun e w' => e = .returned (.int .u64 v) ∧ w = w') := by
  obtain ⟨role, bb, h, hK⟩ := H
  exact vLoad h.dv 0 (by omega) hon.off k v (by rw [hon.cur]; exact hk)
 obtain ⟨q0, q1, q2, q3, ql⟩ := hq.qc
 obtain ⟨of, hof⟩ : ∃ of, 8 * (k : Int) = of := ⟨_, rfl⟩
 rw [hof] at HLD ⊢
 clear H hon hq hk hof
 go_enter Tryz.func41, Tryz.ntmps41
 go_wp2_with (first
  | (go_at_call 35; (with_reducible refine HTH.out.mono ?_); rintro e w' ⟨rfl, rfl⟩)
  | (go_at_call 61; (with_reducible refine HLD.out.mono ?_); rintro e w' ⟨rfl, rfl⟩))
 go_ret
 exact ⟨rfl, rfl⟩
theorem QuV.load (h : QuV K p d q n lines P t bs w σ xs N L f qs) {k : Nat} (hk : Mq 256 P k) : Calls Tryz.prog 41 #[.pointer (some ⟨q, 0, none⟩), .int .u64 (8 * (k : Int))] w fun e w' => e = .returned (.int .u64 (L k)) ∧ w = w' :=
 quLoadW h.pm h.on h.hq k _ (h.wd k hk)
def StP (a b : Int) (w : World) (e : Ending) (w' : World) : Prop := e = .returned (.tuple #[.int .u64 a, .int .u64 b]) ∧ w = w'
set_option maxRecDepth 100000 in
theorem quState (h : QuV K p d q n lines P t bs w σ xs N L f qs) : Calls Tryz.prog 40 #[.pointer (some ⟨q, 0, none⟩)] w (StP (f : Int) (qs.length : Int) w) := by
 have hm1 : Mq 256 P 258 := by unfold Mq; omega
 have hm2 : Mq 256 P 259 := by unfold Mq; omega
 have HW2 : Hid (Calls Tryz.prog 60 #[.pointer (some ⟨q, 0, none⟩), .int .i64 2] w fun e w' => e = .returned (.int .u64 2064) ∧ w = w') := by
  have := quWord h.hq.qc 2 (by omega) (by omega); show Calls _ _ _ _ _; simpa using this
 have HW3 : Hid (Calls Tryz.prog 60 #[.pointer (some ⟨q, 0, none⟩), .int .i64 3] w fun e w' => e = .returned (.int .u64 2072) ∧ w = w') := by
  have := quWord h.hq.qc 3 (by omega) (by omega); show Calls _ _ _ _ _; simpa using this
 have HL2 : Hid (Calls Tryz.prog 41 #[.pointer (some ⟨q, 0, none⟩), .int .u64 2064] w fun e w' => e = .returned (.int .u64 (L 258)) ∧ w = w') := h.load hm1
 have HL3 : Hid (Calls Tryz.prog 41 #[.pointer (some ⟨q, 0, none⟩), .int .u64 2072] w fun e w' => e = .returned (.int .u64 (L 259)) ∧ w = w') := h.load hm2
 have HPL : Hid (Calls Tryz.prog 44 #[.pointer (some ⟨q, 0, none⟩)] w fun e w' => e = .returned (.int .u64 (P : Int)) ∧ w = w') := by
  have := quPlaces h.hq.qc (by have := h.hP; omega) h.hP.2.2
  rw [h.hP.1] at this; exact this
 have e1 : (L 258).tmod 1099511627776 = (f : Int) := by rw [Int.tmod_eq_emod_of_nonneg (h.lr _ hm1).1]; exact h.ab.fst
 have e2 : (L 259).tmod 1099511627776 = (qs.length : Int) := by rw [Int.tmod_eq_emod_of_nonneg (h.lr _ hm2).1]; exact h.ab.cnt
 have e3 : (qs.length : Int) ≤ (P : Int) := by have := h.ab.le; omega
 generalize (qs.length : Int) = c at *
 generalize L 258 = l2 at *
 generalize L 259 = l3 at *
 have hmn : imin c (P : Int) = c := by unfold imin; split <;> omega
 clear h
 go_enter Tryz.func40, Tryz.ntmps40
 go_wp2_with (first
  | (go_at_call 60; (first | (with_reducible refine HW2.out.mono ?_) | (with_reducible refine HW3.out.mono ?_)); rintro e w' ⟨rfl, rfl⟩)
  | (go_at_call 41; (first | (with_reducible refine HL2.out.mono ?_) | (with_reducible refine HL3.out.mono ?_)); rintro e w' ⟨rfl, rfl⟩)
  | (go_at_call 44; (with_reducible refine HPL.out.mono ?_); rintro e w' ⟨rfl, rfl⟩))
 exact bodyPost_ret (v := .tuple #[.int .u64 (f : Int), .int .u64 c]) (by simp [results, Tryz.results40, go_sem]) rfl ⟨rfl, rfl⟩
set_option maxRecDepth 100000 in
theorem quCap (h : QuV K p d q n lines P t bs w σ xs N L f qs) : Calls Tryz.prog 24 #[.pointer (some ⟨q, 0, none⟩)] w fun e w' => e = .returned (.int .i64 (P : Int)) ∧ w = w' := by
 have HPL : Hid (Calls Tryz.prog 44 #[.pointer (some ⟨q, 0, none⟩)] w fun e w' => e = .returned (.int .u64 (P : Int)) ∧ w = w') := by
  have := quPlaces h.hq.qc (by have := h.hP; omega) h.hP.2.2
  rw [h.hP.1] at this; exact this
 obtain ⟨q0, q1, q2, q3, ql⟩ := h.hq.qc
 have e1 : IntKind.i64.wrap (P : Int) = (P : Int) := IntWalk.i64_in _ (by have := h.hP; omega)
 clear h
 go_enter Tryz.func24, Tryz.ntmps24
 go_wp2_with (go_at_call 44; (with_reducible refine HPL.out.mono ?_); rintro e w' ⟨rfl, rfl⟩)
 go_ret
 exact ⟨rfl, rfl⟩
def NdP (a b : Int) (w : World) (e : Ending) (w' : World) : Prop := e = .returned (.tuple #[.int .i64 a, .int .i64 b]) ∧ Below w.heap.size w w'
set_option maxRecDepth 100000 in
theorem quNodes (h : QuV K p d q n lines P t bs w σ xs N L f qs) : Calls Tryz.prog 45 #[.pointer (some ⟨q, 0, none⟩)] w (NdP ((P : Int) - (qs.length : Int)) (qs.length : Int) w) := by
 have HPL : Hid (∀ W, Below w.heap.size w W → Calls Tryz.prog 44 #[.pointer (some ⟨q, 0, none⟩)] W fun e w' => e = .returned (.int .u64 (P : Int)) ∧ W = w') := fun W hW => by
  have := quPlaces (h.hq.qc.bl hW) (by have := h.hP; omega) h.hP.2.2
  rw [h.hP.1] at this; exact this
 have HST := Lib.hid (fun (W : World) (hW : Below w.heap.size w W) => quState (h.bl hW))
 have HOF : Hid (∀ W, Below w.heap.size w W → Calls Tryz.prog 39 #[.pointer (some ⟨d, 0, none⟩)] W fun e w' => e = .returned (.bool false) ∧ Below W.heap.size W w') := fun W hW => by
  obtain ⟨role, bb, hh, hK⟩ := h.pm.bl0 hW
  have := vOff30 hh.dv
  rw [h.on.off] at this
  exact this.mono (fun e w' hx => ⟨hx.1, by obtain ⟨_, rfl⟩ := hx; exact Below.refl _ _⟩)
 obtain ⟨q0, q1, q2, q3, ql⟩ := h.hq.qc
 have e3 : (qs.length : Int) ≤ (P : Int) := by have := h.ab.le; omega
 have hPb : (P : Int) < 10000 := by have := h.hP; omega
 have hc0 : (0 : Int) ≤ (qs.length : Int) := by omega
 generalize (qs.length : Int) = c at *
 have e1 : IntKind.u64.wrap ((P : Int) - c) = (P : Int) - c := IntWalk.u64_in _ (by omega)
 have e2 : IntKind.i64.wrap ((P : Int) - c) = (P : Int) - c := IntWalk.i64_in _ (by omega)
 have e4 : IntKind.i64.wrap c = c := IntWalk.i64_in _ (by omega)
 clear h
 go_enter Tryz.func45, Tryz.ntmps45
 go_wp2_with (first
  | (go_at_call 39; (with_reducible refine (HOF.out _ (by (repeat (first | with_reducible (first | exact Below.refl _ _ | refine bl_alloc ?_ _ | refine bl_drew ?_ | refine bl_drewN ?_ _ | refine bl_bx ?_ _ | exact BX.below _ | refine bl_set ?_ (by first | (exact Nat.le_refl _) | (simp; done) | (simp; omega)) _) | assumption)))).mono ?_); rintro e w' ⟨rfl, hb⟩; obtain ⟨x, rfl⟩ := bx_of hb; clear hb)
  | (go_at_call 40; (with_reducible refine (HST.out _ (by (repeat (first | with_reducible (first | exact Below.refl _ _ | refine bl_alloc ?_ _ | refine bl_drew ?_ | refine bl_drewN ?_ _ | refine bl_bx ?_ _ | exact BX.below _ | refine bl_set ?_ (by first | (exact Nat.le_refl _) | (simp; done) | (simp; omega)) _) | assumption)))).mono ?_); rintro e w' ⟨rfl, rfl⟩)
  | (go_at_call 44; (with_reducible refine (HPL.out _ (by (repeat (first | with_reducible (first | exact Below.refl _ _ | refine bl_alloc ?_ _ | refine bl_drew ?_ | refine bl_drewN ?_ _ | refine bl_bx ?_ _ | exact BX.below _ | refine bl_set ?_ (by first | (exact Nat.le_refl _) | (simp; done) | (simp; omega)) _) | assumption)))).mono ?_); rintro e w' ⟨rfl, rfl⟩))
 exact bodyPost_ret (v := .tuple #[.int .i64 ((P : Int) - c), .int .i64 c]) (by simp [results, Tryz.results45, go_sem]) rfl ⟨rfl, by (repeat (first | with_reducible (first | exact Below.refl _ _ | refine bl_alloc ?_ _ | refine bl_drew ?_ | refine bl_drewN ?_ _ | refine bl_bx ?_ _ | exact BX.below _ | refine bl_set ?_ (by first | (exact Nat.le_refl _) | (simp; done) | (simp; omega)) _) | assumption))⟩
end
section
variable {K : Nat → Prop} {p d q n lines P N f : Nat} {t : Nat → Nat} {bs : Nat → Option Nat} {w w' : World} {σ : PwS} {xs : List Int} {L : Nat → Int} {qs : List Int}
def AllP (qs : List Int) (w : World) (e : Ending) (w' : World) : Prop := ∃ A c, e = .returned (.slice A qs.length c) ∧ Rd .u64 w' A qs ∧ Below w.heap.size w w' ∧ ∀ b, OwnB A b → w.heap.size ≤ b ∧ b < w'.heap.size
set_option maxRecDepth 100000 in
set_option maxHeartbeats 4000000 in
theorem quAll (h : QuV K p d q n lines P t bs w σ xs N L f qs) : Calls Tryz.prog 13 #[.pointer (some ⟨q, 0, none⟩)] w (AllP qs w) := by
 have HOF : Hid (Calls Tryz.prog 39 #[.pointer (some ⟨d, 0, none⟩)] w fun e w' => e = .returned (.bool false) ∧ w = w') := by
  obtain ⟨role, bb, hh, hK⟩ := h.pm
  have := vOff30 hh.dv
  rw [h.on.off] at this
  exact this
 have HST := Lib.hid (quState h)
 have hP := h.hP
 have hle := h.ab.le
 have hfP := h.ab.fP
 have hP0 : 0 < P := by omega
 have HPX : Hid (∀ W, Below w.heap.size w W → ∀ g1 : Nat, g1 < 100000 → Calls Tryz.prog 42 #[.pointer (some ⟨q, 0, none⟩), .int .u64 (g1 : Int)] W fun e w' => e = .returned (.int .u64 (8 * ((qpW 256 P g1 : Nat) : Int))) ∧ ∃ n, w' = W.drewN n) := fun W hW g1 hg => by
  have := quPlace (h.hq.qc.bl hW) hP.1 hP.2.1 hP.2.2 g1 (by omega) (by omega)
  have e : (2048 + 64 + 8 * ((g1 % P : Nat) : Int)) = 8 * ((qpW 256 P g1 : Nat) : Int) := by unfold qpW; omega
  rw [e] at this; exact this
 have HLD : Hid (∀ W, Below w.heap.size w W → ∀ g1 : Nat, Calls Tryz.prog 41 #[.pointer (some ⟨q, 0, none⟩), .int .u64 (8 * ((qpW 256 P g1 : Nat) : Int))] W fun e w' => e = .returned (.int .u64 (L (qpW 256 P g1))) ∧ W = w') := fun W hW g1 =>
  (h.bl hW).load (by unfold Mq qpW; have := Nat.mod_lt g1 hP0; omega)
 have HVL : Hid (∀ j, j < qs.length → (L (qpW 256 P (f + j))).tmod 1099511627776 = gt0 qs j) := fun j hj => by
  rw [Int.tmod_eq_emod_of_nonneg (h.lr _ (by unfold Mq qpW; have := Nat.mod_lt (f + j) hP0; omega)).1]
  exact h.ab.val j hj
 obtain ⟨q0, q1, q2, q3, ql⟩ := h.hq.qc
 obtain ⟨cn, hcn⟩ : ∃ cn, qs.length = cn := ⟨_, rfl⟩
 have HCN := Lib.hid hcn
 have hb1 : f + cn < 100000 := by omega
 unfold AllP
 rw [hcn] at HST HVL ⊢
 clear h hcn hle hfP hP
 go_enter Tryz.func13, Tryz.ntmps13
 go_wp2_with (first
  | (go_at_call 39; (with_reducible refine HOF.out.mono ?_); rintro e w' ⟨rfl, rfl⟩)
  | (go_at_call 40; (with_reducible refine HST.out.mono ?_); rintro e w' ⟨rfl, rfl⟩))
 go_loopw [29, 3, 6, 30, 31, 32, 33, 34, 35, 36, 37, 38, 39, 40, 41, 42, 43] (fun i l _ _ _ _ _ _ _ _ _ _ _ _ _ _ _ wr => ∃ (j : Nat) (A : Option Addr) (c : Nat), j ≤ cn ∧ i = .int .u64 j ∧ l = .slice A j c ∧ Sl 34 1 wr A j c (uints (qs.take j)) ∧ Below w.heap.size w wr ∧ ∀ b, OwnB A b → w.heap.size ≤ b) (fun i _ _ _ _ _ _ _ _ _ _ _ _ _ _ _ _ _ => cn - (intOf i).toNat)
 case atStart => exact ⟨0, none, 0, by omega, rfl, rfl, Sl.nil, Below.refl _ _, fun b hb => by simp [OwnB] at hb⟩
 case round =>
  obtain ⟨j, A, c, hj, rfl, rfl, hS, hB, hO⟩ := hrel
  have HS := Lib.hid hS
  have HB := Lib.hid hB
  have HO := Lib.hid hO
  clear hS hB hO
  by_cases hlt : j < cn
  · have hlt' : (j : Int) < (cn : Int) := by omega
    obtain ⟨g1, hg1⟩ : ∃ g1, f + j = g1 := ⟨_, rfl⟩
    have e1 : IntKind.u64.wrap ((f : Int) + (j : Int)) = (g1 : Int) := by rw [IntWalk.u64_in _ (by omega)]; omega
    have e2 : IntKind.u64.wrap ((j : Int) + 1) = (j : Int) + 1 := IntWalk.u64_in _ (by omega)
    have e3 := HVL.out j hlt
    rw [hg1] at e3
    have HX := Lib.hid (HPX.out wr HB.out g1 (by omega))
    have HY : Hid (∀ W, Below wr.heap.size wr W → Calls Tryz.prog 41 #[.pointer (some ⟨q, 0, none⟩), .int .u64 (8 * ((qpW 256 P g1 : Nat) : Int))] W fun e w' => e = .returned (.int .u64 (L (qpW 256 P g1))) ∧ W = w') := fun W hW => HLD.out W (HB.out.trans (hW.mono HB.out.size)) g1
    generalize L (qpW 256 P g1) = lv at *
    generalize 8 * ((qpW 256 P g1 : Nat) : Int) = off at *
    have HTK : Hid (uints (qs.take (j + 1)) = uints (qs.take j) ++ [.int .u64 (gt0 qs j)]) := by
     show _ = _
     rw [List.take_succ_eq_append_getElem (by rw [HCN.out]; exact hlt)]
     unfold uints gt0
     rw [List.map_append, List.getD_eq_getElem?_getD, List.getElem?_eq_getElem (show j < qs.length by rw [HCN.out]; exact hlt)]
     rfl
    generalize gt0 qs j = qv at *
    clear hg1 hlt
    go_wp2_with (first
     | (go_at_call 42; (with_reducible refine HX.out.mono ?_); rintro e w' ⟨rfl, n3, rfl⟩)
     | (go_at_call 41; (with_reducible refine (HY.out _ (by (repeat (first | with_reducible (first | exact Below.refl _ _ | refine bl_alloc ?_ _ | refine bl_drew ?_ | refine bl_drewN ?_ _ | refine bl_bx ?_ _ | exact BX.below _ | refine bl_set ?_ (by first | (exact Nat.le_refl _) | (simp; done) | (simp; omega)) _) | assumption)))).mono ?_); rintro e w' ⟨rfl, rfl⟩)
     | (at_builtin; refine wpList_append_sl rfl (.tmp 32) (.tmp 41) 40 rfl 34 (.int .u64 0) 1 8 rfl (by omega) Tryz.underlying40 info_u64 (by omega) A j c (uints (qs.take j)) ⟨(wr.drewN n3).heap.size, 0, none⟩ 1 1 [.int .u64 qv] rfl rfl (HS.out.keep (fun b hb => Below.heap_alloc _ _ b (HS.out.lt hb))) rfl (by omega) (cells_one17 (wr.drewN n3) 34 _) (by simp; rfl) (by omega) ?_; intro A4 c4 w4 HO4 HC4 HW4 HG4))
    go_roundw
    case rel =>
     refine ⟨j + 1, A4, c4, by omega, by go_num, rfl, by rw [HTK.out]; exact HO4.out, bl_ch (HB.out.trans ((bl_alloc (bl_drewN (Below.refl _ _) _) _ : Below wr.heap.size wr _).mono HB.out.size)) HC4.out (fun b hb => HO.out b hb), fun b hb => ?_⟩
     have h1 := HB.out.size
     rcases HW4.out b hb with h | h
     · exact HO.out b h
     · rw [h]; simp; omega
    case measure => simp [intOf]; omega
  · obtain rfl : j = cn := by omega
    have hft : qs.take j = qs := List.take_of_length_le (by rw [HCN.out]; exact Nat.le_refl _)
    have hS := HS.out
    rw [hft] at hS
    have HS2 := Lib.hid hS
    clear hft hS
    go_wp2
    exact bodyPost_ret (v := .slice A j c) (by simp [results, Tryz.results13, go_sem]) rfl ⟨A, c, rfl, HS2.out.rdW, HB.out, fun b hb => ⟨HO.out b hb, HS2.out.lt hb⟩⟩
end
/-- The roles, when a run is over: what was a machine's is a constant. -/
def oneK (κ : Nat → Nat) : Nat → Nat := fun b => if κ b ≤ 2 then κ b else 1
theorem oneK_le (κ : Nat → Nat) (b : Nat) : oneK κ b ≤ 2 := by unfold oneK; split <;> omega
theorem oneK_ne {κ : Nat → Nat} {b : Nat} (h : oneK κ b ≠ 0) : κ b ≠ 0 := fun h0 => h (by unfold oneK; rw [if_pos (by omega)]; exact h0)
theorem oneK_of {κ : Nat → Nat} {b : Nat} (h : κ b ≤ 2) : oneK κ b = κ b := if_pos h
theorem oneK_big {κ : Nat → Nat} {b : Nat} (h : 2 < κ b) : oneK κ b = 1 := if_neg (by omega)
/-- A queue at rest. -/
structure QRs (κ : Nat → Nat) (p d q n lines P : Nat) (t : Nat → Nat) (w : World) (vs : List Int) (N : Nat) (σ : PwS) (xs : List Int) (L : Nat → Int) : Prop where
 qu : QuM κ p d q n lines P t (fun _ => none) w σ
 qw : QW sumI (atW 0) n 256 P vs σ [] N 0 xs L []
 k2 : ∀ b, b < w.heap.size → κ b ≤ 2
/-- The machines of a run that is over. -/
def MsV (κ : Nat → Nat) (w : World) (A : Option Addr) (c : Nat) (ms : List QM) : Prop :=
 ∃ gs oz : List Nat, Sl 33 1 w A ms.length c (gs.map mpV) ∧ gs.length = ms.length ∧ (∀ b, OwnB A b → κ b = 1) ∧ ∀ (i : Nat) (m : QM), ms[i]? = some m → CB w (gs.getD i 0) 39 (mqc m (oz.getD i 0)) ∧ κ (gs.getD i 0) = 1
section
variable {k : RqK} {rl : Nat → List (Bool × Int × Int)} {now : Nat → Option Nat} {ms : List QM} {gs : List Nat} {T mu : Nat} {w w' : World} {κ : Nat → Nat} {A : Nat → Option Addr} {cp : Nat → Nat} {oz : List Nat} {Am : Option Addr} {cm : Nat} {bs : Nat → Option Nat} {σ : PwS} {xs : List Int} {L : Nat → Int} {ord : List Nat} {N s i : Nat} {m : QM}
theorem QSb.none (h : QSb σ ms) (hall : ∀ (i : Nat) (m : QM), ms[i]? = some m → m.ph.over = true) : QSb σ [] := by
 refine ⟨⟨fun i m h => (by simp at h), fun i j mi mj h => (by simp at h)⟩, fun i m s f c r h => (by simp at h), fun i m f c v a h => (by simp at h), h.len, fun k hk => ?_, fun i j mi mj a a' o o' h => (by simp at h)⟩
 constructor
 · intro hb
   obtain ⟨i, m, a, o, h1, h2, _⟩ := (h.bt k hk).1 hb
   have := hall i m h1
   rw [isChg_over h2] at this
   cases this
 · rintro ⟨i, m, a, o, h, _⟩; simp at h
theorem RqS.rest (h : RqS k rl now ms gs T mu w κ A cp oz Am cm bs σ xs L ord N) (hall : ∀ (i : Nat) (m : QM), ms[i]? = some m → m.ph.over = true) :
 QRs (oneK κ) k.p k.d k.q k.n k.lines k.P k.t w (qSt k.P ms k.q0 ord) N σ xs L ∧ MsV (oneK κ) w Am cm ms ∧ (∀ b, b < k.w0.heap.size → oneK κ b = k.κ0 b) ∧ Ch (fun b => k.κ0 b = 0 ∨ k.κ0 b = 2) k.w0 w ∧ N + mu ≤ k.Bd := by
 have hq := h.mem.qu
 have hbs : bs = fun _ => none := by
  funext th
  exact h.mem.bo th (fun i m hi ho => by rw [hall i m hi] at ho; cases ho)
 rw [hbs] at hq
 refine ⟨⟨⟨hq.pm.less (fun b hb => oneK_ne hb), hq.hq, by rw [oneK_of (by rw [hq.kq]; omega)]; exact hq.kq, hq.tab, by rw [oneK_of (by rw [hq.k0]; omega)]; exact hq.k0, hq.hn, hq.hP, hq.hn2⟩, ⟨h.qw.inv, QLs.start h.qw.ls.ab (h.qw.ls.quiet hall), h.qw.sb.none hall⟩, fun b _ => oneK_le κ b⟩, ⟨gs, oz, h.mem.sl, h.mem.lg, fun b hb => oneK_big (by have := (h.mem.bk.am b hb).1; omega), fun i m hi => ?_⟩, fun b hb => ?_, h.ch, h.bd⟩
 · have hm := h.mem.mm i m hi
   exact ⟨hm.cb, oneK_big (by have := hm.kg; omega)⟩
 · have h1 := h.old b hb
   have h2 := h.k012 b hb
   rw [oneK_of (by omega)]; exact h1
/-- The values of a queue at rest. -/
theorem QRs.quV {p d q n lines P : Nat} {t : Nat → Nat} {vs : List Int} (h : QRs κ p d q n lines P t w vs N σ xs L) (hl : lines < 1000) : ∃ f, QuV (fun b => κ b ≠ 0) p d q n lines P t (fun _ => none) w σ xs N L f vs := by
 obtain ⟨f, hf⟩ := h.qw.ls.ab
 have hn2 := h.qu.hn2
 refine ⟨f, h.qu.pm, h.qw.inv.on, h.qu.hq, h.qu.hn, ⟨h.qu.hP.1, h.qu.hP.2, hl⟩, hn2, fun k hk => ?_, h.qw.inv.hL, hf⟩
 exact h.qw.inv.idle (h.qw.ls.quiet (fun i m hi => by simp at hi)) k hk
/-- More memory, and what is a constant. -/
theorem QRs.ch {p d q n lines P : Nat} {t : Nat → Nat} {vs : List Int} (h : QRs κ p d q n lines P t w vs N σ xs L) (hb : Below w.heap.size w w') : QRs (rolN κ w w' 1) p d q n lines P t w' vs N σ xs L := by
 have hql := h.qu.hq.lt
 have h0 := h.qu.tab.1
 refine ⟨⟨(h.qu.pm.bl hb).rolN, h.qu.hq.below hb, by rw [rolN_old hql]; exact h.qu.kq, h.qu.tab.below hb, by rw [rolN_old h0]; exact h.qu.k0, h.qu.hn, h.qu.hP, h.qu.hn2⟩, h.qw, fun b hb' => ?_⟩
 unfold rolN
 split
 · omega
 · exact h.k2 b (by omega)
end
end Go.Proofs.YtaefkelaffijbaaGreatDoor
