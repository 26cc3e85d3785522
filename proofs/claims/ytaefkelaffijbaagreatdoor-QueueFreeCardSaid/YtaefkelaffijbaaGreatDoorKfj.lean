/- Begin (merged). -/
import Derived.Test.YtaefkelaffijbaaGreatDoorKfh
import Derived.Test.YtaefkelaffijbaaGreatDoorKfi
import Derived.Deep.RegionLaw
namespace Go.Proofs.YtaefkelaffijbaaGreatDoor
open Go.RowKit
set_option linter.unusedVariables false
set_option linter.unusedSimpArgs false
theorem ecells_one (es : List Ent) : ∀ u ∈ ecells es, u.oneCell' = true := by
 intro u hu
 simp only [ecells, List.mem_flatMap] at hu
 obtain ⟨p, _, hu⟩ := hu
 simp only [List.mem_cons, List.not_mem_nil, or_false] at hu
 rcases hu with rfl | rfl | rfl | rfl <;> rfl
def CleP (w : World) (xs : List Value) (n : Nat) (e : Ending) (w' : World) : Prop := ∃ A c, e = .returned (.slice A n c) ∧ Sl 174 4 w' A n c xs ∧ Below w.heap.size w w' ∧ ∀ b, OwnB A b → w.heap.size ≤ b
set_option maxHeartbeats 1000000 in
theorem cloneE (w : World) (g off : Nat) (n c : Nat) (es : List Ent) (h1 : 1 ≤ n) (hn : n ≤ 1000000) (hS : EsV w (some ⟨g, off, none⟩) n c es) : Calls Tryz.prog 138 #[.slice (some ⟨g, off, none⟩) n c] w (CleP w (ecells es) n) := by
 have hsn := fun (W : World) => Lib.run_eql_slice_nil (P := Tryz.prog) W 154 174 (some ⟨g, off, none⟩) n c 0 0 Tryz.underlying154
 have HS := Lib.hid hS
 have HE0 : Hid (Sl 174 4 (w.alloc (.cells #[] 174)) (some ⟨w.heap.size, 0, none⟩) 0 0 []) := ⟨by simp, .inr ⟨w.heap.size, 0, #[], rfl, CB.new _ _ _, Nat.le_refl _, by omega, by simp, by simp⟩⟩
 have hlen : (ecells es).length = n * 4 := by rw [length_ecells, hS.1]
 have HLEN := Lib.hid hlen
 clear hS hlen
 go_enter Tryz.func138, Tryz.ntmps138
 go_wp2_with (at_builtin; refine wpList_append_sl rfl (.tmp 5) (.tmp 6) 154 rfl 174 (.agg #[.int .u64 0, .int .u64 0, .int .u64 0, .bool false]) 4 32 rfl (by omega) Tryz.underlying154 info_ent (by omega) (some ⟨w.heap.size, 0, none⟩) 0 0 [] ⟨g, off, none⟩ n c (ecells es) rfl rfl HE0.out HLEN.out h1 ((HS.out.bl (bl_alloc (Below.refl _ _) _)).cells) (ecells_one _) (by omega) ?_; intro A2 c2 w2 HO HC HW HG)
 go_ret
 have hO := HO.out
 rw [List.nil_append, Nat.zero_add] at hO
 refine ⟨A2, c2, rfl, hO, bl_ch (bl_alloc (Below.refl _ _) _) HC.out (fun b hb => ?_), fun b hb => ?_⟩
 · have : w.heap.size = b := by simpa [OwnB] using hb
   omega
 · rcases HW.out b hb with h | h
   · have : w.heap.size = b := by simpa [OwnB] using h
     omega
   · rw [h]; simp
/-- Does Begin take these entries? -/
def entsB (line lines n : Nat) (es : List Ent) (j : Nat) : Bool := (List.range j).all fun q => outB line lines n (es.getD q E0).off && !(idxOff (es.take q) (es.getD q E0).off).isSome && (es.getD q E0).poss
/-- A new operation. -/
def newOp (k th : Nat) (es : List Ent) (order : List Nat) : OpS := ⟨k, th, es, order, List.replicate es.length 0, 0, 0, [], false, false, false, 0, none, 0, 0⟩
section
variable {K : Nat → Prop} {p d a line lines : Nat} {t : Nat → Nat} {size : Int} {w w' : World} {σ : PwS} {n : Nat}
/-- A new operation lies beside the others. -/
theorem PMx.opNew {role : Nat → Nat} {bb : Nat} {k : Nat} {o : OpS} (h : PM role p d bb t line lines size w σ) (hK : ∀ b, K b → role b = 0 ∧ b < w.heap.size) (hC : Ch (At bb) w w') (ha : w.heap.size ≤ a)
 (hbz : Sl 4 1 w' (some ⟨bb, 0, none⟩) σ.busy.length σ.busy.length (bools (σ.busy.set k true)))
 (ho : ∃ ea ec oa oc sb sc pa pc, CB w' a 162 (opcells p t o ea ec oa oc sb sc pa pc) ∧ Sl 174 4 w' ea o.es.length ec (ecells o.es) ∧ Sl 3 1 w' oa o.order.length oc (kints o.order) ∧ IB .u64 34 w' sb o.seen ∧ o.seen.length ≤ sc ∧ Sl 144 3 w' pa o.prog.length pc (pcells o.prog) ∧
   w.heap.size ≤ sb ∧ sb ≠ a ∧ (∀ b, OwnB ea b → w.heap.size ≤ b ∧ b ≠ a ∧ b ≠ sb) ∧ (∀ b, OwnB oa b → w.heap.size ≤ b ∧ b ≠ a ∧ b ≠ sb) ∧ ∀ b, OwnB pa b → w.heap.size ≤ b ∧ b ≠ a ∧ b ≠ sb) :
 PMx K p d t line lines size w' { σ.setOp a o with busy := σ.busy.set k true } ∧ Ch (fun b => ¬ K b) w w' := by
 obtain ⟨l1, l2⟩ := h.lt
 have hs := hC.size
 have hne : ∀ b, b < w.heap.size → role b ≠ 2 → w'.heap[b]? = w.heap[b]? := fun b hb hr => hC.block b hb (fun hx => hr (by rw [show b = bb from hx]; exact h.rb))
 refine ⟨⟨rl w (a + 3) role, bb, ⟨?_, ?_, ?_, by rw [rl_old l1]; exact h.rp, by rw [rl_old l2]; exact h.rb, h.pb, fun b ob hb => ?_⟩, fun b hk => ?_⟩, hC.mono fun b hb _ hk => ?_⟩
 · refine (h.dv.chLess hC (X := fun b => w.heap.size ≤ b ∧ b < w'.heap.size) (fun b hb hf hx => ?_) (fun b hx => hx)).mono (fun b hf => ?_)
   · rw [show b = bb from hx, h.rb] at hf
     rcases hf with hf | hf
     · omega
     · omega
   · by_cases hl : w.heap.size ≤ b
     · right
       have := hf.2
       omega
     · left
       rw [rl_old (by omega)]
       exact hf.1.resolve_right hl
 · have := h.pl.keep (hC.block p l1 (fun hx => h.pb hx))
   show CB w' p _ #[_, _, _, _, .slice _ (σ.busy.set k true).length (σ.busy.set k true).length, _]
   rw [List.length_set]; exact this
 · show Sl _ _ _ _ (σ.busy.set k true).length (σ.busy.set k true).length _
   rw [List.length_set]; exact hbz
 · have hb2 : (if b = a then some o else σ.ops b) = some ob := hb
   clear hb
   by_cases hba : b = a
   · rw [if_pos hba] at hb2
     injection hb2 with hb2
     subst hba hb2
     obtain ⟨ea, ec, oa, oc, sb, sc, pa, pc, h1, h2, h3, h4, h4', h5, r2, n1, r3, r4, r5⟩ := ho
     exact ⟨ea, ec, oa, oc, sb, sc, pa, pc, h1, h2, h3, h4, h4', h5, rl_new ha, rl_new r2, n1, fun b hb => ⟨rl_new (r3 b hb).1, (r3 b hb).2⟩, fun b hb => ⟨rl_new (r4 b hb).1, (r4 b hb).2⟩, fun b hb => ⟨rl_new (r5 b hb).1, (r5 b hb).2⟩⟩
   · rw [if_neg hba] at hb2
     exact (h.op b ob hb2).keep (fun b' hl hr => by rw [rl_old hl]; exact hr) (fun b' hl hr => hne b' hl (by rw [hr]; omega))
 · obtain ⟨h1, h2⟩ := hK b hk
   exact ⟨by rw [rl_old h2]; exact h1, by omega⟩
 · have h1 := (hK b hk).1
   rw [show b = bb from hb, h.rb] at h1
   omega
end
/-- The new operation's cells ahead of its order. -/
def BegRel (w : World) (p tb k m : Nat) (es : List Ent) (s : Value) (wx : World) : Prop :=
 ∃ gO ao sb, s = .pointer (some ⟨gO, 0, none⟩) ∧ CB wx gO 104 #[.pointer (some ⟨ao, 0, none⟩)] ∧ (∃ ea ec, CB wx ao 162 #[.pointer (some ⟨p, 0, none⟩), .pointer (some ⟨tb, 0, none⟩), .int .i64 (k : Int), .slice ea m ec, .slice none 0 0, .slice (some ⟨sb, 0, none⟩) m m, .int .i64 0, .int .i64 0, .slice none 0 0, .bool false, .bool false, .bool false, .int .i64 0, .pointer none, .int .i64 0, .int .i64 0] ∧
  Sl 174 4 wx ea m ec (ecells es) ∧ ∀ b, OwnB ea b → w.heap.size ≤ b ∧ b ≠ ao ∧ b ≠ sb ∧ b ≠ gO) ∧ IB .u64 34 wx sb (List.replicate m 0) ∧ Below w.heap.size w wx ∧ w.heap.size ≤ gO ∧ w.heap.size ≤ ao ∧ w.heap.size ≤ sb ∧ gO ≠ ao ∧ gO ≠ sb ∧ sb ≠ ao
/-- The new operation while its order is made. -/
def BegOrd (w : World) (p tb k m : Nat) (es : List Ent) (gO ao sb : Nat) (ea : Option Addr) (ec i : Nat) (A : Option Addr) (c : Nat) (wx : World) : Prop :=
 CB wx gO 104 #[.pointer (some ⟨ao, 0, none⟩)] ∧ CB wx ao 162 #[.pointer (some ⟨p, 0, none⟩), .pointer (some ⟨tb, 0, none⟩), .int .i64 (k : Int), .slice ea m ec, .slice A i c, .slice (some ⟨sb, 0, none⟩) m m, .int .i64 0, .int .i64 0, .slice none 0 0, .bool false, .bool false, .bool false, .int .i64 0, .pointer none, .int .i64 0, .int .i64 0] ∧
  Sl 174 4 wx ea m ec (ecells es) ∧ IB .u64 34 wx sb (List.replicate m 0) ∧ Below w.heap.size w wx ∧ Sl 3 1 wx A i c (kints (List.range i)) ∧ ∀ b, OwnB A b → w.heap.size ≤ b ∧ b ≠ ao ∧ b ≠ sb ∧ b ≠ gO ∧ ¬ OwnB ea b
theorem step_append_17 {P : Program} {w : World} {ops : Array Oper} {o : Oper} {a : Act} {K : Act → World → Prop} {Q : Exit → Act → World → Prop} {E : Prop} (hgd : o.guard = none) (s x : Operand) (t : TypeId)
 (ho : o.op = .call { callee := .builtin .append, args := #[s, x], argTypes := #[t, t] }) (e : TypeId) (zv : Value) (size by_ : Nat) (hzs : zv.cells.size = size) (hsz : 0 < size) (ht : P.underlying t = some (.slice e)) (hinfo : (P.info? e).map (fun i => (i.zero, i.size, i.bytes)) = some (some zv, size, by_)) (hby : by_ ≤ 64)
 (A : Option Addr) (n c : Nat) (xs : List Value) (ad : Addr) (m d : Nat) (ys : List Value) (hse : a.eval s = .slice A n c) (hxe : a.eval x = .slice (some ad) m d) (hown : Sl e size w A n c xs) (hm : ys.length = m * size) (hm0 : 0 < m) (hr : ∀ j u, ys[j]? = some u → w.cell? (ad.add j) = some u) (hf : ∀ u ∈ ys, u.oneCell' = true)
 (hbound : n + m ≤ 1000000000)
 (h : ∀ A' c' w', Hid (Sl e size w' A' (n + m) c' (xs ++ ys)) → Hid (Ch (OwnB A) w w') → Hid (∀ b, OwnB A' b → OwnB A b ∨ b = w.heap.size) → Hid (c < n + m → A' = some ⟨w.heap.size, 0, none⟩) → K (a.put o.dst (.slice A' (n + m) c')) w') :
 if Region.wanted o (yielded ops a.tmps) = true then Oper.wp P o a w K Q else E := by
 have hw : Region.wanted o (yielded ops a.tmps) = true := by simp [Region.wanted, hgd]
 rw [if_pos hw]
 obtain ⟨A', c', w', hrun, h1, h2, h3, h4⟩ := run_append_sl (P := P) w t o.type e zv size by_ hzs hsz ht hinfo hby A n c xs hown ad m d ys hm hm0 hr hf hbound
 unfold Oper.wp
 simp [execOp, ho, resolve, invoke, builtin, hse, hxe, hrun, Result.andThen]
 exact h A' c' w' h1 h2 h3 h4
structure BegFacts (w2 : World) (gO ao p tb k m : Nat) (ea : Option Addr) (ec q : Nat) (A : Option Addr) (c sb : Nat) : Prop where
 cO : CB w2 gO 104 #[.pointer (some ⟨ao, 0, none⟩)]
 cA : CB w2 ao 162 #[.pointer (some ⟨p, 0, none⟩), .pointer (some ⟨tb, 0, none⟩), .int .i64 (k : Int), .slice ea m ec, .slice A q c, .slice (some ⟨sb, 0, none⟩) m m, .int .i64 0, .int .i64 0, .slice none 0 0, .bool false, .bool false, .bool false, .int .i64 0, .pointer none, .int .i64 0, .int .i64 0]
theorem cells_one17 (w : World) (e : TypeId) (a : Value) : ∀ (j : Nat) (u : Value), [a][j]? = some u → (w.alloc (.cells #[a] e)).cell? ((⟨w.heap.size, 0, none⟩ : Addr).add j) = some u := by
 intro j u hu
 have h1 : (⟨w.heap.size, 0, none⟩ : Addr).add j = ⟨w.heap.size, 0 + j, none⟩ := by unfold Addr.add; split <;> simp_all
 rw [h1, Nat.zero_add, (CB.new w e #[a]).cell]
 cases j with
 | zero => simpa using hu
 | succ j => simp at hu
theorem info_int17 : (Tryz.prog.info? 3).map (fun i => (i.zero, i.size, i.bytes)) = some (some (.int .i64 0), 1, 8) := by kernel_rfl
theorem kints_range (i : Nat) : kints (List.range (i + 1)) = kints (List.range i) ++ [.int .i64 (i : Int)] := by simp [kints, List.range_succ]
theorem Sl.cell_ex {e : TypeId} {w : World} {g n c j : Nat} {bs : List Bool} (h : Sl e 1 w (some ⟨g, 0, none⟩) n c (bools bs)) (hj : j < bs.length) : ∃ v, w.cell? ⟨g, j, none⟩ = some v := by
 obtain ⟨g', off, hA, _, hc⟩ := h.at_ (j := j) (by simpa [bools] using hj)
 injection hA with hA
 injection hA with e1 e2
 subst e1 e2
 rw [Nat.zero_add] at hc
 exact ⟨_, hc⟩
theorem own_some {A : Option Addr} {e : TypeId} {sz n c : Nat} {w : World} {xs : List Value} (h : Sl e sz w A n c xs) (hn : 0 < n) : ∃ g off, A = some ⟨g, off, none⟩ := by
 rcases h.2 with ⟨_, h0, _⟩ | ⟨g, off, _, hA, _⟩
 · omega
 · exact ⟨g, off, hA⟩
theorem cb_set1 {w : World} {g : Nat} {e : TypeId} {u v : Value} (h : CB w g e #[u]) : CB (w.setCell ⟨g, 0, none⟩ v) g e #[v] := h.set 0 v
theorem bx_ne1 {w : World} (x : BX w) (g : Nat) (h : g < w.heap.size) : ¬ g = x.w.heap.size := by have := x.size; omega
theorem bx_ne2 {w : World} (x : BX w) (g : Nat) (h : g < w.heap.size) : ¬ g = x.w.heap.size + 1 := by have := x.size; omega
theorem bx_ne3 {w : World} (x : BX w) (g : Nat) (h : g < w.heap.size) : g < x.w.heap.size := by have := x.size; omega
theorem bx_ne4 {w : World} (x : BX w) (g : Nat) (h : g < w.heap.size) : g < x.w.heap.size + 1 := by have := x.size; omega
section
variable {K : Nat → Prop} {p d a line lines : Nat} {t : Nat → Nat} {size : Int} {w w' : World} {σ : PwS} {n : Nat}
theorem PMx.plc (H : PMx K p d t line lines size w σ) : ∃ bb, p < w.heap.size ∧ bb < w.heap.size ∧ p ≠ bb ∧ CB w p 152 #[.pointer (some ⟨d, 0, none⟩), .int .i64 line, .int .i64 lines, .int .u64 size, .slice (some ⟨bb, 0, none⟩) σ.busy.length σ.busy.length, optP σ.cur] ∧ Sl 4 1 w (some ⟨bb, 0, none⟩) σ.busy.length σ.busy.length (bools σ.busy) := by
 obtain ⟨role, bb, h, hK⟩ := H
 exact ⟨bb, h.lt.1, h.lt.2, h.pb, h.pl, h.bz⟩
set_option maxRecDepth 100000 in
set_option maxHeartbeats 16000000 in
theorem pwBegin (H : PMx K p d t line lines ((n : Int) * 64) w σ) (hn : n < 100000) (hl : line + lines < 100000) (th : Nat) (hth : th < 8) (herr : (σ.dev.thr th).err = 0) (g off m c k : Nat) (es : List Ent) (hm : es.length = m) (h1 : 1 ≤ m) (h6 : m ≤ 6) (hS : EsV w (some ⟨g, off, none⟩) m c es)
 (hr : ∀ e ∈ es, 0 ≤ e.off ∧ e.off < 18446744073709551616 ∧ 0 ≤ e.old ∧ e.old < 18446744073709551616) (hg : entsB line lines n es m = true) (hk : idxB σ.busy = some k) (hbl : σ.busy.length ≤ 100000) :
 Calls Tryz.prog 115 #[.pointer (some ⟨p, 0, none⟩), .int .i64 (th : Int), .slice (some ⟨g, off, none⟩) m c] w fun r w' => ∃ a order, r = .returned (.tuple #[.pointer (some ⟨a, 0, none⟩), .int .i64 0]) ∧ w.heap.size ≤ a ∧ order.Perm (List.range m) ∧ PMx K p d t line lines ((n : Int) * 64) w' { σ.setOp a (newOp k th es order) with busy := σ.busy.set k true } ∧ Ch (fun b => ¬ K b) w w' := by
 have HP := Lib.hid H
 have HS := Lib.hid hS
 have HM := Lib.hid hm
 have HR := Lib.hid hr
 have HG := Lib.hid hg
 have HK := Lib.hid hk
 obtain ⟨role, bb, hPM, hK0⟩ := H
 obtain ⟨HLp, HLb⟩ := hPM.lt
 have hpb := hPM.pb
 have hpl := hPM.pl
 have hbz := hPM.bz
 have HPM := Lib.hid hPM
 have HK0 := Lib.hid hK0
 have p0 : w.cell? ⟨p, 0, none⟩ = some (.pointer (some ⟨d, 0, none⟩)) := hpl.cell 0
 have p1 : w.cell? ⟨p, 1, none⟩ = some (.int .i64 line) := hpl.cell 1
 have p2 : w.cell? ⟨p, 2, none⟩ = some (.int .i64 lines) := hpl.cell 2
 have p3 : w.cell? ⟨p, 3, none⟩ = some (.int .u64 ((n : Int) * 64)) := hpl.cell 3
 have HOUT := Lib.hid (fun (W : World) (o : Int) (ho : 0 ≤ o ∧ o < 18446744073709551616) => rgOutside W line lines n hl hn o ho)
 have hthI : ¬ (th : Int) < 0 := by omega
 have hth8 : ¬ (th : Int) ≥ 8 := by omega
 have hth8' : ¬ (8 : Int) ≤ (th : Int) := by omega
 have hm1 : ¬ (m : Int) < 1 := by omega
 have hm6 : ¬ (m : Int) > 6 := by omega
 have hm6' : ¬ (6 : Int) < (m : Int) := by omega
 have HBZ := Lib.hid hbz
 have HPL := Lib.hid hpl
 have HPI : Hid (∀ W, Below w.heap.size w W → PMx K p d t line lines ((n : Int) * 64) W σ) := fun W hW => HP.out.bl0 hW
 have HTH : Hid (∀ W, Below w.heap.size w W → Calls Tryz.prog 35 #[.pointer (some ⟨d, 0, none⟩), .int .i64 (th : Int)] W fun e w' => e = .returned (.pointer (some ⟨t th, 0, none⟩)) ∧ W = w') := fun W hW => by
  obtain ⟨role, bb, h, hK⟩ := HPI.out W hW
  exact vThread h.dv th hth
 have HER : Hid (∀ W, Below w.heap.size w W → Calls Tryz.prog 62 #[.pointer (some ⟨t th, 0, none⟩)] W fun e w' => e = .returned (.int .i64 0) ∧ W = w') := fun W hW => by
  have := (HPI.out W hW).err th hth
  rwa [herr] at this
 have HTB := Lib.hid hth
 clear hPM hK0 hS hm hr hg hk hpl hbz herr hth
 go_enter Tryz.func115, Tryz.ntmps115
 go_wp2
 go_loopw [38, 6, 7, 8, 9, 10, 39, 40, 41, 42, 43, 44, 45, 46, 47, 48, 49, 50, 51, 52, 53, 54, 55, 56, 57, 58, 59, 60, 61, 62, 63, 64] (fun i _ _ _ _ _ _ _ _ _ _ _ _ _ _ _ _ _ _ _ _ _ _ _ _ _ _ _ _ _ _ _ wr => ∃ j : Nat, j ≤ m ∧ i = .int .i64 j ∧ Below w.heap.size w wr) (fun i _ _ _ _ _ _ _ _ _ _ _ _ _ _ _ _ _ _ _ _ _ _ _ _ _ _ _ _ _ _ _ _ => m - (intOf i).toNat)
 case atStart => exact ⟨0, by omega, rfl, Below.refl _ _⟩
 case round =>
  obtain ⟨j, hj, rfl, hB⟩ := hrel
  have HB := Lib.hid hB
  have HLpr : p < wr.heap.size := Nat.lt_of_lt_of_le HLp hB.size
  have y0 := (hB.cell (p := ⟨p, 0, none⟩) HLp).trans p0
  have y1 := (hB.cell (p := ⟨p, 1, none⟩) HLp).trans p1
  have y2 := (hB.cell (p := ⟨p, 2, none⟩) HLp).trans p2
  have y3 := (hB.cell (p := ⟨p, 3, none⟩) HLp).trans p3
  by_cases hlt : j < m
  · have hlt' : (j : Int) < (m : Int) := by omega
    have hjl : j < es.length := by rw [HM.out]; exact hlt
    have hSr := HS.out.bl hB
    have HSR := Lib.hid hSr
    obtain ⟨g2, off2, hA, hgl, t1, t2, t3, t4⟩ := hSr.ent (k := j) hjl
    injection hA with hA
    injection hA with e1 e2
    subst e1 e2
    have hgood : outB line lines n (es.getD j E0).off = true ∧ (idxOff (es.take j) (es.getD j E0).off).isSome = false ∧ (es.getD j E0).poss = true := by
     have h := HG.out
     unfold entsB at h
     rw [List.all_eq_true] at h
     have := h j (by simpa using hlt)
     simp only [Bool.and_eq_true, Bool.not_eq_true'] at this
     exact ⟨this.1.1, this.1.2, this.2⟩
    obtain ⟨q1, q2, q3⟩ := hgood
    have heg : es.getD j E0 = es[j]'hjl := by rw [List.getD_eq_getElem?_getD, List.getElem?_eq_getElem hjl]; rfl
    have hrr := HR.out _ (List.getElem_mem hjl)
    rw [heg] at q1 q2 q3
    obtain ⟨e, he⟩ : ∃ e, es[j]'hjl = e := ⟨_, rfl⟩
    rw [he] at t1 t2 t3 t4 q1 q2 q3 hrr
    obtain ⟨eo, eold, enew, eex⟩ := e
    dsimp only at t1 t2 t3 t4 q1 q2 hrr
    have HO1 := Lib.hid (fun W => HOUT.out W eo ⟨hrr.1, hrr.2.1⟩)
    rw [q1] at HO1
    have HPO := Lib.hid (fun W => entPossible W ⟨eo, eold, enew, eex⟩ hrr.2.2)
    rw [q3] at HPO
    dsimp only [entV] at HPO
    have HCO : Hid (∀ W ge, Below wr.heap.size wr W → W.cell? ⟨ge, 0, none⟩ = some (.int .u64 eo) → Calls Tryz.prog 136 #[.slice (some ⟨g, off, none⟩) j c, .func (.func 135) #[] #[.pointer (some ⟨ge, 0, none⟩)]] W fun r w' => r = .returned (.bool false) ∧ Below W.heap.size W w') := fun W ge hW hge => by
     have h := contE W (some ⟨g, off, none⟩) j c (es.take j) (by simp; omega) (by omega) ((HSR.out.bl hW).take j hj) ge hge
     rwa [q2] at h
    have hjc : j ≤ c := by have := hSr.2.1; omega
    clear hB hSr heg he q1 q2 q3 hrr
    go_upto_region 7 with (fail)
    have hjcI : (j : Int) ≤ (c : Int) := by omega
    have hj0 : ¬ (j : Int) < 0 := by omega
    obtain ⟨W0, hW0⟩ : ∃ W0, wr.alloc (.cells #[.int .u64 eo, .int .u64 eold, .int .u64 enew, .bool eex] 174) = W0 := ⟨_, rfl⟩
    have hB0 : Below wr.heap.size wr W0 := by rw [← hW0]; (repeat (first | with_reducible (first | exact Below.refl _ _ | refine bl_alloc ?_ _ | refine bl_drew ?_ | refine bl_drewN ?_ _ | refine bl_bx ?_ _ | exact BX.below _ | refine bl_set ?_ (by first | (exact Nat.le_refl _) | (simp; done) | (simp; omega)) _) | assumption))
    have kk := CB.new wr 174 #[.int .u64 eo, .int .u64 eold, .int .u64 enew, .bool eex]
    rw [hW0] at kk
    have k0 : W0.cell? ⟨wr.heap.size, 0, none⟩ = some (.int .u64 eo) := kk.cell 0
    have k1 : W0.cell? ⟨wr.heap.size, 1, none⟩ = some (.int .u64 eold) := kk.cell 1
    have k2 : W0.cell? ⟨wr.heap.size, 2, none⟩ = some (.int .u64 enew) := kk.cell 2
    have k3 : W0.cell? ⟨wr.heap.size, 3, none⟩ = some (.bool eex) := kk.cell 3
    have hls : wr.heap.size < W0.heap.size := by rw [← hW0]; simp
    have HLp0 : p < W0.heap.size := by omega
    have z1 := (hB0.cell (p := ⟨p, 1, none⟩) HLpr).trans y1
    have z2 := (hB0.cell (p := ⟨p, 2, none⟩) HLpr).trans y2
    have z3 := (hB0.cell (p := ⟨p, 3, none⟩) HLpr).trans y3
    have HB0 := Lib.hid hB0
    rw [hW0]
    clear hW0 hB0 kk
    refine wp_region_bx (by kernel_rfl) (by kernel_rfl) ?_
    repeat (go_big_quiet_step (first | (go_at_call 110; exact bx_call (HO1.out _)) | (go_at_call 136; exact bx_call (HCO.out _ _ (HB0.out.trans ((BX.below _).mono HB0.out.size)) (by go_simp))) | (go_at_call 129; exact bx_call (HPO.out _))))
    refine wpQuiet_nil ?_
    rintro _ ⟨x, rfl⟩
    go_wp2
    exact ⟨⟨j + 1, by omega, by go_num, HB.out.trans ((HB0.out.trans (x.below.mono HB0.out.size)).mono HB.out.size)⟩, by simp [intOf]; omega⟩
  · obtain rfl : j = m := by omega
    have y4 : wr.cell? ⟨p, 2, none⟩ = some (.int .i64 lines) := y2
    have yb : wr.cell? ⟨p, 4, none⟩ = some (.slice (some ⟨bb, 0, none⟩) σ.busy.length σ.busy.length) := (hB.cell (p := ⟨p, 4, none⟩) HLp).trans (HPL.out.cell 4)
    have HIX := Lib.hid (indexB wr (some ⟨bb, 0, none⟩) σ.busy.length σ.busy.length σ.busy rfl hbl (HBZ.out.keep (fun b hb => hB.block b (HBZ.out.lt hb))))
    rw [HK.out] at HIX
    dsimp only [idxV] at HIX
    have hk0 : ¬ (k : Int) < 0 := by omega
    have hk1 : (0 : Int) ≤ (k : Int) := by omega
    clear hB
    go_upto_region 17 with (first | (go_at_call 137; refine HIX.out.mono ?_; rintro e w' ⟨rfl, rfl⟩) | (go_at_call 35; refine (HTH.out _ HB.out).mono ?_; rintro e w' ⟨rfl, rfl⟩) | (go_at_call 62; refine (HER.out _ HB.out).mono ?_; rintro e w' ⟨rfl, rfl⟩))
    have hmk := fun W => run_make_z (P := Tryz.prog) 40 34 .u64 .i64 .i64 (j : Int) j rfl Tryz.underlying40 8 info_u64 (by omega) (by omega) W
    have HCL : Hid (∀ W, Below wr.heap.size wr W → Calls Tryz.prog 138 #[.slice (some ⟨g, off, none⟩) j c] W (CleP W (ecells es) j)) := fun W hW => cloneE W g off j c es h1 (by omega) ((HS.out.bl HB.out).bl hW)
    go_cut [14] from 83 (fun s wx => BegRel wr p (t th) k j es s wx)
    case first =>
     go_region_with
      (go_at_call 138; refine (HCL.out _ (by (repeat (first | with_reducible (first | exact Below.refl _ _ | refine bl_alloc ?_ _ | refine bl_drew ?_ | refine bl_drewN ?_ _ | refine bl_bx ?_ _ | exact BX.below _ | refine bl_set ?_ (by first | (exact Nat.le_refl _) | (simp; done) | (simp; omega)) _) | assumption)))).mono ?_; rintro e w' ⟨ea, ec, rfl, hS2, hb, hO⟩; obtain ⟨x, rfl⟩ := bx_of hb; clear hb; have HS2 := Lib.hid hS2; have HO2 := Lib.hid hO; clear hS2 hO; have hxs := x.size; have k0 := x.cell (wr.heap.size + 0) 0; have f0 := x.frozen (wr.heap.size + 0) 0; have m0 := bx_ne1 x (wr.heap.size + 0); have n0 := bx_ne2 x (wr.heap.size + 0); have p0' := bx_ne3 x (wr.heap.size + 0); have q0' := bx_ne4 x (wr.heap.size + 0); simp at k0 f0 m0 n0 p0' q0'; have k1 := x.cell (wr.heap.size + 1) 0; have f1 := x.frozen (wr.heap.size + 1) 0; have m1 := bx_ne1 x (wr.heap.size + 1); have n1 := bx_ne2 x (wr.heap.size + 1); have p1' := bx_ne3 x (wr.heap.size + 1); have q1' := bx_ne4 x (wr.heap.size + 1); simp at k1 f1 m1 n1 p1' q1')
     all_goals go_wp2
     all_goals go_meet
     all_goals
      have hlt := fun b (hb : OwnB ea b) => HS2.out.lt hb
      have ho := fun b (hb : OwnB ea b) => HO2.out b hb
      simp at hxs ho
     all_goals first
      | (refine ⟨_, x.w.heap.size + 1, x.w.heap.size, rfl, ?_, ⟨ea, ec, ?_, HS2.out.keep (fun b hb => ?_), fun b hb => ?_⟩, ?_, ?_, ?_, ?_, ?_, ?_, ?_, ?_⟩
         · repeat (first | with_reducible exact CB.new_at _ _ _ (by simp) | with_reducible refine CB.alloc ?_ _ | with_reducible refine cb_set1 (u := .pointer none) ?_ | with_reducible refine CB.far ?_ (by first | (simp; done) | (simp; omega) | omega) _ | with_reducible refine CB.bx ?_ _ | with_reducible refine CB.drew ?_)
         · repeat (first | with_reducible exact CB.new_at _ _ _ (by simp) | with_reducible refine CB.alloc ?_ _ | with_reducible refine cb_set1 (u := .pointer none) ?_ | with_reducible refine CB.far ?_ (by first | (simp; done) | (simp; omega) | omega) _ | with_reducible refine CB.bx ?_ _ | with_reducible refine CB.drew ?_)
         · exact (show Ch (fun b => ¬ OwnB ea b) x.w _ by repeat (first | with_reducible exact Ch.refl _ _ | with_reducible refine Ch.alloc ?_ _ | with_reducible refine Ch.setCell ?_ (.inl (fun h => by have h1 := ho _ h; dsimp only at h1; omega)) _)).block b (hlt b hb) (fun h => h hb)
         · have h1 := hlt b hb
           have h2 := ho b hb
           refine ⟨?_, ?_, ?_, ?_⟩ <;> omega
         · change CB _ _ _ _
           repeat (first | with_reducible exact CB.new_at _ _ _ (by simp) | with_reducible refine CB.alloc ?_ _ | with_reducible refine cb_set1 (u := .pointer none) ?_ | with_reducible refine CB.far ?_ (by first | (simp; done) | (simp; omega) | omega) _ | with_reducible refine CB.bx ?_ _ | with_reducible refine CB.drew ?_)
         · (repeat (first | with_reducible (first | exact Below.refl _ _ | refine bl_alloc ?_ _ | refine bl_drew ?_ | refine bl_drewN ?_ _ | refine bl_bx ?_ _ | exact BX.below _ | refine bl_set ?_ (by first | (exact Nat.le_refl _) | (simp; done) | (simp; omega)) _) | assumption))
         all_goals omega)
      | (refine ⟨_, x.w.heap.size + 1 + 1, x.w.heap.size, rfl, ?_, ⟨ea, ec, ?_, HS2.out.keep (fun b hb => ?_), fun b hb => ?_⟩, ?_, ?_, ?_, ?_, ?_, ?_, ?_, ?_⟩
         · repeat (first | with_reducible exact CB.new_at _ _ _ (by simp) | with_reducible refine CB.alloc ?_ _ | with_reducible refine cb_set1 (u := .pointer none) ?_ | with_reducible refine CB.far ?_ (by first | (simp; done) | (simp; omega) | omega) _ | with_reducible refine CB.bx ?_ _ | with_reducible refine CB.drew ?_)
         · repeat (first | with_reducible exact CB.new_at _ _ _ (by simp) | with_reducible refine CB.alloc ?_ _ | with_reducible refine cb_set1 (u := .pointer none) ?_ | with_reducible refine CB.far ?_ (by first | (simp; done) | (simp; omega) | omega) _ | with_reducible refine CB.bx ?_ _ | with_reducible refine CB.drew ?_)
         · exact (show Ch (fun b => ¬ OwnB ea b) x.w _ by repeat (first | with_reducible exact Ch.refl _ _ | with_reducible refine Ch.alloc ?_ _ | with_reducible refine Ch.setCell ?_ (.inl (fun h => by have h1 := ho _ h; dsimp only at h1; omega)) _)).block b (hlt b hb) (fun h => h hb)
         · have h1 := hlt b hb
           have h2 := ho b hb
           refine ⟨?_, ?_, ?_, ?_⟩ <;> omega
         · change CB _ _ _ _
           repeat (first | with_reducible exact CB.new_at _ _ _ (by simp) | with_reducible refine CB.alloc ?_ _ | with_reducible refine cb_set1 (u := .pointer none) ?_ | with_reducible refine CB.far ?_ (by first | (simp; done) | (simp; omega) | omega) _ | with_reducible refine CB.bx ?_ _ | with_reducible refine CB.drew ?_)
         · (repeat (first | with_reducible (first | exact Below.refl _ _ | refine bl_alloc ?_ _ | refine bl_drew ?_ | refine bl_drewN ?_ _ | refine bl_bx ?_ _ | exact BX.below _ | refine bl_set ?_ (by first | (exact Nat.le_refl _) | (simp; done) | (simp; omega)) _) | assumption))
         all_goals omega)
      | (refine ⟨_, x.w.heap.size + 1 + 1, x.w.heap.size + 1, rfl, ?_, ⟨ea, ec, ?_, HS2.out.keep (fun b hb => ?_), fun b hb => ?_⟩, ?_, ?_, ?_, ?_, ?_, ?_, ?_, ?_⟩
         · repeat (first | with_reducible exact CB.new_at _ _ _ (by simp) | with_reducible refine CB.alloc ?_ _ | with_reducible refine cb_set1 (u := .pointer none) ?_ | with_reducible refine CB.far ?_ (by first | (simp; done) | (simp; omega) | omega) _ | with_reducible refine CB.bx ?_ _ | with_reducible refine CB.drew ?_)
         · repeat (first | with_reducible exact CB.new_at _ _ _ (by simp) | with_reducible refine CB.alloc ?_ _ | with_reducible refine cb_set1 (u := .pointer none) ?_ | with_reducible refine CB.far ?_ (by first | (simp; done) | (simp; omega) | omega) _ | with_reducible refine CB.bx ?_ _ | with_reducible refine CB.drew ?_)
         · exact (show Ch (fun b => ¬ OwnB ea b) x.w _ by repeat (first | with_reducible exact Ch.refl _ _ | with_reducible refine Ch.alloc ?_ _ | with_reducible refine Ch.setCell ?_ (.inl (fun h => by have h1 := ho _ h; dsimp only at h1; omega)) _)).block b (hlt b hb) (fun h => h hb)
         · have h1 := hlt b hb
           have h2 := ho b hb
           refine ⟨?_, ?_, ?_, ?_⟩ <;> omega
         · change CB _ _ _ _
           repeat (first | with_reducible exact CB.new_at _ _ _ (by simp) | with_reducible refine CB.alloc ?_ _ | with_reducible refine cb_set1 (u := .pointer none) ?_ | with_reducible refine CB.far ?_ (by first | (simp; done) | (simp; omega) | omega) _ | with_reducible refine CB.bx ?_ _ | with_reducible refine CB.drew ?_)
         · (repeat (first | with_reducible (first | exact Below.refl _ _ | refine bl_alloc ?_ _ | refine bl_drew ?_ | refine bl_drewN ?_ _ | refine bl_bx ?_ _ | exact BX.below _ | refine bl_set ?_ (by first | (exact Nat.le_refl _) | (simp; done) | (simp; omega)) _) | assumption))
         all_goals omega)
      | (refine ⟨_, x.w.heap.size, wr.heap.size, rfl, ?_, ⟨ea, ec, ?_, HS2.out.keep (fun b hb => ?_), fun b hb => ?_⟩, ?_, ?_, ?_, ?_, ?_, ?_, ?_, ?_⟩
         · repeat (first | with_reducible exact CB.new_at _ _ _ (by simp) | with_reducible refine CB.alloc ?_ _ | with_reducible refine cb_set1 (u := .pointer none) ?_ | with_reducible refine CB.far ?_ (by first | (simp; done) | (simp; omega) | omega) _ | with_reducible refine CB.bx ?_ _ | with_reducible refine CB.drew ?_)
         · repeat (first | with_reducible exact CB.new_at _ _ _ (by simp) | with_reducible refine CB.alloc ?_ _ | with_reducible refine cb_set1 (u := .pointer none) ?_ | with_reducible refine CB.far ?_ (by first | (simp; done) | (simp; omega) | omega) _ | with_reducible refine CB.bx ?_ _ | with_reducible refine CB.drew ?_)
         · exact (show Ch (fun b => ¬ OwnB ea b) x.w _ by repeat (first | with_reducible exact Ch.refl _ _ | with_reducible refine Ch.alloc ?_ _ | with_reducible refine Ch.setCell ?_ (.inl (fun h => by have h1 := ho _ h; dsimp only at h1; omega)) _)).block b (hlt b hb) (fun h => h hb)
         · have h1 := hlt b hb
           have h2 := ho b hb
           refine ⟨?_, ?_, ?_, ?_⟩ <;> omega
         · change CB _ _ _ _
           repeat (first | with_reducible exact CB.new_at _ _ _ (by simp) | with_reducible refine CB.alloc ?_ _ | with_reducible refine cb_set1 (u := .pointer none) ?_ | with_reducible refine CB.far ?_ (by first | (simp; done) | (simp; omega) | omega) _ | with_reducible refine CB.bx ?_ _ | with_reducible refine CB.drew ?_)
         · (repeat (first | with_reducible (first | exact Below.refl _ _ | refine bl_alloc ?_ _ | refine bl_drew ?_ | refine bl_drewN ?_ _ | refine bl_bx ?_ _ | exact BX.below _ | refine bl_set ?_ (by first | (exact Nat.le_refl _) | (simp; done) | (simp; omega)) _) | assumption))
         all_goals omega)
      | (refine ⟨_, x.w.heap.size + 1, wr.heap.size, rfl, ?_, ⟨ea, ec, ?_, HS2.out.keep (fun b hb => ?_), fun b hb => ?_⟩, ?_, ?_, ?_, ?_, ?_, ?_, ?_, ?_⟩
         · repeat (first | with_reducible exact CB.new_at _ _ _ (by simp) | with_reducible refine CB.alloc ?_ _ | with_reducible refine cb_set1 (u := .pointer none) ?_ | with_reducible refine CB.far ?_ (by first | (simp; done) | (simp; omega) | omega) _ | with_reducible refine CB.bx ?_ _ | with_reducible refine CB.drew ?_)
         · repeat (first | with_reducible exact CB.new_at _ _ _ (by simp) | with_reducible refine CB.alloc ?_ _ | with_reducible refine cb_set1 (u := .pointer none) ?_ | with_reducible refine CB.far ?_ (by first | (simp; done) | (simp; omega) | omega) _ | with_reducible refine CB.bx ?_ _ | with_reducible refine CB.drew ?_)
         · exact (show Ch (fun b => ¬ OwnB ea b) x.w _ by repeat (first | with_reducible exact Ch.refl _ _ | with_reducible refine Ch.alloc ?_ _ | with_reducible refine Ch.setCell ?_ (.inl (fun h => by have h1 := ho _ h; dsimp only at h1; omega)) _)).block b (hlt b hb) (fun h => h hb)
         · have h1 := hlt b hb
           have h2 := ho b hb
           refine ⟨?_, ?_, ?_, ?_⟩ <;> omega
         · change CB _ _ _ _
           repeat (first | with_reducible exact CB.new_at _ _ _ (by simp) | with_reducible refine CB.alloc ?_ _ | with_reducible refine cb_set1 (u := .pointer none) ?_ | with_reducible refine CB.far ?_ (by first | (simp; done) | (simp; omega) | omega) _ | with_reducible refine CB.bx ?_ _ | with_reducible refine CB.drew ?_)
         · (repeat (first | with_reducible (first | exact Below.refl _ _ | refine bl_alloc ?_ _ | refine bl_drew ?_ | refine bl_drewN ?_ _ | refine bl_bx ?_ _ | exact BX.below _ | refine bl_set ?_ (by first | (exact Nat.le_refl _) | (simp; done) | (simp; omega)) _) | assumption))
         all_goals omega)
      | (refine ⟨_, x.w.heap.size, wr.heap.size + 1, rfl, ?_, ⟨ea, ec, ?_, HS2.out.keep (fun b hb => ?_), fun b hb => ?_⟩, ?_, ?_, ?_, ?_, ?_, ?_, ?_, ?_⟩
         · repeat (first | with_reducible exact CB.new_at _ _ _ (by simp) | with_reducible refine CB.alloc ?_ _ | with_reducible refine cb_set1 (u := .pointer none) ?_ | with_reducible refine CB.far ?_ (by first | (simp; done) | (simp; omega) | omega) _ | with_reducible refine CB.bx ?_ _ | with_reducible refine CB.drew ?_)
         · repeat (first | with_reducible exact CB.new_at _ _ _ (by simp) | with_reducible refine CB.alloc ?_ _ | with_reducible refine cb_set1 (u := .pointer none) ?_ | with_reducible refine CB.far ?_ (by first | (simp; done) | (simp; omega) | omega) _ | with_reducible refine CB.bx ?_ _ | with_reducible refine CB.drew ?_)
         · exact (show Ch (fun b => ¬ OwnB ea b) x.w _ by repeat (first | with_reducible exact Ch.refl _ _ | with_reducible refine Ch.alloc ?_ _ | with_reducible refine Ch.setCell ?_ (.inl (fun h => by have h1 := ho _ h; dsimp only at h1; omega)) _)).block b (hlt b hb) (fun h => h hb)
         · have h1 := hlt b hb
           have h2 := ho b hb
           refine ⟨?_, ?_, ?_, ?_⟩ <;> omega
         · change CB _ _ _ _
           repeat (first | with_reducible exact CB.new_at _ _ _ (by simp) | with_reducible refine CB.alloc ?_ _ | with_reducible refine cb_set1 (u := .pointer none) ?_ | with_reducible refine CB.far ?_ (by first | (simp; done) | (simp; omega) | omega) _ | with_reducible refine CB.bx ?_ _ | with_reducible refine CB.drew ?_)
         · (repeat (first | with_reducible (first | exact Below.refl _ _ | refine bl_alloc ?_ _ | refine bl_drew ?_ | refine bl_drewN ?_ _ | refine bl_bx ?_ _ | exact BX.below _ | refine bl_set ?_ (by first | (exact Nat.le_refl _) | (simp; done) | (simp; omega)) _) | assumption))
         all_goals omega)
      | trace_state
    case rest =>
     obtain ⟨gO, ao, sb, rfl, hCO, ⟨ea, ec, hCA, hSE, hOE⟩, hIB, hBc, g1, g2, g3, n1, n2, n3⟩ := hcut
     have HOE := Lib.hid hOE
     have HI0 : Hid (BegOrd wr p (t th) k j es gO ao sb ea ec 0 none 0 wc) := ⟨hCO, hCA, hSE, hIB, hBc, Sl.nil, fun b hb => by simp [OwnB] at hb⟩
     clear hCO hCA hSE hOE hIB hBc HCL hmk
     obtain ⟨wb, rfl⟩ : ∃ wb, wb = wr := ⟨wr, rfl⟩
     go_upto_region 18 with (fail)
     go_wp2
     go_loopw [95, 15, 96, 97, 98, 99, 100, 101, 102, 103, 104, 105, 106, 107, 108] (fun i _ _ _ _ _ _ _ _ _ _ _ _ _ _ wr => ∃ (q : Nat) (A : Option Addr) (c2 : Nat), q ≤ j ∧ i = .int .i64 q ∧ BegOrd wb p (t th) k j es gO ao sb ea ec q A c2 wr) (fun i _ _ _ _ _ _ _ _ _ _ _ _ _ _ _ => j - (intOf i).toNat)
     case atStart => exact ⟨0, none, 0, by omega, rfl, HI0.out⟩
     case round =>
      clear HI0
      obtain ⟨q, A, c2, hq, rfl, hI⟩ := hrel
      have HI := Lib.hid hI
      obtain ⟨hCO, hCA, hSE, hIB, hBc, hSI, hOI⟩ := hI
      have co : wr.cell? ⟨gO, 0, none⟩ = some (.pointer (some ⟨ao, 0, none⟩)) := hCO.cell 0
      have ca : wr.cell? ⟨ao, 4, none⟩ = some (.slice A q c2) := hCA.cell 4
      have fa := hCA.frozen 4
      have lo := hCO.lt
      have la := hCA.lt
      have HCO := Lib.hid hCO
      have HCA := Lib.hid hCA
      have HSE := Lib.hid hSE
      have HIB := Lib.hid hIB
      have HBC := Lib.hid hBc
      have HSI := Lib.hid hSI
      have HOI := Lib.hid hOI
      clear hCO hCA hSE hIB hBc hSI hOI
      by_cases hlq : q < j
      · have hlq' : (q : Int) < (j : Int) := by omega
        go_upto_region 21 with (fail)
        go_region_law (first | (refine step_append_17 rfl (.tmp 102) (.tmp 104) 23 rfl 3 (.int .i64 0) 1 8 rfl (by omega) Tryz.underlying23 info_int17 (by omega) A q c2 (kints (List.range q)) ⟨wr.heap.size, 0, none⟩ 1 1 [.int .i64 (q : Int)] (by go_simp) (by go_simp) (HSI.out.keep (fun b hb => Below.heap_alloc _ _ b (HSI.out.lt hb))) rfl (by omega) (cells_one17 wr 3 _) (by simp; rfl) (by omega) ?_; intro A2 c3 w2 HO2 HC2 HW2 HN2; have HF2 : Hid (BegFacts w2 gO ao p (t th) k j ea ec q A c2 sb) := ⟨(HCO.out.alloc _).drew.ch HC2.out (fun h => (HOI.out _ h).2.2.2.1 rfl), (HCA.out.alloc _).drew.ch HC2.out (fun h => (HOI.out _ h).2.1 rfl)⟩; have k0 : w2.cell? ⟨gO, 0, none⟩ = some (.pointer (some ⟨ao, 0, none⟩)) := HF2.out.cO.cell 0; have k4 : w2.cell? ⟨ao, 4, none⟩ = some (.slice A q c2) := HF2.out.cA.cell 4; have k5 := HF2.out.cA.frozen 4; have k6 := HF2.out.cO.lt; have k7 := HF2.out.cA.lt))
        all_goals go_wp2
        all_goals refine ⟨⟨q + 1, A2, c3, by omega, by go_num, ?_⟩, by simp [intOf]; omega⟩
        all_goals
         have hx := HC2.out.size
         simp at hx
         have hoc := HOI.out
         have hA2 : ∀ b, OwnB A2 b → wb.heap.size ≤ b ∧ b ≠ ao ∧ b ≠ sb ∧ b ≠ gO ∧ ¬ OwnB ea b := fun b hb => by
          rcases HW2.out b hb with h | h
          · exact hoc b h
          · have h1 := HBC.out.size
            have h2 := HCA.out.lt
            have h3 := HCO.out.lt
            have h4 := HIB.out.lt
            have h5 : ∀ b, OwnB ea b → b < wr.heap.size := fun b hb => HSE.out.lt hb
            simp at h
            exact ⟨by omega, by omega, by omega, by omega, fun he => by have := h5 b he; omega⟩
         have hbw : Below wb.heap.size wb w2 := bl_ch (bl_drew (bl_alloc HBC.out _)) HC2.out (fun b hb => (hoc b hb).1)
         have hea : ∀ b, OwnB ea b → b ≠ ao := fun b hb => (HOE.out b hb).2.1
         refine ⟨(HF2.out.cO.far (p := ⟨ao, 4, none⟩) n1 _), HF2.out.cA.set 4 _, ?_, ?_, bl_set hbw (by omega) _, ?_, hA2⟩
         · exact (HSE.out.keep (w' := w2) (fun b hb => (HC2.out.block b (by have := HSE.out.lt hb; simp; omega) (fun h => (hoc b h).2.2.2.2 hb)).trans (Below.heap_alloc _ _ b (HSE.out.lt hb)))).keep (fun b hb => Below.heap_setCell _ _ _ _ (hea b hb))
         · exact ((show IB .u64 34 (wr.alloc (.cells #[.int .i64 (q : Int)] 3)).drew sb _ from HIB.out.alloc _).ch (w' := w2) HC2.out (fun h => (hoc _ h).2.2.1 rfl)).far (p := ⟨ao, 4, none⟩) n3 _
         · have hh := HO2.out.keep (w' := w2.setCell ⟨ao, 4, none⟩ (.slice A2 (q + 1) c3)) (fun b hb => Below.heap_setCell _ _ _ _ (hA2 b hb).2.1)
           rw [kints_range]; exact hh
      · obtain rfl : q = j := by omega
        have hb1 : Below w.heap.size w wr := HB.out.trans (HBC.out.mono HB.out.size)
        have hbe := HB.out.size
        obtain ⟨blk, bo, hA⟩ := own_some HSI.out (by omega)
        subst hA
        have hob := HOI.out blk (by simp [OwnB])
        have HSRT := Lib.hid (sortI17 wr gO ao blk bo c2 q (by omega) (by omega) (List.range q) (List.Perm.refl _) HSI.out ea ec es HM.out co (HCA.out.cell 3) HSE.out hob.2.2.2.1 hob.2.1 (fun b hb he => hob.2.2.2.2 (by rw [← he]; exact hb)))
        have hkl : k < σ.busy.length := by
         have := List.mem_of_find?_eq_some HK.out
         simpa using this
        have hkI : (k : Int) < (σ.busy.length : Int) := by omega
        have HOB := Lib.hid hob
        clear hob
        go_wp2_with (go_at_call 139; refine HSRT.out.mono ?_; rintro e w5 ⟨rfl, ks, hp, hSk, hCk⟩; have hbw5 : Below w.heap.size w w5 := bl_ch hb1 hCk (fun b hb => by rw [show b = blk from hb]; have := HOB.out.1; omega); have z2 : w5.cell? ⟨p, 4, none⟩ = some (.slice (some ⟨bb, 0, none⟩) σ.busy.length σ.busy.length) := ((hbw5.cell (p := ⟨p, 4, none⟩) HLp).trans (HPL.out.cell 4)); have zb : Hid (Sl 4 1 w5 (some ⟨bb, 0, none⟩) σ.busy.length σ.busy.length (bools σ.busy)) := (HBZ.out.keep (fun b hb => hbw5.block b (HBZ.out.lt hb))); have zf := zb.out.unfrozen k; have zk : ∃ v, w5.cell? ⟨bb, k, none⟩ = some v := Sl.cell_ex zb.out hkl; obtain ⟨zv, zk⟩ := zk; have zo : w5.cell? ⟨gO, 0, none⟩ = some (.pointer (some ⟨ao, 0, none⟩)) := (HCO.out.ch hCk (fun h => HOB.out.2.2.2.1 h.symm)).cell 0; have zl : gO < w5.heap.size := (Nat.lt_of_lt_of_le lo hCk.size); have zl2 : bb < w5.heap.size := (Nat.lt_of_lt_of_le HLb hbw5.size); have zl3 : p < w5.heap.size := (Nat.lt_of_lt_of_le HLp hbw5.size); have zn : ¬ gO = bb := (by omega); have HPK := Lib.hid hp; have HSK := Lib.hid hSk; have HCK := Lib.hid hCk; have HBW5 := Lib.hid hbw5; clear hp hSk hCk hbw5)
        refine bodyPost_ret (v := .tuple #[.pointer (some ⟨ao, 0, none⟩), .int .i64 0]) (by simp [results, Tryz.results115, go_sem]) rfl ⟨ao, ks, rfl, by omega, HPK.out, ?_⟩
        have hbe2 : w.heap.size ≤ wb.heap.size := HB.out.size
        have hao : w.heap.size ≤ ao := by omega
        have hsb : w.heap.size ≤ sb := by omega
        have haob : ao ≠ bb := by omega
        have hz := zb.out.set (j := k) (by simpa [bools] using hkl) (.bool true)
        rw [Nat.zero_add, ← bools_set] at hz
        have hkl2 : ks.length = q := by rw [HPK.out.length_eq]; simp
        have hob := HOB.out
        have hoe := HOE.out
        have hea : ∀ b, OwnB ea b → b ≠ blk := fun b hb he => hob.2.2.2.2 (by rw [← he]; exact hb)
        have hlt5 := HBW5.out.size
        have hbl5 : ∀ b, OwnB ea b → w.heap.size ≤ b := fun b hb => by have := (hoe b hb).1; omega
        refine PMx.opNew (o := newOp k th es ks) HPM.out HK0.out ((Ch.of_below (S := At bb) HBW5.out).set1 k _) hao hz ⟨ea, ec, some ⟨blk, bo, none⟩, c2, sb, q, none, 0, ?_, ?_, ?_, ?_, ?_, Sl.nil, hsb, n3, fun b hb => ?_, fun b hb => ?_, fun b hb => by simp [OwnB] at hb⟩
        · have hcb := ((HCA.out.ch HCK.out (fun h => hob.2.1 h.symm)).far (p := ⟨bb, k, none⟩) haob (.bool true))
          have he : opcells p t (newOp k th es ks) ea ec (some ⟨blk, bo, none⟩) c2 sb q none 0 = #[.pointer (some ⟨p, 0, none⟩), .pointer (some ⟨t th, 0, none⟩), .int .i64 (k : Int), .slice ea q ec, .slice (some ⟨blk, bo, none⟩) q c2, .slice (some ⟨sb, 0, none⟩) q q, .int .i64 0, .int .i64 0, .slice none 0 0, .bool false, .bool false, .bool false, .int .i64 0, .pointer none, .int .i64 0, .int .i64 0] := by
           unfold opcells newOp
           simp [HM.out, hkl2, optP]
          rw [he]; exact hcb
        · show Sl _ _ _ ea es.length ec (ecells es)
          rw [HM.out]
          exact (HSE.out.ch HCK.out (fun b hb => hea b hb)).keep (fun b hb => Below.heap_setCell _ _ _ _ (by have := hbl5 b hb; show b ≠ bb; omega))
        · show Sl _ _ _ _ ks.length c2 (kints ks)
          rw [hkl2]
          exact HSK.out.keep (fun b hb => Below.heap_setCell _ _ _ _ (by have h : blk = b := (by simpa [OwnB] using hb); have h2 := hob.1; show b ≠ bb; omega))
        · show IB _ _ _ sb (List.replicate es.length 0)
          rw [HM.out]
          exact (HIB.out.ch HCK.out (fun h => hob.2.2.1 h.symm)).far (p := ⟨bb, k, none⟩) (by show sb ≠ bb; omega) _
        · show (List.replicate es.length (0 : Int)).length ≤ q
          rw [List.length_replicate, HM.out]; omega
        · exact ⟨hbl5 b hb, (hoe b hb).2.1, (hoe b hb).2.2.1⟩
        · have h : blk = b := by simpa [OwnB] using hb
          subst h
          exact ⟨by omega, hob.2.1, hob.2.2.1⟩
end
section
variable {K : Nat → Prop} {p d a line lines : Nat} {t : Nat → Nat} {size : Int} {w w' : World} {σ : PwS} {n : Nat}
set_option maxRecDepth 100000 in
set_option maxHeartbeats 2000000 in
/-- What Read returns. -/
theorem pwRead (H : PMx K p d t line lines ((n : Int) * 64) w σ) (hn : n < 100000) (hl : line + lines < 100000) (th : Nat) (hth : th < 8) (off : Int) (ho : 0 ≤ off ∧ off < 18446744073709551616) (hg : outB line lines n off = true) :
 Calls Tryz.prog 91 #[.pointer (some ⟨p, 0, none⟩), .int .i64 (th : Int), .int .u64 off] w fun r w' => ∃ g, r = .returned (.pointer (some ⟨g, 0, none⟩)) ∧ CB w' g 168 (rdcells (.pointer (some ⟨p, 0, none⟩)) (.pointer (some ⟨t th, 0, none⟩)) ⟨th, off, 0, 0, false, 0⟩) ∧ w.heap.size ≤ g ∧ Below w.heap.size w w' := by
 have HP := Lib.hid H
 obtain ⟨role, bb, hPM, hK0⟩ := H
 have HLp := hPM.lt.1
 have hpl := hPM.pl
 have p0 : w.cell? ⟨p, 0, none⟩ = some (.pointer (some ⟨d, 0, none⟩)) := hpl.cell 0
 have p1 : w.cell? ⟨p, 1, none⟩ = some (.int .i64 line) := hpl.cell 1
 have p2 : w.cell? ⟨p, 2, none⟩ = some (.int .i64 lines) := hpl.cell 2
 have p3 : w.cell? ⟨p, 3, none⟩ = some (.int .u64 ((n : Int) * 64)) := hpl.cell 3
 have HOUT := Lib.hid (rgOutside w line lines n hl hn off ho)
 rw [hg] at HOUT
 have hthI : ¬ (th : Int) < 0 := by omega
 have hth8 : ¬ (th : Int) ≥ 8 := by omega
 have HTH : Hid (∀ W, Below w.heap.size w W → Calls Tryz.prog 35 #[.pointer (some ⟨d, 0, none⟩), .int .i64 (th : Int)] W fun e w' => e = .returned (.pointer (some ⟨t th, 0, none⟩)) ∧ W = w') := fun W hW => by
  obtain ⟨role, bb, h, hK⟩ := HP.out.bl0 hW
  exact vThread h.dv th hth
 clear hPM hK0 hpl hg hth
 go_enter Tryz.func91, Tryz.ntmps91
 go_wp2_with (first
  | (go_at_call 110; refine HOUT.out.mono ?_; rintro e w' ⟨rfl, hb⟩; obtain ⟨x, rfl⟩ := bx_of hb; clear hb)
  | (go_at_call 35; refine (HTH.out _ (by (repeat (first | with_reducible (first | exact Below.refl _ _ | refine bl_alloc ?_ _ | refine bl_drew ?_ | refine bl_drewN ?_ _ | refine bl_bx ?_ _ | exact BX.below _ | refine bl_set ?_ (by first | (exact Nat.le_refl _) | (simp; done) | (simp; omega)) _) | assumption)))).mono ?_; rintro e w' ⟨rfl, rfl⟩))
 go_ret
 exact ⟨_, rfl, CB.new _ _ _, by have := x.size; omega, (by (repeat (first | with_reducible (first | exact Below.refl _ _ | refine bl_alloc ?_ _ | refine bl_drew ?_ | refine bl_drewN ?_ _ | refine bl_bx ?_ _ | exact BX.below _ | refine bl_set ?_ (by first | (exact Nat.le_refl _) | (simp; done) | (simp; omega)) _) | assumption)))⟩
end
end Go.Proofs.YtaefkelaffijbaaGreatDoor
