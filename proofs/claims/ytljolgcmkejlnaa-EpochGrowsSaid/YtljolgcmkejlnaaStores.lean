/- Contract of Stores: the program that makes writes persistent. -/
import Derived.Test.YtljolgcmkejlnaaCompact
namespace Go.Proofs.Ytljolgcmkejlnaa
open Go.RowKit
set_option linter.unusedVariables false

def startOf (off : Int) : Int := off - off % 64
theorem memStart (w : World) (off : Int) (h : 0 ≤ off ∧ off < 18446744073709551616) : Calls Try.prog 54 #[.int .u64 off] w fun e w' => e = .returned (.int .u64 (startOf off)) ∧ w = w' := by
  obtain ⟨h1, h2⟩ := h
  have e1 : IntKind.u64.wrap (off - off % 64) = off - off % 64 := IntWalk.u64_in _ (by omega)
  unfold startOf
  go_enter Try.func54, Try.ntmps54
  go_wp2
  go_ret
  exact ⟨rfl, rfl⟩

theorem info_instr : (Try.prog.info? 110).map (fun i => (i.zero, i.size, i.bytes)) = some (some (.agg #[.int .u8 0, .int .u64 0, .int .u64 0]), 3, 24) := by kernel_rfl

/-- make of an empty slice of words with room for n. -/
theorem run_make_room {P : Program} (t e : TypeId) (n : Nat) (ht : P.underlying t = some (.slice e)) (hinfo : (P.info? e).map (fun i => (i.zero, i.size, i.bytes)) = some (some (.int .u64 0), 1, 8)) (hn : n ≤ 1000000) (w : World) :
    (Instr.makeSlice t (.int .i64 0) (.int .i64 (n : Int))).run P w = .ok (.slice (some ⟨w.heap.size, 0, none⟩) 0 n) (w.alloc (.cells (ia .u64 (List.replicate n (0 : Int))) e)) := by
  cases hi : P.info? e with
  | none => rw [hi] at hinfo; cases hinfo
  | some i =>
    rw [hi] at hinfo
    simp only [Option.map_some, Option.some.injEq, Prod.mk.injEq] at hinfo
    obtain ⟨hz, hs, hb⟩ := hinfo
    have hr := run_make (P := P) w t e i (.int .u64 0) ht hi hz .i64 .i64 0 n (by omega) (by omega) (by rw [hb]; omega) (by omega)
    rw [hr, hs]
    simp only [Int.toNat_natCast, Nat.mul_one, Int.toNat_zero]
    congr 3
    congr 1
    simp only [madeCells, Value.cells, ia, List.map_replicate]
    apply Array.ext
    · simp
    · intro i h1 h2
      simp [Nat.mod_one]
/-- append of one word to a slice with room. -/
theorem wpList_append_ib {P : Program} {w : World} {ops : Array Oper} {rest : List Oper} {o : Oper} {a : Act} {Q : Exit → Act → World → Prop} (hgd : o.guard = none) (s x : Operand) (t : TypeId)
    (ho : o.op = .call { callee := .builtin .append, args := #[s, x], argTypes := #[t, t] }) (e : TypeId) (ht : P.underlying t = some (.slice e)) (hinfo : (P.info? e).map (fun i => (i.zero, i.size, i.bytes)) = some (some (.int .u64 0), 1, 8))
    (g k c : Nat) (ad : Addr) (d : Nat) (v : Int) (xs : List Int) (hse : a.eval s = .slice (some ⟨g, 0, none⟩) k c) (hxe : a.eval x = .slice (some ad) 1 d) (hI : IB .u64 e w g xs) (hk : k < c) (hc : c ≤ xs.length) (hv : w.cell? (ad.add 0) = some (.int .u64 v))
    (h : wpList P ops Q rest (a.put o.dst (.slice (some ⟨g, 0, none⟩) (k + 1) c)) (w.setCell ⟨g, k, none⟩ (.int .u64 v))) : wpList P ops Q (o :: rest) a w := by
  refine wpList_plain hgd fun K hK => ?_
  cases hi : P.info? e with
  | none => rw [hi] at hinfo; cases hinfo
  | some i =>
    rw [hi] at hinfo
    simp only [Option.map_some, Option.some.injEq, Prod.mk.injEq] at hinfo
    obtain ⟨hz, hs, hb⟩ := hinfo
    have hrun := run_append_room_cells (P := P) w t o.type e i ht hi g 0 k c ad 1 d [.int .u64 v] (by rw [hs]; rfl) (fun j u hj => by
        cases j with
        | zero => simp at hj; subst hj; exact hv
        | succ j => simp at hj) (fun u hu => by simp at hu; subst hu; rfl) (by omega)
      (fun j hj => by
        obtain rfl : j = 0 := by simpa using hj
        rw [hs, show 0 + k * 1 + 0 = k by omega, hI.cell (by omega)]; rfl) (fun j hj => hI.frozen _)
    have e1 : w.setCells g (0 + k * i.size) [.int .u64 v] = w.setCell ⟨g, k, none⟩ (.int .u64 v) := by rw [hs]; simp [World.setCells]
    rw [e1] at hrun
    unfold Oper.wp execOp
    simp only [ho, resolve, invoke, builtin, Sem.run_bind, Sem.run_pure, Result.andThen_ok, List.map_toArray, List.map_cons, List.map_nil, hse, hxe, hrun]
    exact hK _ _ h

/-- The stores of writes. -/
def insSt (ws : List (Int × Int)) : List Ins := ws.map fun p => (1, p.1, p.2)
def insFl (ls : List Int) : List Ins := ls.map fun l => (2, l, 0)
def starts (ws : List (Int × Int)) : List Int := ws.map fun p => startOf p.1
/-- The program of Stores. -/
def storesP (ws : List (Int × Int)) : List Ins := insSt ws ++ insFl (cpt (starts ws)) ++ [(3, 0, 0)]
theorem ins_one (a b c : Int) : ∀ u ∈ ([.int .u8 a, .int .u64 b, .int .u64 c] : List Value), u.oneCell' = true := by
  intro u hu
  simp only [List.mem_cons, List.not_mem_nil, or_false] at hu
  rcases hu with rfl | rfl | rfl <;> rfl
theorem cells_three (w : World) (e : TypeId) (a b c : Value) : ∀ (j : Nat) (u : Value), [a, b, c][j]? = some u → (w.alloc (.cells #[a, b, c] e)).cell? ((⟨w.heap.size, 0, none⟩ : Addr).add j) = some u := by
  intro j u hu
  have h1 : (⟨w.heap.size, 0, none⟩ : Addr).add j = ⟨w.heap.size, 0 + j, none⟩ := by unfold Addr.add; split <;> simp_all
  rw [h1, Nat.zero_add, (CB.new w e #[a, b, c]).cell]
  have : j = 0 ∨ j = 1 ∨ j = 2 ∨ 3 ≤ j := by omega
  rcases this with rfl | rfl | rfl | h
  · simpa using hu
  · simpa using hu
  · simpa using hu
  · rw [List.getElem?_eq_none (by simpa using h)] at hu; cases hu
/-- The lines so far, in n words. -/
def lnPad (ws : List (Int × Int)) (n k : Nat) : List Int := starts (ws.take k) ++ List.replicate (n - k) 0
theorem length_lnPad (ws : List (Int × Int)) (n k : Nat) (hw : ws.length = n) (hk : k ≤ n) : (lnPad ws n k).length = n := by simp [lnPad, starts]; omega
theorem lnPad_set (ws : List (Int × Int)) (n k : Nat) (hw : ws.length = n) (hk : k < n) : (lnPad ws n k).set k (startOf (ws[k]'(by omega)).1) = lnPad ws n (k + 1) := by
  have hkl : k < ws.length := by omega
  unfold lnPad starts
  rw [List.take_succ_eq_append_getElem hkl, List.set_append_right _ _ (by simp; omega)]
  obtain ⟨m, hm⟩ : ∃ m, n - k = m + 1 := ⟨n - k - 1, by omega⟩
  have h2 : n - (k + 1) = m := by omega
  have h3 : k - (List.map (fun p => startOf p.1) (List.take k ws)).length = 0 := by simp; omega
  rw [hm, h2, h3, List.replicate_succ, List.set_cons_zero, List.map_append]
  simp [-List.take_append_getElem]
theorem lnPad_all (ws : List (Int × Int)) (n : Nat) (hw : ws.length = n) : lnPad ws n n = starts ws := by
  unfold lnPad
  rw [List.take_of_length_le (by omega), Nat.sub_self]; simp
/-- The first loop's invariant. -/
def StoInv (w : World) (g n : Nat) (ws : List (Int × Int)) (k : Nat) (A : Option Addr) (c : Nat) (wr : World) : Prop :=
  Sl 110 3 wr A k c (pcells (insSt (ws.take k))) ∧ IB .u64 25 wr g (lnPad ws n k) ∧ Below w.heap.size w wr ∧ ∀ b, OwnB A b → w.heap.size ≤ b ∧ b ≠ g
theorem cpt_length (xs : List Int) : ∀ k, (cpt (xs.take k)).length ≤ k := by
  intro k
  induction k with
  | zero => simp [cpt]
  | succ k ih =>
    by_cases hk : k < xs.length
    · rw [List.take_succ_eq_append_getElem hk, cpt_snoc]
      split
      · omega
      · rw [List.length_append]; simp; exact ih
    · rw [List.take_of_length_le (by omega)] at ih ⊢
      omega
theorem cpt_le (xs : List Int) : (cpt xs).length ≤ xs.length := by have := cpt_length xs xs.length; rwa [List.take_length] at this
/-- The second loop's invariant. -/
def StoInv2 (w : World) (g n : Nat) (ws : List (Int × Int)) (zs cs : List Int) (j : Nat) (A : Option Addr) (c : Nat) (wr : World) : Prop :=
  Sl 110 3 wr A (n + j) c (pcells (insSt ws ++ insFl (cs.take j))) ∧ IB .u64 25 wr g zs ∧ Below w.heap.size w wr ∧ ∀ b, OwnB A b → w.heap.size ≤ b ∧ b ≠ g
def StoPost (w : World) (ps : List Ins) (e : Ending) (w' : World) : Prop :=
  ∃ A c, e = .returned (.slice A ps.length c) ∧ Sl 110 3 w' A ps.length c (pcells ps) ∧ Below w.heap.size w w' ∧ ∀ b, OwnB A b → w.heap.size ≤ b

set_option maxRecDepth 100000 in
set_option maxHeartbeats 4000000 in
theorem memStores (w : World) (A : Option Addr) (n c : Nat) (ws : List (Int × Int)) (hn : ws.length = n) (h1 : 1 ≤ n) (hm : n ≤ 12) (hS : Sl 90 2 w A n c (wcells ws)) (hr : ∀ p ∈ ws, 0 ≤ p.1 ∧ p.1 < 18446744073709551616) (hs : (starts ws).Pairwise (· ≤ ·)) :
    Calls Try.prog 44 #[.slice A n c] w (StoPost w (storesP ws)) := by
  have HN := Lib.hid hn
  have HS := Lib.hid hS
  have HR := Lib.hid hr
  have HSo := Lib.hid hs
  have e0 : ((n : Int) == 0) = false := by simp; omega
  have hmk : ∀ W : World, (Instr.makeSlice 84 (.int .i64 0) (.int .i64 (n : Int))).run Try.prog W = .ok (.slice (some ⟨W.heap.size, 0, none⟩) 0 n) (W.alloc (.cells (ia .u64 (List.replicate n 0)) 25)) := run_make_room 84 25 n Try.underlying84 info_u64 (by omega)
  clear hn hS hr hs
  go_enter Try.func44, Try.ntmps44
  go_wp2
  have HI0 : Hid (StoInv w w.heap.size n ws 0 none 0 (w.alloc (.cells (ia .u64 (List.replicate n 0)) 25))) := by
    refine ⟨Sl.nil, ?_, bl_alloc (Below.refl _ _) _, by simp [OwnB]⟩
    have : lnPad ws n 0 = List.replicate n 0 := by simp [lnPad, starts]
    rw [this]; exact IB.new _ _
  obtain ⟨g, hg⟩ : ∃ g, w.heap.size = g := ⟨_, rfl⟩
  obtain ⟨W, hW⟩ : ∃ W, w.alloc (.cells (ia .u64 (List.replicate n 0)) 25) = W := ⟨_, rfl⟩
  have HI1 : Hid (StoInv w g n ws 0 none 0 W) := by show StoInv _ _ _ _ _ _ _ _; rw [← hg, ← hW]; exact HI0.out
  have hgw : w.heap.size ≤ g := by omega
  rw [hg, hW]
  clear hmk hg hW HI0
  go_loopw [17, 3, 4, 6, 18, 19, 20, 21, 22, 23, 24, 25, 26, 27, 28, 29, 30, 31, 32, 33, 34, 35] (fun i p l _ _ _ _ _ _ _ _ _ _ _ _ _ _ _ _ _ _ _ wr => ∃ (k : Nat) (A' : Option Addr) (c' : Nat), k ≤ n ∧ i = .int .i64 k ∧ p = .slice A' k c' ∧ l = .slice (some ⟨g, 0, none⟩) k n ∧ StoInv w g n ws k A' c' wr) (fun i p l _ _ _ _ _ _ _ _ _ _ _ _ _ _ _ _ _ _ _ _ => n - (intOf i).toNat)
  case atStart => exact ⟨0, none, 0, by omega, rfl, rfl, rfl, HI1.out⟩
  case round =>
    clear HI1
    obtain ⟨k, A', c', hk, rfl, rfl, rfl, hP, hI, hB, hO⟩ := hrel
    have HP := Lib.hid hP
    have HI := Lib.hid hI
    have HB := Lib.hid hB
    have HO := Lib.hid hO
    by_cases hlt : k < n
    · have hkl : k < ws.length := by rw [HN.out]; exact hlt
      obtain ⟨gw, ow, hA, hl, c1, c2⟩ := (HS.out.keep (fun b hb => hB.block b (HS.out.lt hb))).wr hkl
      obtain ⟨⟨of, v⟩, hp⟩ : ∃ p, ws[k] = p := ⟨_, rfl⟩
      have hpp := HR.out _ (List.getElem_mem hkl)
      rw [hp] at c1 c2 hpp
      have HPP := Lib.hid hp
      have hof : 0 ≤ of ∧ of < 18446744073709551616 := hpp
      have HOF := Lib.hid hof
      subst hA
      rw [show 2 * k = k * 2 by omega] at c1 c2
      have hgn : ¬ gw = wr.heap.size := by omega
      have hgr := hI.lt
      clear hP hI hB hO hp hpp hof
      go_wp2_with (at_builtin; refine wpList_append_sl rfl (.tmp 21) (.tmp 27) 93 rfl 110 (.agg #[.int .u8 0, .int .u64 0, .int .u64 0]) 3 24 rfl (by omega) Try.underlying93 info_instr (by omega) A' k c' (pcells (insSt (ws.take k))) ⟨wr.heap.size + 1, 0, none⟩ 1 1 [.int .u8 1, .int .u64 of, .int .u64 v] rfl rfl (HP.out.keep (fun b hb => ((bl_alloc (bl_alloc (Below.refl _ _) _) _ : Below wr.heap.size wr _).block b (HP.out.lt hb)))) rfl (by omega) (by have := cells_three (wr.alloc (.cells #[.int .u64 of, .int .u64 v] 90)) 110 (.int .u8 1) (.int .u64 of) (.int .u64 v); simpa using this) (ins_one _ _ _) (by omega) ?_; intro A2 c2' w2 HO2 HC2 HW2 HG2; have hsz : wr.heap.size + 2 ≤ w2.heap.size := (by have := HC2.out.size; simpa using this); have hno : ∀ b, wr.heap.size ≤ b → ¬ OwnB A' b := (fun b hb ho => by have := HP.out.lt ho; omega); have m0 : w2.cell? ⟨wr.heap.size, 0, none⟩ = some (.int .u64 of) := ((HC2.out.cells _ _ (by simp; omega) (hno _ (Nat.le_refl _))).trans (by go_simp)); have HI2 : Hid (IB .u64 25 w2 g (lnPad ws n k)) := (((HI.out.alloc _).alloc _).ch HC2.out (fun ho => (HO.out g ho).2 rfl)); have m1 : wr.heap.size < w2.heap.size := (by omega); clear hno)
      go_wp2_with (first | (go_at_call 54; refine (memStart _ of HOF.out).mono ?_; rintro e w' ⟨rfl, rfl⟩) | (at_builtin; refine wpList_append_ib rfl (.tmp 29) (.tmp 33) 84 rfl 25 Try.underlying84 info_u64 g k n ⟨w2.heap.size, 0, none⟩ 1 (startOf of) (lnPad ws n k) rfl rfl (HI2.out.alloc _) hlt (by rw [length_lnPad ws n k HN.out hk]; exact Nat.le_refl _) (by simp [go_sem]) ?_))
      refine ⟨⟨k + 1, A2, c2', by omega, by go_num, rfl, rfl, ?_, ?_, ?_, ?_⟩, by simp [intOf]; omega⟩
      · have hx := HO2.out
        have e1 : pcells (insSt (ws.take (k + 1))) = pcells (insSt (ws.take k)) ++ [.int .u8 1, .int .u64 of, .int .u64 v] := by
          rw [List.take_succ_eq_append_getElem hkl, HPP.out, insSt, List.map_append, pcells_append]; rfl
        rw [e1]
        refine hx.keep (fun b hb => ?_)
        have hbl := hx.lt hb
        have hbg : b ≠ g := by
          rcases HW2.out b hb with h | h
          · exact (HO.out b h).2
          · rw [h]; simp; omega
        rw [Below.heap_setCell _ _ _ _ hbg, Below.heap_alloc _ _ _ hbl]
      · have := (HI2.out.alloc (.cells #[.int .u64 (startOf of)] 25)).set k (startOf of)
        rw [← lnPad_set ws n k HN.out hlt, HPP.out]
        exact this
      · refine bl_set (bl_alloc (bl_ch (bl_alloc (bl_alloc HB.out _) _) HC2.out (fun b hb => (HO.out b hb).1)) _) hgw _
      · intro b hb
        rcases HW2.out b hb with h | h
        · exact HO.out b h
        · have := HB.out.size
          rw [h]; simp; omega
    · obtain rfl : k = n := by omega
      have hI' : IB .u64 25 wr g (starts ws) := by rw [← lnPad_all ws k HN.out]; exact hI
      have hP' : Sl 110 3 wr A' k c' (pcells (insSt ws)) := by rw [List.take_of_length_le (by rw [HN.out]; omega)] at hP; exact hP
      have hsl : (starts ws).length = k := by simp [starts, HN.out]
      have HSRT := Lib.hid (sortU wr (some ⟨g, 0, none⟩) k k (starts ws) hsl h1 hm hI'.rd0 HSo.out)
      have HCPT := Lib.hid (fun m => compactU (wr.drewN m) g k (starts ws) hsl h1 (by omega) (hI'.drewN m))
      have HP' := Lib.hid hP'
      clear hP hI hB hO hI' hP' HP HI hsl
      go_wp2_with (first | (go_at_call 55; refine HSRT.out.mono ?_; rintro e w' ⟨rfl, m, rfl⟩) | (go_at_call 56; refine (HCPT.out m).mono ?_; rintro e w3 ⟨zs, rfl, hZ, hzt, hC3⟩; have HZ := Lib.hid hZ; have HZT := Lib.hid hzt; have HC3 := Lib.hid hC3; clear hZ hzt hC3))
      have HI2 : Hid (StoInv2 w g k ws zs (cpt (starts ws)) 0 A' c' w3) := by
        refine ⟨?_, HZ.out, bl_ch (bl_drewN HB.out m) HC3.out (fun b hb => by rw [show b = g from hb]; exact hgw), HO.out⟩
        have h1 := HP'.out.keep (w' := w3) (fun b hb => HC3.out.block b (HP'.out.lt hb) (fun h => (HO.out b hb).2 h))
        simpa [insFl] using h1
      have hzl : (cpt (starts ws)).length ≤ k := by have := cpt_le (starts ws); simp [starts] at this; rw [HN.out] at this; exact this
      obtain ⟨cs, hcs⟩ : ∃ cs, cpt (starts ws) = cs := ⟨_, rfl⟩
      obtain ⟨q, hq⟩ : ∃ q, cs.length = q := ⟨_, rfl⟩
      have HCS := Lib.hid hcs
      have HQ := Lib.hid hq
      rw [hcs] at HI2 HZT hzl ⊢
      rw [hq] at HZT hzl ⊢
      clear hcs hq HSRT HCPT HZ HC3 HB HO HP'
      go_loopw [41, 3, 8, 42, 43, 44, 45, 46, 47, 48, 49, 50] (fun i p _ _ _ _ _ _ _ _ _ _ wr => ∃ (j : Nat) (A' : Option Addr) (c' : Nat), j ≤ q ∧ i = .int .i64 j ∧ p = .slice A' (k + j) c' ∧ StoInv2 w g k ws zs cs j A' c' wr) (fun i _ _ _ _ _ _ _ _ _ _ _ _ => q - (intOf i).toNat)
      case atStart => exact ⟨0, _, _, by omega, rfl, rfl, HI2.out⟩
      case round =>
        clear HI2
        obtain ⟨j, A1, c1, hj, rfl, rfl, hP, hI, hB, hO⟩ := hrel
        have HP := Lib.hid hP
        have HI := Lib.hid hI
        have HB := Lib.hid hB
        have HO := Lib.hid hO
        have hgr := hI.lt
        by_cases hjq : j < q
        · have hjl : j < cs.length := by rw [HQ.out]; exact hjq
          obtain ⟨l, hl⟩ : ∃ l, cs[j] = l := ⟨_, rfl⟩
          have hzl' : q ≤ zs.length := by have := congrArg List.length HZT.out; rw [List.length_take, HQ.out] at this; omega
          have hzj : zs[j]'(by omega) = l := by
            have h1 : (zs.take q)[j]'(by rw [List.length_take]; omega) = l := by
              have h2 := HZT.out
              simp only [h2]; exact hl
            rwa [List.getElem_take] at h1
          have cj : wr.cell? ⟨g, j, none⟩ = some (.int .u64 l) := by rw [hI.cell (by omega), hzj]
          have HL := Lib.hid hl
          have hjn : j < k := by omega
          clear hP hI hB hO hl hzj
          go_wp2_with (at_builtin; refine wpList_append_sl rfl (.tmp 45) (.tmp 48) 93 rfl 110 (.agg #[.int .u8 0, .int .u64 0, .int .u64 0]) 3 24 rfl (by omega) Try.underlying93 info_instr (by omega) A1 (k + j) c1 (pcells (insSt ws ++ insFl (cs.take j))) ⟨wr.heap.size, 0, none⟩ 1 1 [.int .u8 2, .int .u64 l, .int .u64 0] rfl rfl (HP.out.keep (fun b hb => Below.heap_alloc _ _ _ (HP.out.lt hb))) rfl (by omega) (cells_three wr 110 _ _ _) (ins_one _ _ _) (by omega) ?_; intro A2 c2' w2 HO2 HC2 HW2 HG2)
          refine ⟨⟨j + 1, A2, c2', by omega, by go_num, rfl, ?_, ?_, ?_, ?_⟩, by simp [intOf]; omega⟩
          · have e1 : pcells (insSt ws ++ insFl (cs.take (j + 1))) = pcells (insSt ws ++ insFl (cs.take j)) ++ [.int .u8 2, .int .u64 l, .int .u64 0] := by
              rw [List.take_succ_eq_append_getElem hjl, HL.out, insFl, List.map_append, ← List.append_assoc, pcells_append]; rfl
            rw [e1]; exact HO2.out
          · exact (HI.out.alloc _).ch HC2.out (fun ho => (HO.out g ho).2 rfl)
          · exact bl_ch (bl_alloc HB.out _) HC2.out (fun b hb => (HO.out b hb).1)
          · intro b hb
            have := HB.out.size
            rcases HW2.out b hb with h | h
            · exact HO.out b h
            · rw [h]; simp; omega
        · obtain rfl : j = q := by omega
          clear hP hI hB hO
          go_wp2_with (at_builtin; refine wpList_append_sl rfl (.tmp 51) (.tmp 53) 93 rfl 110 (.agg #[.int .u8 0, .int .u64 0, .int .u64 0]) 3 24 rfl (by omega) Try.underlying93 info_instr (by omega) A1 (k + j) c1 (pcells (insSt ws ++ insFl (cs.take j))) ⟨wr.heap.size, 0, none⟩ 1 1 [.int .u8 3, .int .u64 0, .int .u64 0] rfl rfl (HP.out.keep (fun b hb => Below.heap_alloc _ _ _ (HP.out.lt hb))) rfl (by omega) (cells_three wr 110 _ _ _) (ins_one _ _ _) (by omega) ?_; intro A2 c2' w2 HO2 HC2 HW2 HG2)
          go_ret
          have hE : storesP ws = insSt ws ++ insFl (cs.take j) ++ [(3, 0, 0)] := by
            rw [storesP, HCS.out, List.take_of_length_le (by rw [HQ.out]; exact Nat.le_refl _)]
          have hlen : (storesP ws).length = k + j + 1 := by
            rw [hE]; simp [insSt, insFl, HN.out, HQ.out]; omega
          refine ⟨A2, c2', ?_, ?_, ?_, ?_⟩
          · rw [hlen]; rfl
          · rw [hlen, hE, pcells_append]; exact HO2.out
          · exact bl_ch (bl_alloc HB.out _) HC2.out (fun b hb => (HO.out b hb).1)
          · intro b hb
            have := HB.out.size
            rcases HW2.out b hb with h | h
            · exact (HO.out b h).1
            · rw [h]; simp; omega
end Go.Proofs.Ytljolgcmkejlnaa
