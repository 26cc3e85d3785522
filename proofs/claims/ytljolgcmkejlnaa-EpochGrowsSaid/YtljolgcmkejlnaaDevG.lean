/- Plain laws of device states: flushes, fences, and what is kept. -/
import Derived.Test.YtljolgcmkejlnaaDevS
namespace Go.Proofs.Ytljolgcmkejlnaa
open Go.RowKit
set_option linter.unusedVariables false

/-- A note of the present history of line q. -/
def DevS.note (S : DevS) (i q : Nat) : DevS :=
  { S with thr := fun j => if j = i then { S.thr i with notes := fun x => if x = (q : Int) then some (IntKind.u64.wrap ((S.lns[q]?.map (fun l => l.done + (l.hist.length : Int))).getD 0)) else (S.thr i).notes x, flu := (S.thr i).flu + 1 } else S.thr j }
def DevS.inB (S : DevS) (off : Int) : Bool := decide (off < (S.lns.length : Int) * 64)
def DevS.flush (S : DevS) (i : Nat) (off : Int) : DevS := if S.cntB (S.inB off) then (S.cnt i (S.inB off)).note i (off / 64).toNat else S.cnt i (S.inB off)

/-- Line q with its first K q stores persisted, for each q. -/
def DevS.upto (S : DevS) (K : Nat → Nat) : DevS :=
  { S with pers := (List.range S.pers.length).map fun j => (applyW S.pers (((S.lns[j / 8]?.map (·.hist)).getD []).take (K (j / 8))))[j]?.getD 0
           lns := S.lns.mapIdx fun q l => ⟨IntKind.u64.wrap (l.done + (K q : Int)), l.hist.drop (K q)⟩ }
/-- How many stores of line q a thread's notes cover. -/
def DevS.due (S : DevS) (i q : Nat) : Nat := match (S.thr i).notes (q : Int) with
  | some p => (p - (S.lns[q]?.map (·.done)).getD 0).toNat
  | none => 0
def DevS.clearN (S : DevS) (i : Nat) : DevS := { S with thr := fun j => if j = i then { S.thr i with notes := fun _ => none, flu := 0 } else S.thr j }
def DevS.fence (S : DevS) (i : Nat) : DevS := if S.cntB true then (((S.cnt i true).upto ((S.cnt i true).due i))).clearN i else S.cnt i true

/-- What is kept: the stores of a line are in it; the notes are covered by what was stored. -/
structure Good (S : DevS) (N : Nat) : Prop where
  np : S.pers.length = 8 * S.lns.length
  nc : S.cur.length = 8 * S.lns.length
  ln : ∀ (q : Nat) (l : Ln), S.lns[q]? = some l → 0 ≤ l.done ∧ l.done + (l.hist.length : Int) ≤ (N : Int) ∧ ∀ p ∈ l.hist, ∃ k : Nat, p.1 = 8 * (k : Int) ∧ k / 8 = q
  nt : ∀ i, i < 8 → (S.thr i).flu ≤ N ∧ ∀ x c, (S.thr i).notes x = some c → ∃ (q : Nat) (l : Ln), S.lns[q]? = some l ∧ x = (q : Int) ∧ 0 ≤ c ∧ c ≤ l.done + (l.hist.length : Int)

section
variable {S : DevS} {N : Nat}
theorem Good.mono (h : Good S N) {M : Nat} (hM : N ≤ M) : Good S M :=
  ⟨h.np, h.nc, fun q l hl => ⟨(h.ln q l hl).1, by have := (h.ln q l hl).2.1; omega, (h.ln q l hl).2.2⟩, fun i hi => ⟨Nat.le_trans (h.nt i hi).1 hM, (h.nt i hi).2⟩⟩
/-- Only errors, and the device's counters, differ. -/
theorem Good.same (h : Good S N) {S' : DevS} (h1 : S'.pers = S.pers) (h2 : S'.cur = S.cur) (h3 : S'.lns = S.lns) (h4 : ∀ i, (S'.thr i).notes = (S.thr i).notes ∧ (S'.thr i).flu = (S.thr i).flu) : Good S' N :=
  ⟨by rw [h1, h3]; exact h.np, by rw [h2, h3]; exact h.nc, by rw [h3]; exact h.ln, fun i hi => by rw [(h4 i).1, (h4 i).2, h3]; exact h.nt i hi⟩
theorem Good.fail (h : Good S N) (i : Nat) (e : Int) : Good (S.fail i e) N := by
  unfold DevS.fail
  split
  · refine h.same rfl rfl rfl (fun j => ?_)
    simp only [DevS.setErr]
    by_cases hj : j = i
    · subst hj; simp
    · simp [hj]
  · exact h
theorem Good.on (h : Good S N) (i : Nat) (b : Bool) : Good (S.on i b) N := by
  unfold DevS.on
  split
  · exact h.fail i 3
  · split
    · exact h
    · exact h.fail i 2
theorem Good.ctr (h : Good S N) (off armed : Bool) (left exec : Int) : Good { S with off := off, armed := armed, left := left, exec := exec } N := h.same rfl rfl rfl (fun _ => ⟨rfl, rfl⟩)
theorem Good.cnt (h : Good S N) (i : Nat) (b : Bool) : Good (S.cnt i b) N := by
  unfold DevS.cnt
  split
  · exact h.on i b
  · split
    · split
      · exact Good.fail (S := { S with off := true }) (h.ctr true S.armed S.left S.exec) i 3
      · exact h.ctr S.off S.armed _ _
    · exact h.ctr S.off S.armed S.left _
theorem Good.write (h : Good S N) (k : Nat) (hk : k < 8 * S.lns.length) (v : Int) : Good (S.write k v) (N + 1) := by
  have hg : ∀ (q : Nat) (l : Ln), S.lns[q]? = some l → (S.write k v).lns[q]? = some (if k / 8 = q then { l with hist := l.hist ++ [(8 * (k : Int), v)] } else l) := by
    intro q l hl
    simp only [DevS.write, List.getElem?_modify, hl]
    by_cases hq : k / 8 = q <;> simp [hq]
  have hb : ∀ (q : Nat) (l : Ln), (S.write k v).lns[q]? = some l → ∃ l0, S.lns[q]? = some l0 ∧ l = if k / 8 = q then { l0 with hist := l0.hist ++ [(8 * (k : Int), v)] } else l0 := by
    intro q l hl
    have hlt : q < S.lns.length := by
      have := (List.getElem?_eq_some_iff.1 hl).1
      simpa [DevS.write] using this
    refine ⟨S.lns[q], by simp [hlt], ?_⟩
    have := hg q S.lns[q] (by simp [hlt])
    rw [this] at hl
    injection hl with hl
    exact hl.symm
  refine ⟨by simpa [DevS.write] using h.np, by simpa [DevS.write] using h.nc, ?_, ?_⟩
  · intro q l hl
    obtain ⟨l0, h0, rfl⟩ := hb q l hl
    obtain ⟨a1, a2, a3⟩ := h.ln q l0 h0
    by_cases hq : k / 8 = q
    · simp only [hq, if_true]
      refine ⟨a1, by simp; omega, ?_⟩
      intro p hp
      rcases List.mem_append.1 hp with hp | hp
      · exact a3 p hp
      · simp at hp; subst hp; exact ⟨k, rfl, hq⟩
    · simp only [hq, if_false]
      exact ⟨a1, by omega, a3⟩
  · intro i hi
    obtain ⟨a1, a2⟩ := h.nt i hi
    refine ⟨Nat.le_succ_of_le a1, fun x c hc => ?_⟩
    obtain ⟨q, l, b1, b2, b3, b4⟩ := a2 x c hc
    refine ⟨q, _, hg q l b1, b2, b3, ?_⟩
    split
    · simp; omega
    · exact b4
theorem Good.store (h : Good S N) (i : Nat) (off v : Int) (ho : 0 ≤ off) : Good (S.store i off v) (N + 1) := by
  unfold DevS.store
  split
  · rename_i hc
    obtain ⟨k, hk1, hk2, hk3⟩ := wordB_true (cntB_valid hc) ho
    rw [hk2, Int.toNat_natCast]
    exact (h.cnt i _).write k (by rw [(cnt_lns S i _).1]; exact hk3) v
  · exact (h.cnt i _).mono (Nat.le_succ _)
theorem Good.note (h : Good S N) (i q : Nat) (hq : q < S.lns.length) (hN : N < 1000000000) : Good (S.note i q) (N + 1) := by
  obtain ⟨a1, a2, _⟩ := h.ln q S.lns[q] (by simp [hq])
  have hw : IntKind.u64.wrap (S.lns[q].done + (S.lns[q].hist.length : Int)) = S.lns[q].done + (S.lns[q].hist.length : Int) := IntWalk.u64_in _ (by omega)
  refine ⟨h.np, h.nc, fun q l hl => ?_, fun j hj => ?_⟩
  · obtain ⟨b1, b2, b3⟩ := h.ln q l hl
    exact ⟨b1, by omega, b3⟩
  · obtain ⟨b1, b2⟩ := h.nt j hj
    by_cases hji : j = i
    · subst hji
      refine ⟨by simp [DevS.note]; exact b1, fun x c hc => ?_⟩
      simp only [DevS.note, if_true] at hc
      by_cases hx : x = (q : Int)
      · simp only [hx, if_true] at hc
        refine ⟨q, S.lns[q], by simp [DevS.note, hq], hx, ?_⟩
        simp [hq] at hc
        rw [hw] at hc
        omega
      · rw [if_neg hx] at hc
        exact b2 x c hc
    · simp only [DevS.note, hji, if_false]
      exact ⟨by omega, b2⟩
theorem inB_true {off : Int} (h : S.inB off = true) (h0 : 0 ≤ off) : (off / 64).toNat < S.lns.length ∧ off / 64 = ((off / 64).toNat : Int) := by
  unfold DevS.inB at h
  simp only [decide_eq_true_eq] at h
  omega
theorem Good.flush (h : Good S N) (i : Nat) (off : Int) (ho : 0 ≤ off) (hN : N < 1000000000) : Good (S.flush i off) (N + 1) := by
  unfold DevS.flush
  split
  · rename_i hc
    exact (h.cnt i _).note i _ (by rw [(cnt_lns S i _).1]; exact (inB_true (cntB_valid hc) ho).1) hN
  · exact (h.cnt i _).mono (Nat.le_succ _)

theorem applyW_none (ws : List (Int × Int)) (j : Nat) (h : ∀ p ∈ ws, (p.1 / 8).toNat ≠ j) : ∀ xs, (applyW xs ws)[j]? = xs[j]? := by
  induction ws with
  | nil => intro xs; rfl
  | cons p ws ih =>
    intro xs
    rw [applyW, List.foldl_cons]
    refine (ih (fun q hq => h q (List.mem_cons_of_mem _ hq)) _).trans ?_
    rw [List.getElem?_set, if_neg (h p (List.mem_cons_self ..))]
theorem applyW_congr (ws : List (Int × Int)) (j : Nat) : ∀ xs ys : List Int, xs.length = ys.length → xs[j]? = ys[j]? → (applyW xs ws)[j]? = (applyW ys ws)[j]? := by
  induction ws with
  | nil => intro xs ys _ h; exact h
  | cons p ws ih =>
    intro xs ys hl h
    rw [applyW, List.foldl_cons, applyW, List.foldl_cons]
    refine ih _ _ (by simpa using hl) ?_
    rw [List.getElem?_set, List.getElem?_set]
    split
    · rw [hl]
    · exact h
theorem length_upto (K : Nat → Nat) : (S.upto K).pers.length = S.pers.length ∧ (S.upto K).lns.length = S.lns.length := by simp [DevS.upto]
theorem upto_ln (K : Nat → Nat) (q : Nat) : (S.upto K).lns[q]? = S.lns[q]?.map fun l => ⟨IntKind.u64.wrap (l.done + (K q : Int)), l.hist.drop (K q)⟩ := by simp [DevS.upto]
theorem upto_pers (K : Nat → Nat) (j : Nat) (hj : j < S.pers.length) : (S.upto K).pers[j]? = (applyW S.pers (((S.lns[j / 8]?.map (·.hist)).getD []).take (K (j / 8))))[j]? := by
  simp only [DevS.upto, List.getElem?_map]
  rw [List.getElem?_range hj]
  have : j < (applyW S.pers (((S.lns[j / 8]?.map (·.hist)).getD []).take (K (j / 8)))).length := by rw [length_applyW]; exact hj
  simp [this]
theorem wrap_done (h : Good S N) {q : Nat} {l : Ln} (hl : S.lns[q]? = some l) (hN : N < 1000000000) (k : Nat) (hk : k ≤ l.hist.length) : IntKind.u64.wrap (l.done + (k : Int)) = l.done + (k : Int) := by
  obtain ⟨a1, a2, _⟩ := h.ln q l hl
  exact IntWalk.u64_in _ (by omega)
theorem Good.upto (h : Good S N) (hN : N < 1000000000) (K : Nat → Nat) (hK : ∀ (q : Nat) (l : Ln), S.lns[q]? = some l → K q ≤ l.hist.length) : Good (S.upto K) N := by
  refine ⟨by rw [(length_upto K).1, (length_upto K).2]; exact h.np, by rw [(length_upto K).2]; exact h.nc, fun q l hl => ?_, fun i hi => ?_⟩
  · rw [upto_ln] at hl
    obtain ⟨l0, h0, rfl⟩ := Option.map_eq_some_iff.1 hl
    obtain ⟨a1, a2, a3⟩ := h.ln q l0 h0
    have hk := hK q l0 h0
    rw [wrap_done h h0 hN _ hk]
    exact ⟨by dsimp only; omega, by dsimp only; rw [List.length_drop]; omega, fun p hp => a3 p (List.mem_of_mem_drop hp)⟩
  · obtain ⟨a1, a2⟩ := h.nt i hi
    refine ⟨a1, fun x c hc => ?_⟩
    obtain ⟨q, l, b1, b2, b3, b4⟩ := a2 x c hc
    have hk := hK q l b1
    refine ⟨q, _, by rw [upto_ln, b1]; rfl, b2, b3, ?_⟩
    dsimp only
    rw [wrap_done h b1 hN _ hk, List.length_drop]; omega
theorem due_le (h : Good S N) {i : Nat} (hi : i < 8) (q : Nat) (l : Ln) (hl : S.lns[q]? = some l) : S.due i q ≤ l.hist.length := by
  unfold DevS.due
  cases hn : (S.thr i).notes (q : Int) with
  | none => exact Nat.zero_le _
  | some p =>
    obtain ⟨q', l', b1, b2, b3, b4⟩ := (h.nt i hi).2 _ _ hn
    obtain rfl : q = q' := by omega
    rw [hl] at b1
    injection b1 with b1
    subst b1
    simp [hl]; omega
theorem Good.clearN (h : Good S N) (i : Nat) : Good (S.clearN i) N := by
  refine ⟨h.np, h.nc, h.ln, fun j hj => ?_⟩
  by_cases hji : j = i
  · subst hji
    simp [DevS.clearN]
  · simp only [DevS.clearN, hji, if_false]
    exact h.nt j hj
theorem Good.fence (h : Good S N) {i : Nat} (hi : i < 8) (hN : N < 1000000000) : Good (S.fence i) N := by
  unfold DevS.fence
  split
  · exact (Good.upto (h.cnt i true) hN _ (fun q l hl => due_le (h.cnt i true) hi q l hl)).clearN i
  · exact h.cnt i true

theorem DevS.ext' {S T : DevS} (h1 : S.pers = T.pers) (h2 : S.cur = T.cur) (h3 : S.lns = T.lns) (h4 : S.thr = T.thr) (h5 : S.off = T.off) (h6 : S.armed = T.armed) (h7 : S.left = T.left) (h8 : S.exec = T.exec) : S = T := by
  cases S; cases T; simp_all
theorem upto_zero (h : Good S N) (hN : N < 1000000000) : S.upto (fun _ => 0) = S := by
  refine DevS.ext' ?_ rfl ?_ rfl rfl rfl rfl rfl
  · apply List.ext_getElem?
    intro j
    by_cases hj : j < S.pers.length
    · rw [upto_pers _ j hj]; simp [applyW]
    · rw [List.getElem?_eq_none (by rw [(length_upto _).1]; omega), List.getElem?_eq_none (by omega)]
  · apply List.ext_getElem?
    intro q
    rw [upto_ln]
    cases hl : S.lns[q]? with
    | none => rfl
    | some l =>
      have := wrap_done h hl hN 0 (Nat.zero_le _)
      simp at this ⊢
      rw [this]
/-- One more line. -/
theorem upto_persist (h : Good S N) (hN : N < 1000000000) (K : Nat → Nat) {q k : Nat} {l : Ln} (hl : S.lns[q]? = some l) (hk : k ≤ l.hist.length) (h0 : K q = 0) :
    (S.upto K).persist q k = S.upto (fun j => if j = q then k else K j) := by
  have hq : (S.upto K).lns[q]? = some l := by
    rw [upto_ln, hl, h0]
    have := wrap_done h hl hN 0 (Nat.zero_le _)
    simp at this ⊢
    rw [this]
  refine DevS.ext' ?_ rfl ?_ rfl rfl rfl rfl rfl
  · apply List.ext_getElem?
    intro j
    show (applyW (S.upto K).pers ((((S.upto K).lns[q]?.map (·.hist)).getD []).take k))[j]? = _
    rw [hq]
    by_cases hj : j < S.pers.length
    · rw [upto_pers _ j hj]
      simp only [Option.map_some, Option.getD_some]
      by_cases hjq : j / 8 = q
      · rw [if_pos hjq, hjq, hl]
        refine applyW_congr _ j _ _ (length_upto K).1 ?_
        rw [upto_pers _ j hj, hjq, h0]; simp [applyW]
      · rw [if_neg hjq, applyW_none _ j (fun p hp => ?_), upto_pers _ j hj]
        obtain ⟨m, hm1, hm2⟩ := (h.ln q l hl).2.2 p (List.mem_of_mem_take hp)
        rw [hm1]; omega
    · rw [List.getElem?_eq_none (by rw [length_applyW, (length_upto _).1]; omega), List.getElem?_eq_none (by rw [(length_upto _).1]; omega)]
  · apply List.ext_getElem?
    intro j
    show ((S.upto K).lns.modify q fun l => (⟨IntKind.u64.wrap (l.done + k), l.hist.drop k⟩ : Ln))[j]? = _
    rw [List.getElem?_modify, upto_ln]
    by_cases hjq : q = j
    · subst hjq
      rw [← upto_ln, hq, upto_ln, hl]; simp
    · have hjq' : ¬ j = q := fun h => hjq h.symm
      rw [upto_ln]
      cases S.lns[j]? with
      | none => rfl
      | some l => simp [hjq, hjq']
end
end Go.Proofs.Ytljolgcmkejlnaa
