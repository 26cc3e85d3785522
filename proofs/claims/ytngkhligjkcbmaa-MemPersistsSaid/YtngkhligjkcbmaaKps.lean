/- The reference's Stores and Persist; the law MemPersists (merged). -/
import Derived.Test.YtngkhligjkcbmaaKsu
import Derived.Test.YtngkhligjkcbmaaKq
import Derived.Test.YtngkhligjkcbmaaKo
import Derived.Deep.CutRange
import Derived.Test.YtngkhligjkcbmaaKv
namespace Go.Proofs.Ytngkhligjkcbmaa
open Go.RowKit
set_option linter.unusedVariables false
set_option linter.unusedSimpArgs false

def posL (l : Int) (acc : List Int) : Nat := (acc.takeWhile (fun x => decide (x < l))).length
def insL (acc : List Int) (l : Int) : List Int := if acc[posL l acc]? = some l then acc else acc.take (posL l acc) ++ l :: acc.drop (posL l acc)
def linL (offs : List Int) : List Int := offs.foldl (fun acc o => insL acc (o / 64)) []
theorem linL_snoc (offs : List Int) (o : Int) : linL (offs ++ [o]) = insL (linL offs) (o / 64) := by unfold linL; rw [List.foldl_append]; rfl
theorem sl0 {w : World} {b : Nat} (h : CB w b 30 #[]) : Sl 30 1 w (some ⟨b, 0, none⟩) 0 0 [] := ⟨rfl, .inr ⟨b, 0, #[], rfl, h, Nat.le_refl _, by unfold maxLen; omega, by simp, by simp⟩⟩
theorem one_cell {w : World} {b : Nat} {v : Value} (h : w.cell? ⟨b, 0, none⟩ = some v) : ∀ (j : Nat) (u : Value), [v][j]? = some u → w.cell? ((⟨b, 0, none⟩ : Addr).add j) = some u := by
  intro j u hu
  have h1 : (⟨b, 0, none⟩ : Addr).add j = ⟨b, 0 + j, none⟩ := by unfold Addr.add; split <;> simp_all
  rw [h1, Nat.zero_add]
  cases j with
  | zero => have : v = u := by simpa using hu
            rw [← this]; exact h
  | succ j => simp at hu
theorem cells_one_ps (w : World) (e : TypeId) (a : Value) : ∀ (j : Nat) (u : Value), [a][j]? = some u → (w.alloc (.cells #[a] e)).cell? ((⟨w.heap.size, 0, none⟩ : Addr).add j) = some u := one_cell (by simp [go_sem])
theorem sl_at0 {e : TypeId} {size : Nat} {w : World} {g off n c : Nat} {xs : List Value} (h : Sl e size w (some ⟨g, off, none⟩) n c xs) : Sl e size w (some ⟨g, off, none⟩) 0 0 [] := by
  rcases h.2 with ⟨h1, _⟩ | ⟨g', o', cur, hA, hC, h1, h2, h3, h4⟩
  · cases h1
  · cases hA
    exact ⟨by simp, .inr ⟨g, off, cur, rfl, hC, Nat.le_refl _, by unfold maxLen; omega, by omega, by simp⟩⟩
theorem step_append_sl2 {P : Program} {w : World} {ops : Array Oper} {o : Oper} {a : Act} {K : Act → World → Prop} {Q : Exit → Act → World → Prop} {E : Prop} (hgd : o.guard = none) (s x : Operand) (t : TypeId)
    (ho : o.op = .call { callee := .builtin .append, args := #[s, x], argTypes := #[t, t] }) (e : TypeId) (zv : Value) (size by_ : Nat) (hzs : zv.cells.size = size) (hsz : 0 < size) (ht : P.underlying t = some (.slice e)) (hinfo : (P.info? e).map (fun i => (i.zero, i.size, i.bytes)) = some (some zv, size, by_)) (hby : by_ ≤ 64)
    (A : Option Addr) (n c : Nat) (xs : List Value) (B : Option Addr) (m d : Nat) (ys : List Value) (hse : a.eval s = .slice A n c) (hxe : a.eval x = .slice B m d) (hown : Sl e size w A n c xs) (hsrc : Sl e size w B m d ys) (hf : ∀ u ∈ ys, u.oneCell' = true)
    (hbound : n + m ≤ 1000000000)
    (h : ∀ A' c' w', Hid (Sl e size w' A' (n + m) c' (xs ++ ys)) → Hid (Ch (OwnB A) w w') → Hid (∀ b, OwnB A' b → OwnB A b ∨ b = w.heap.size) → K (a.put o.dst (.slice A' (n + m) c')) w') :
    if Region.wanted o (yielded ops a.tmps) = true then Oper.wp P o a w K Q else E := by
  have hw : Region.wanted o (yielded ops a.tmps) = true := by simp [Region.wanted, hgd]
  rw [if_pos hw]
  obtain ⟨A', c', w', hrun, h1, h2, h3⟩ := run_append_sl2 (P := P) w t o.type e zv size by_ hzs hsz ht hinfo hby A n c xs hown B m d ys hsrc hf hbound
  unfold Oper.wp
  simp [execOp, ho, resolve, invoke, builtin, hse, hxe, hrun, Result.andThen]
  exact h A' c' w' h1 h2 h3
theorem posL_le (l : Int) (acc : List Int) : posL l acc ≤ acc.length := by unfold posL; exact (List.takeWhile_sublist _).length_le
theorem posL_lt {l : Int} : ∀ {acc : List Int} {i : Nat} (h : i < posL l acc), ∃ hi : i < acc.length, acc[i] < l := by
  intro acc
  induction acc with
  | nil => intro i h; simp [posL] at h
  | cons x acc ih =>
    intro i h
    unfold posL at h
    rw [List.takeWhile_cons] at h
    split at h
    · rename_i hx
      cases i with
      | zero => exact ⟨by simp, by simpa using hx⟩
      | succ i =>
        obtain ⟨h1, h2⟩ := ih (i := i) (by simpa [posL] using h)
        exact ⟨by simpa using h1, by simpa using h2⟩
    · simp at h
theorem posL_at {l : Int} : ∀ {acc : List Int} (hi : posL l acc < acc.length), ¬ acc[posL l acc] < l := by
  intro acc
  induction acc with
  | nil => intro h; simp at h
  | cons x acc ih =>
    intro hi
    by_cases hx : x < l
    · have e : posL l (x :: acc) = posL l acc + 1 := by simp [posL, List.takeWhile_cons, hx]
      have hi' : posL l acc < acc.length := by rw [e] at hi; simpa using hi
      have := ih hi'
      simpa [e] using this
    · have e : posL l (x :: acc) = 0 := by simp [posL, List.takeWhile_cons, hx]
      simpa [e] using hx
theorem insL_length (acc : List Int) (l : Int) : (insL acc l).length ≤ acc.length + 1 := by
  unfold insL
  split
  · omega
  · have := posL_le l acc
    simp; omega
theorem linL_length (offs : List Int) : (linL offs).length ≤ offs.length := by
  have : ∀ k, (linL (offs.take k)).length ≤ k := by
    intro k
    induction k with
    | zero => simp [linL]
    | succ k ih =>
      by_cases hk : k < offs.length
      · rw [List.take_succ_eq_append_getElem hk, linL_snoc]
        have := insL_length (linL (offs.take k)) (offs[k] / 64)
        omega
      · rw [List.take_of_length_le (by omega)] at ih ⊢; omega
  have h := this offs.length
  rwa [List.take_length] at h
theorem Sl.cap_le {e : TypeId} {size : Nat} {w : World} {A : Option Addr} {n c : Nat} {xs : List Value} (h : Sl e size w A n c xs) : n ≤ c := by
  rcases h.2 with ⟨_, h1, h2⟩ | ⟨_, _, _, _, _, h, _⟩
  · omega
  · exact h
def LnInv (w : World) (A : Option Addr) (m c : Nat) (xs : List Int) (wr : World) : Prop := xs.length = m ∧ Sl 30 1 wr A m c (uints xs) ∧ Below w.heap.size w wr ∧ ∀ b, OwnB A b → w.heap.size ≤ b
def LnPost (w : World) (xs : List Int) (e : Ending) (w' : World) : Prop := ∃ A c, e = .returned (.slice A xs.length c) ∧ Sl 30 1 w' A xs.length c (uints xs) ∧ Below w.heap.size w w' ∧ ∀ b, OwnB A b → w.heap.size ≤ b
set_option maxRecDepth 100000 in
set_option maxHeartbeats 4000000 in
theorem refLines_ok (w : World) (A0 : Option Addr) (n c0 : Nat) (offs : List Int) (hn : offs.length = n) (hnb : n ≤ 100000) (hr : ∀ o ∈ offs, 0 ≤ o ∧ o < 18446744073709551616) (hS : Sl 30 1 w A0 n c0 (uints offs)) :
    Calls Try.prog 109 #[.slice A0 n c0] w (LnPost w (linL offs)) := by
  have HN := Lib.hid hn
  have HS := Lib.hid hS
  have HR := Lib.hid hr
  clear hn hS hr
  go_enter Try.func109, Try.ntmps109
  go_wp2
  have HI0 : Hid (LnInv w none 0 0 (linL (offs.take 0)) w) := ⟨by simp [linL], by simpa [linL, uints] using Sl.nil, Below.refl _ _, by simp [OwnB]⟩
  go_loopw [10, 3, 5, 6, 7, 11, 12, 13, 14, 15, 16, 17, 18, 19, 20, 21, 22, 23, 24, 25, 26, 27, 28, 29, 30, 31, 32, 33, 34, 35, 36, 37, 38, 39, 40, 41, 42, 43, 44, 45, 46, 47, 48, 49, 50, 51, 52, 53, 54] (fun i p _ _ _ _ _ _ _ _ _ _ _ _ _ _ _ _ _ _ _ _ _ _ _ _ _ _ _ _ _ _ _ _ _ _ _ _ _ _ _ _ _ _ _ _ _ _ _ wr => ∃ (k m : Nat) (A : Option Addr) (c : Nat), k ≤ n ∧ m ≤ k ∧ i = .int .i64 k ∧ p = .slice A m c ∧ LnInv w A m c (linL (offs.take k)) wr) (fun i p _ _ _ _ _ _ _ _ _ _ _ _ _ _ _ _ _ _ _ _ _ _ _ _ _ _ _ _ _ _ _ _ _ _ _ _ _ _ _ _ _ _ _ _ _ _ _ _ => n - (intOf i).toNat)
  case atStart => exact ⟨0, 0, none, 0, by omega, by omega, rfl, rfl, HI0.out⟩
  case round =>
    clear HI0
    obtain ⟨k, m, A, c, hk, hmk, rfl, rfl, hI⟩ := hrel
    have HI := Lib.hid hI
    clear hI
    by_cases hlt : k < n
    · have hkl : k < offs.length := by rw [HN.out]; exact hlt
      obtain ⟨b, off, rfl, hbl, c1⟩ := (HS.out.keep (w' := wr) (fun b hb => HI.out.2.2.1.block b (HS.out.lt hb))).at_ (j := k) (by simpa [uints] using hkl)
      obtain ⟨o, ho⟩ : ∃ o, offs[k] = o := ⟨_, rfl⟩
      have hor := HR.out _ (List.getElem_mem hkl)
      rw [ho] at hor
      rw [show (uints offs)[k]'(by simpa [uints] using hkl) = .int .u64 o by simp [uints, ho]] at c1
      have HSU : Hid (linL (offs.take (k + 1)) = insL (linL (offs.take k)) (o / 64)) := by
        show _ = _
        rw [List.take_succ_eq_append_getElem hkl, ho, linL_snoc]
      obtain ⟨acc, hacc⟩ : ∃ z, linL (offs.take k) = z := ⟨_, rfl⟩
      obtain ⟨l, hl⟩ : ∃ z, o / 64 = z := ⟨_, rfl⟩
      have hlb : 0 ≤ l ∧ l < 18446744073709551616 := by omega
      have e1 : o.tdiv 64 = l := by rw [Int.tdiv_eq_ediv_of_nonneg (by omega)]; exact hl
      have e2 : IntKind.u64.wrap l = l := IntWalk.u64_in _ (by omega)
      rw [hacc] at HI HSU
      rw [hl] at HSU
      obtain ⟨q, hq⟩ : ∃ z, posL l acc = z := ⟨_, rfl⟩
      have hml := HI.out.1
      have HML := Lib.hid hml
      have hqm : q ≤ m := by have := posL_le l acc; omega
      have HQ := Lib.hid hq
      have HSL := Lib.hid HI.out.2.1
      clear ho hacc hl hq hml hor
      go_wp2
      go_loopw [7, 16, 17, 18, 19, 20, 21, 22, 23, 24, 25, 26, 27, 28, 29] (fun i _ _ _ _ _ _ _ _ _ _ _ _ _ _ wq => ∃ (j : Nat), j ≤ q ∧ i = .int .i64 j ∧ wq = wr) (fun i _ _ _ _ _ _ _ _ _ _ _ _ _ _ _ => q - (intOf i).toNat)
      case atStart => exact ⟨0, by omega, rfl, rfl⟩
      case round =>
        obtain ⟨j, hj, rfl, hwq⟩ := hrel
        subst hwq
        by_cases hjq : j < q
        · obtain ⟨hja, hjl⟩ := posL_lt (l := l) (acc := acc) (i := j) (by rw [HQ.out]; exact hjq)
          have hjm : j < m := by omega
          obtain ⟨ga, oa, rfl, hla, ca⟩ := HSL.out.at_ (j := j) (by simpa [uints] using hja)
          rw [show (uints acc)[j]'(by simpa [uints] using hja) = .int .u64 acc[j] by simp [uints]] at ca
          obtain ⟨x, hx⟩ : ∃ z, acc[j] = z := ⟨_, rfl⟩
          rw [hx] at ca hjl
          have hd1 : decide ((j : Int) < (m : Int)) = true := decide_eq_true (by omega)
          have hd2 : decide (x < l) = true := decide_eq_true hjl
          clear hx hja
          go_wp2
          exact ⟨⟨j + 1, by omega, by go_num, trivial⟩, by simp [intOf]; omega⟩
        · obtain rfl : j = q := by omega
          by_cases hjm : j < m
          · have hja : j < acc.length := by rw [HML.out]; exact hjm
            have hnl : ¬ acc[j] < l := by
              have hh := HQ.out
              subst hh
              exact posL_at hja
            obtain ⟨ga, oa, rfl, hla, ca⟩ := HSL.out.at_ (j := j) (by simpa [uints] using hja)
            rw [show (uints acc)[j]'(by simpa [uints] using hja) = .int .u64 acc[j] by simp [uints]] at ca
            obtain ⟨x, hx⟩ : ∃ z, acc[j] = z := ⟨_, rfl⟩
            rw [hx] at ca hnl
            have hd1 : decide ((j : Int) < (m : Int)) = true := decide_eq_true (by omega)
            have hd2 : decide (x < l) = false := decide_eq_false hnl
            have HX := Lib.hid hx
            by_cases hxl : x = l
            · have HNX : Hid (insL acc l = acc) := by
                show _ = _
                unfold insL
                rw [HQ.out, List.getElem?_eq_getElem hja, HX.out, hxl, if_pos rfl]
              have hd3 : (x == l) = true := by simpa using hxl
              have hd4 : decide (x = l) = true := decide_eq_true hxl
              clear hx
              go_wp2
              exact ⟨⟨k + 1, m, _, c, by omega, by omega, by go_num, rfl, by rw [HSU.out, HNX.out]; exact HI.out⟩, by simp [intOf]; omega⟩
            · have HNX : Hid (insL acc l = acc.take j ++ l :: acc.drop j) := by
                show _ = _
                unfold insL
                rw [HQ.out, List.getElem?_eq_getElem hja, HX.out, if_neg (by simpa using hxl)]
              have hd3 : (x == l) = false := by simpa using hxl
              have hd4 : decide (x = l) = false := decide_eq_false hxl
              clear hx
              go_upto_region 10 with (fail)
              have hmc : m ≤ c := HSL.out.cap_le
              have hjc : j ≤ c := by omega
              have hjc' : ¬ c = j := by omega
              have hjmle : j ≤ m := by omega
              have hjI : (j : Int) ≤ (c : Int) := by omega
              have hjI2 : (j : Int) ≤ (m : Int) := by omega
              have HT : Hid (∀ W, Below wr.heap.size wr W → Sl 30 1 W (some ⟨ga, oa, none⟩) j c (uints (acc.take j))) := fun W hW => by
                have h := (HSL.out.take j (by omega)).keep (w' := W) (fun b hb => hW.block b (HSL.out.lt hb))
                simpa [uints] using h
              have HD : Hid (∀ W, Below wr.heap.size wr W → Sl 30 1 W (some ⟨ga, oa + j, none⟩) (m - j) (c - j) (uints (acc.drop j))) := fun W hW => by
                have h := (HSL.out.drop j (by omega) ga oa rfl).keep (w' := W) (fun b hb => hW.block b (by have : ga = b := (by simpa [OwnB] using hb); omega))
                simpa [uints] using h
              have HFIN : Hid (∀ A3 c3 w3, Sl 30 1 w3 A3 (j + 1 + (m - j)) c3 (uints (acc.take j) ++ [.int .u64 l] ++ uints (acc.drop j)) → Below wr.heap.size wr w3 → (∀ b, OwnB A3 b → wr.heap.size ≤ b) → LnInv w A3 (m + 1) c3 (linL (offs.take (k + 1))) w3) := by
                intro A3 c3 w3 h1 h2 h3
                rw [HSU.out, HNX.out]
                have e : j + 1 + (m - j) = m + 1 := by omega
                rw [e] at h1
                have hml := HML.out
                refine ⟨by simp; omega, ?_, HI.out.2.2.1.trans (h2.mono HI.out.2.2.1.size), fun b hb => Nat.le_trans HI.out.2.2.1.size (h3 b hb)⟩
                simpa [uints] using h1
              go_region_law (first
                | (refine step_append_sl2 rfl (.tmp 42) (.tmp 45) 52 rfl 30 (.int .u64 0) 1 8 rfl (by omega) Try.underlying52 info_u64 (by omega) (some ⟨wr.heap.size, 0, none⟩) 0 0 [] (some ⟨ga, oa, none⟩) j c (uints (acc.take j)) (by go_simp) (by go_simp) (sl0 (by (repeat (with_reducible refine CB.drew ?_)); with_reducible exact CB.new _ _ _)) (HT.out _ (by (repeat (first | with_reducible exact Below.refl _ _ | with_reducible refine bl_alloc ?_ _ | with_reducible refine bl_drew ?_ | with_reducible refine bl_drewN ?_ _ | with_reducible refine bl_bx ?_ _ | with_reducible exact BX.below _ | with_reducible refine bl_set ?_ (by first | (exact Nat.le_refl _) | (simp; done) | (simp; omega)) _ | assumption)))) (uints_one _) (by omega) ?_; intro A1 c1 w1 HO1 HC1 HW1; rw [List.nil_append, Nat.zero_add] at HO1; have HB1 : Hid (Below wr.heap.size wr w1) := bl_ch (by (repeat (first | with_reducible exact Below.refl _ _ | with_reducible refine bl_alloc ?_ _ | with_reducible refine bl_drew ?_ | with_reducible refine bl_drewN ?_ _ | with_reducible refine bl_bx ?_ _ | with_reducible exact BX.below _ | with_reducible refine bl_set ?_ (by first | (exact Nat.le_refl _) | (simp; done) | (simp; omega)) _ | assumption))) HC1.out (fun b hb => by (have hb' : wr.heap.size = b := (by simpa [OwnB] using hb)); omega); have HA1 : Hid (∀ b, OwnB A1 b → wr.heap.size ≤ b) := (fun b hb => (HW1.out b hb).elim (fun h => by (have hb' : wr.heap.size = b := (by simpa [OwnB] using h)); omega) (fun h => by first | omega | (simp at h; omega))); have hs1 := HB1.out.size; clear HC1)
                | (refine step_append_sl2 rfl (.tmp 42) (.tmp 45) 52 rfl 30 (.int .u64 0) 1 8 rfl (by omega) Try.underlying52 info_u64 (by omega) (some ⟨wr.heap.size, 0, none⟩) 0 0 [] (some ⟨ga, oa, none⟩) j c (uints (acc.take j)) (by go_simp) (by go_simp) (sl0 (by (repeat (with_reducible refine CB.drew ?_)); with_reducible refine CB.alloc ?_ _; (repeat (with_reducible refine CB.drew ?_)); with_reducible exact CB.new _ _ _)) (HT.out _ (by (repeat (first | with_reducible exact Below.refl _ _ | with_reducible refine bl_alloc ?_ _ | with_reducible refine bl_drew ?_ | with_reducible refine bl_drewN ?_ _ | with_reducible refine bl_bx ?_ _ | with_reducible exact BX.below _ | with_reducible refine bl_set ?_ (by first | (exact Nat.le_refl _) | (simp; done) | (simp; omega)) _ | assumption)))) (uints_one _) (by omega) ?_; intro A1 c1 w1 HO1 HC1 HW1; rw [List.nil_append, Nat.zero_add] at HO1; have HB1 : Hid (Below wr.heap.size wr w1) := bl_ch (by (repeat (first | with_reducible exact Below.refl _ _ | with_reducible refine bl_alloc ?_ _ | with_reducible refine bl_drew ?_ | with_reducible refine bl_drewN ?_ _ | with_reducible refine bl_bx ?_ _ | with_reducible exact BX.below _ | with_reducible refine bl_set ?_ (by first | (exact Nat.le_refl _) | (simp; done) | (simp; omega)) _ | assumption))) HC1.out (fun b hb => by (have hb' : wr.heap.size = b := (by simpa [OwnB] using hb)); omega); have HA1 : Hid (∀ b, OwnB A1 b → wr.heap.size ≤ b) := (fun b hb => (HW1.out b hb).elim (fun h => by (have hb' : wr.heap.size = b := (by simpa [OwnB] using h)); omega) (fun h => by first | omega | (simp at h; omega))); have hs1 := HB1.out.size; have hcl : w1.cell? ⟨wr.heap.size + 1, 0, none⟩ = some (.int .u64 l) := (HC1.out.cells _ _ (by simp) (fun hb => by simp [OwnB] at hb)).trans (by go_simp); have hsl : wr.heap.size + 1 < w1.heap.size := (by have := HC1.out.size; simp at this; omega); clear HC1)
                | (refine step_append_sl2 rfl (.tmp 42) (.tmp 45) 52 rfl 30 (.int .u64 0) 1 8 rfl (by omega) Try.underlying52 info_u64 (by omega) (some ⟨(wr.heap.size + 1), 0, none⟩) 0 0 [] (some ⟨ga, oa, none⟩) j c (uints (acc.take j)) (by go_simp) (by go_simp) (sl0 (by (repeat (with_reducible refine CB.drew ?_)); refine CB.new_at _ _ _ ?_; simp)) (HT.out _ (by (repeat (first | with_reducible exact Below.refl _ _ | with_reducible refine bl_alloc ?_ _ | with_reducible refine bl_drew ?_ | with_reducible refine bl_drewN ?_ _ | with_reducible refine bl_bx ?_ _ | with_reducible exact BX.below _ | with_reducible refine bl_set ?_ (by first | (exact Nat.le_refl _) | (simp; done) | (simp; omega)) _ | assumption)))) (uints_one _) (by omega) ?_; intro A1 c1 w1 HO1 HC1 HW1; rw [List.nil_append, Nat.zero_add] at HO1; have HB1 : Hid (Below wr.heap.size wr w1) := bl_ch (by (repeat (first | with_reducible exact Below.refl _ _ | with_reducible refine bl_alloc ?_ _ | with_reducible refine bl_drew ?_ | with_reducible refine bl_drewN ?_ _ | with_reducible refine bl_bx ?_ _ | with_reducible exact BX.below _ | with_reducible refine bl_set ?_ (by first | (exact Nat.le_refl _) | (simp; done) | (simp; omega)) _ | assumption))) HC1.out (fun b hb => by (have hb' : (wr.heap.size + 1) = b := (by simpa [OwnB] using hb)); omega); have HA1 : Hid (∀ b, OwnB A1 b → wr.heap.size ≤ b) := (fun b hb => (HW1.out b hb).elim (fun h => by (have hb' : (wr.heap.size + 1) = b := (by simpa [OwnB] using h)); omega) (fun h => by first | omega | (simp at h; omega))); have hs1 := HB1.out.size; have hcl : w1.cell? ⟨wr.heap.size, 0, none⟩ = some (.int .u64 l) := (HC1.out.cells _ _ (by simp; omega) (fun hb => by simp [OwnB] at hb)).trans (by go_simp); have hsl : wr.heap.size < w1.heap.size := (by have := HC1.out.size; simp at this; omega); clear HC1)
                | (refine step_append_sl rfl (.tmp 46) (.tmp 48) 52 rfl 30 (.int .u64 0) 1 8 rfl (by omega) Try.underlying52 info_u64 (by omega) A1 j c1 (uints (acc.take j)) ⟨w1.heap.size, 0, none⟩ 1 1 [.int .u64 l] (by go_simp) (by go_simp) (HO1.out.keep (fun b hb => by first | rfl | exact Below.heap_alloc _ _ b (HO1.out.lt hb))) rfl (by omega) (by exact cells_one_ps w1 30 (.int .u64 l)) (by simp; rfl) (by omega) ?_; intro A2 c2 w2 HO2 HC2 HW2 HN2; have HB2 : Hid (Below wr.heap.size wr w2) := bl_ch (by first | exact HB1.out | exact bl_alloc HB1.out _) HC2.out (fun b hb => HA1.out b hb); have HA2 : Hid (∀ b, OwnB A2 b → wr.heap.size ≤ b) := (fun b hb => (HW2.out b hb).elim (fun h => HA1.out b h) (fun h => by first | omega | (simp at h; omega))); have hs2 := HB2.out.size; clear HC2 HN2)
                | (refine step_append_sl rfl (.tmp 46) (.tmp 48) 52 rfl 30 (.int .u64 0) 1 8 rfl (by omega) Try.underlying52 info_u64 (by omega) A1 j c1 (uints (acc.take j)) ⟨wr.heap.size + 1, 0, none⟩ 1 1 [.int .u64 l] (by go_simp) (by go_simp) (HO1.out.keep (fun b hb => by first | rfl | exact Below.heap_alloc _ _ b (HO1.out.lt hb))) rfl (by omega) (one_cell hcl) (by simp; rfl) (by omega) ?_; intro A2 c2 w2 HO2 HC2 HW2 HN2; have HB2 : Hid (Below wr.heap.size wr w2) := bl_ch (by first | exact HB1.out | exact bl_alloc HB1.out _) HC2.out (fun b hb => HA1.out b hb); have HA2 : Hid (∀ b, OwnB A2 b → wr.heap.size ≤ b) := (fun b hb => (HW2.out b hb).elim (fun h => HA1.out b h) (fun h => by first | omega | (simp at h; omega))); have hs2 := HB2.out.size; clear HC2 HN2)
                | (refine step_append_sl rfl (.tmp 46) (.tmp 48) 52 rfl 30 (.int .u64 0) 1 8 rfl (by omega) Try.underlying52 info_u64 (by omega) A1 j c1 (uints (acc.take j)) ⟨wr.heap.size, 0, none⟩ 1 1 [.int .u64 l] (by go_simp) (by go_simp) (HO1.out.keep (fun b hb => by first | rfl | exact Below.heap_alloc _ _ b (HO1.out.lt hb))) rfl (by omega) (one_cell hcl) (by simp; rfl) (by omega) ?_; intro A2 c2 w2 HO2 HC2 HW2 HN2; have HB2 : Hid (Below wr.heap.size wr w2) := bl_ch (by first | exact HB1.out | exact bl_alloc HB1.out _) HC2.out (fun b hb => HA1.out b hb); have HA2 : Hid (∀ b, OwnB A2 b → wr.heap.size ≤ b) := (fun b hb => (HW2.out b hb).elim (fun h => HA1.out b h) (fun h => by first | omega | (simp at h; omega))); have hs2 := HB2.out.size; clear HC2 HN2)
                | (refine step_append_sl2 rfl (.tmp 49) (.tmp 52) 52 rfl 30 (.int .u64 0) 1 8 rfl (by omega) Try.underlying52 info_u64 (by omega) A2 (j + 1) c2 (uints (acc.take j) ++ [.int .u64 l]) (some ⟨ga, oa + j, none⟩) (m - j) (c - j) (uints (acc.drop j)) (by go_simp) (by go_simp) HO2.out (HD.out _ HB2.out) (uints_one _) (by omega) ?_; intro A3 c3 w3 HO3 HC3 HW3; have HB3 : Hid (Below wr.heap.size wr w3) := bl_ch HB2.out HC3.out (fun b hb => HA2.out b hb); have HA3 : Hid (∀ b, OwnB A3 b → wr.heap.size ≤ b) := (fun b hb => (HW3.out b hb).elim (fun h => HA2.out b h) (fun h => by rw [h]; exact hs2)); clear HC3 HW3))
              all_goals go_wp2
              all_goals (
                go_roundw
                case rel => exact ⟨k + 1, m + 1, A3, c3, by omega, by omega, by go_num, by go_num, HFIN.out A3 c3 w3 HO3.out HB3.out HA3.out⟩
                case measure => simp [intOf]; omega)
          · have hd1 : decide ((j : Int) < (m : Int)) = false := decide_eq_false (by omega)
            obtain rfl : j = m := by omega
            have HNX : Hid (insL acc l = acc.take j ++ l :: acc.drop j) := by
              show _ = _
              unfold insL
              rw [HQ.out, List.getElem?_eq_none (by rw [HML.out]; exact Nat.le_refl _), if_neg (by simp)]
            clear hjq
            rcases HSL.out.2 with ⟨hA, hj0, hc0⟩ | ⟨ga, oa, cur, hA, hC, hjc, hcm, hfit, ht⟩
            · subst hA hj0 hc0
              go_upto_region 10 with (fail)
              go_region_law (first
                | (refine step_append_sl rfl (.tmp 46) (.tmp 48) 52 rfl 30 (.int .u64 0) 1 8 rfl (by omega) Try.underlying52 info_u64 (by omega) (some ⟨wr.heap.size, 0, none⟩) 0 0 [] ⟨wr.heap.size + 1, 0, none⟩ 1 1 [.int .u64 l] (by go_simp) (by go_simp) (sl0 (by (repeat (with_reducible refine CB.drew ?_)); with_reducible refine CB.alloc ?_ _; (repeat (with_reducible refine CB.drew ?_)); with_reducible exact CB.new _ _ _)) rfl (by omega) (one_cell (by go_simp)) (by simp; rfl) (by omega) ?_; intro A2 c2 w2 HO2 HC2 HW2 HN2; have HB2 : Hid (Below wr.heap.size wr w2) := bl_ch (by (repeat (first | with_reducible exact Below.refl _ _ | with_reducible refine bl_alloc ?_ _ | with_reducible refine bl_drew ?_ | with_reducible refine bl_drewN ?_ _ | with_reducible refine bl_bx ?_ _ | with_reducible exact BX.below _ | with_reducible refine bl_set ?_ (by first | (exact Nat.le_refl _) | (simp; done) | (simp; omega)) _ | assumption))) HC2.out (fun b hb => by (have hb' : wr.heap.size = b := (by simpa [OwnB] using hb)); omega); have HA2 : Hid (∀ b, OwnB A2 b → wr.heap.size ≤ b) := (fun b hb => (HW2.out b hb).elim (fun h => by (have hb' : wr.heap.size = b := (by simpa [OwnB] using h)); omega) (fun h => by first | omega | (simp at h; omega))); have hs2 := HB2.out.size; have hcc : 0 + 1 ≤ c2 := HO2.out.cap_le; clear HC2 HN2)
                | (refine step_append_sl rfl (.tmp 46) (.tmp 48) 52 rfl 30 (.int .u64 0) 1 8 rfl (by omega) Try.underlying52 info_u64 (by omega) (some ⟨(wr.heap.size + 1), 0, none⟩) 0 0 [] ⟨wr.heap.size, 0, none⟩ 1 1 [.int .u64 l] (by go_simp) (by go_simp) (sl0 (by (repeat (with_reducible refine CB.drew ?_)); refine CB.new_at _ _ _ ?_; simp)) rfl (by omega) (one_cell (by go_simp)) (by simp; rfl) (by omega) ?_; intro A2 c2 w2 HO2 HC2 HW2 HN2; have HB2 : Hid (Below wr.heap.size wr w2) := bl_ch (by (repeat (first | with_reducible exact Below.refl _ _ | with_reducible refine bl_alloc ?_ _ | with_reducible refine bl_drew ?_ | with_reducible refine bl_drewN ?_ _ | with_reducible refine bl_bx ?_ _ | with_reducible exact BX.below _ | with_reducible refine bl_set ?_ (by first | (exact Nat.le_refl _) | (simp; done) | (simp; omega)) _ | assumption))) HC2.out (fun b hb => by (have hb' : (wr.heap.size + 1) = b := (by simpa [OwnB] using hb)); omega); have HA2 : Hid (∀ b, OwnB A2 b → wr.heap.size ≤ b) := (fun b hb => (HW2.out b hb).elim (fun h => by (have hb' : (wr.heap.size + 1) = b := (by simpa [OwnB] using h)); omega) (fun h => by first | omega | (simp at h; omega))); have hs2 := HB2.out.size; have hcc : 0 + 1 ≤ c2 := HO2.out.cap_le; clear HC2 HN2)
                | (refine step_append_sl2 rfl (.tmp 49) (.tmp 52) 52 rfl 30 (.int .u64 0) 1 8 rfl (by omega) Try.underlying52 info_u64 (by omega) A2 (0 + 1) c2 ([] ++ [.int .u64 l]) none 0 0 [] (by go_simp) (by go_simp) HO2.out Sl.nil (by simp) (by omega) ?_; intro A3 c3 w3 HO3 HC3 HW3; have HB3 : Hid (Below wr.heap.size wr w3) := bl_ch HB2.out HC3.out (fun b hb => HA2.out b hb); have HA3 : Hid (∀ b, OwnB A3 b → wr.heap.size ≤ b) := (fun b hb => (HW3.out b hb).elim (fun h => HA2.out b h) (fun h => by rw [h]; exact hs2)); clear HC3 HW3))
              all_goals go_wp2
              all_goals (
                refine ⟨⟨k + 1, 1, A3, c3, by omega, by omega, by go_num, by go_num, ?_⟩, by simp [intOf]; omega⟩
                rw [HSU.out, HNX.out]
                have hml := HML.out
                have hn0 : acc = [] := List.eq_nil_of_length_eq_zero hml
                refine ⟨by simp [hn0], ?_, HI.out.2.2.1.trans (HB3.out.mono HI.out.2.2.1.size), fun b hb => Nat.le_trans HI.out.2.2.1.size (HA3.out b hb)⟩
                simpa [uints, hn0] using HO3.out)
            · subst hA
              have hga := hC.lt
              clear hC ht hcm hfit
              by_cases hcj : c = j
              · subst hcj
                go_upto_region 10 with (fail)
                have HT : Hid (∀ W, Below wr.heap.size wr W → Sl 30 1 W (some ⟨ga, oa, none⟩) c c (uints (acc.take c))) := fun W hW => by
                  have h := (HSL.out.take c (by omega)).keep (w' := W) (fun b hb => hW.block b (HSL.out.lt hb))
                  simpa [uints] using h
                have HD : Hid (∀ W, Below wr.heap.size wr W → Sl 30 1 W (some ⟨ga, oa, none⟩) 0 0 (uints (acc.drop c))) := fun W hW => by
                  have h := HSL.out.keep (w' := W) (fun b hb => hW.block b (HSL.out.lt hb))
                  have hml := HML.out
                  rw [List.drop_of_length_le (by omega)]
                  exact sl_at0 h
                have HFIN : Hid (∀ A3 c3 w3, Sl 30 1 w3 A3 (c + 1 + 0) c3 (uints (acc.take c) ++ [.int .u64 l] ++ uints (acc.drop c)) → Below wr.heap.size wr w3 → (∀ b, OwnB A3 b → wr.heap.size ≤ b) → LnInv w A3 (c + 1) c3 (linL (offs.take (k + 1))) w3) := by
                  intro A3 c3 w3 h1 h2 h3
                  rw [HSU.out, HNX.out]
                  have e : c + 1 + 0 = c + 1 := by omega
                  rw [e] at h1
                  have hml := HML.out
                  refine ⟨by simp; omega, ?_, HI.out.2.2.1.trans (h2.mono HI.out.2.2.1.size), fun b hb => Nat.le_trans HI.out.2.2.1.size (h3 b hb)⟩
                  simpa [uints] using h1
                go_region_law (first
                  | (refine step_append_sl2 rfl (.tmp 42) (.tmp 45) 52 rfl 30 (.int .u64 0) 1 8 rfl (by omega) Try.underlying52 info_u64 (by omega) (some ⟨wr.heap.size, 0, none⟩) 0 0 [] (some ⟨ga, oa, none⟩) c c (uints (acc.take c)) (by go_simp) (by go_simp) (sl0 (by (repeat (with_reducible refine CB.drew ?_)); with_reducible exact CB.new _ _ _)) (HT.out _ (by (repeat (first | with_reducible exact Below.refl _ _ | with_reducible refine bl_alloc ?_ _ | with_reducible refine bl_drew ?_ | with_reducible refine bl_drewN ?_ _ | with_reducible refine bl_bx ?_ _ | with_reducible exact BX.below _ | with_reducible refine bl_set ?_ (by first | (exact Nat.le_refl _) | (simp; done) | (simp; omega)) _ | assumption)))) (uints_one _) (by omega) ?_; intro A1 c1 w1 HO1 HC1 HW1; rw [List.nil_append, Nat.zero_add] at HO1; have HB1 : Hid (Below wr.heap.size wr w1) := bl_ch (by (repeat (first | with_reducible exact Below.refl _ _ | with_reducible refine bl_alloc ?_ _ | with_reducible refine bl_drew ?_ | with_reducible refine bl_drewN ?_ _ | with_reducible refine bl_bx ?_ _ | with_reducible exact BX.below _ | with_reducible refine bl_set ?_ (by first | (exact Nat.le_refl _) | (simp; done) | (simp; omega)) _ | assumption))) HC1.out (fun b hb => by (have hb' : wr.heap.size = b := (by simpa [OwnB] using hb)); omega); have HA1 : Hid (∀ b, OwnB A1 b → wr.heap.size ≤ b) := (fun b hb => (HW1.out b hb).elim (fun h => by (have hb' : wr.heap.size = b := (by simpa [OwnB] using h)); omega) (fun h => by first | omega | (simp at h; omega))); have hs1 := HB1.out.size; clear HC1)
                  | (refine step_append_sl2 rfl (.tmp 42) (.tmp 45) 52 rfl 30 (.int .u64 0) 1 8 rfl (by omega) Try.underlying52 info_u64 (by omega) (some ⟨wr.heap.size, 0, none⟩) 0 0 [] (some ⟨ga, oa, none⟩) c c (uints (acc.take c)) (by go_simp) (by go_simp) (sl0 (by (repeat (with_reducible refine CB.drew ?_)); with_reducible refine CB.alloc ?_ _; (repeat (with_reducible refine CB.drew ?_)); with_reducible exact CB.new _ _ _)) (HT.out _ (by (repeat (first | with_reducible exact Below.refl _ _ | with_reducible refine bl_alloc ?_ _ | with_reducible refine bl_drew ?_ | with_reducible refine bl_drewN ?_ _ | with_reducible refine bl_bx ?_ _ | with_reducible exact BX.below _ | with_reducible refine bl_set ?_ (by first | (exact Nat.le_refl _) | (simp; done) | (simp; omega)) _ | assumption)))) (uints_one _) (by omega) ?_; intro A1 c1 w1 HO1 HC1 HW1; rw [List.nil_append, Nat.zero_add] at HO1; have HB1 : Hid (Below wr.heap.size wr w1) := bl_ch (by (repeat (first | with_reducible exact Below.refl _ _ | with_reducible refine bl_alloc ?_ _ | with_reducible refine bl_drew ?_ | with_reducible refine bl_drewN ?_ _ | with_reducible refine bl_bx ?_ _ | with_reducible exact BX.below _ | with_reducible refine bl_set ?_ (by first | (exact Nat.le_refl _) | (simp; done) | (simp; omega)) _ | assumption))) HC1.out (fun b hb => by (have hb' : wr.heap.size = b := (by simpa [OwnB] using hb)); omega); have HA1 : Hid (∀ b, OwnB A1 b → wr.heap.size ≤ b) := (fun b hb => (HW1.out b hb).elim (fun h => by (have hb' : wr.heap.size = b := (by simpa [OwnB] using h)); omega) (fun h => by first | omega | (simp at h; omega))); have hs1 := HB1.out.size; have hcl : w1.cell? ⟨wr.heap.size + 1, 0, none⟩ = some (.int .u64 l) := (HC1.out.cells _ _ (by simp) (fun hb => by simp [OwnB] at hb)).trans (by go_simp); have hsl : wr.heap.size + 1 < w1.heap.size := (by have := HC1.out.size; simp at this; omega); clear HC1)
                  | (refine step_append_sl2 rfl (.tmp 42) (.tmp 45) 52 rfl 30 (.int .u64 0) 1 8 rfl (by omega) Try.underlying52 info_u64 (by omega) (some ⟨(wr.heap.size + 1), 0, none⟩) 0 0 [] (some ⟨ga, oa, none⟩) c c (uints (acc.take c)) (by go_simp) (by go_simp) (sl0 (by (repeat (with_reducible refine CB.drew ?_)); refine CB.new_at _ _ _ ?_; simp)) (HT.out _ (by (repeat (first | with_reducible exact Below.refl _ _ | with_reducible refine bl_alloc ?_ _ | with_reducible refine bl_drew ?_ | with_reducible refine bl_drewN ?_ _ | with_reducible refine bl_bx ?_ _ | with_reducible exact BX.below _ | with_reducible refine bl_set ?_ (by first | (exact Nat.le_refl _) | (simp; done) | (simp; omega)) _ | assumption)))) (uints_one _) (by omega) ?_; intro A1 c1 w1 HO1 HC1 HW1; rw [List.nil_append, Nat.zero_add] at HO1; have HB1 : Hid (Below wr.heap.size wr w1) := bl_ch (by (repeat (first | with_reducible exact Below.refl _ _ | with_reducible refine bl_alloc ?_ _ | with_reducible refine bl_drew ?_ | with_reducible refine bl_drewN ?_ _ | with_reducible refine bl_bx ?_ _ | with_reducible exact BX.below _ | with_reducible refine bl_set ?_ (by first | (exact Nat.le_refl _) | (simp; done) | (simp; omega)) _ | assumption))) HC1.out (fun b hb => by (have hb' : (wr.heap.size + 1) = b := (by simpa [OwnB] using hb)); omega); have HA1 : Hid (∀ b, OwnB A1 b → wr.heap.size ≤ b) := (fun b hb => (HW1.out b hb).elim (fun h => by (have hb' : (wr.heap.size + 1) = b := (by simpa [OwnB] using h)); omega) (fun h => by first | omega | (simp at h; omega))); have hs1 := HB1.out.size; have hcl : w1.cell? ⟨wr.heap.size, 0, none⟩ = some (.int .u64 l) := (HC1.out.cells _ _ (by simp; omega) (fun hb => by simp [OwnB] at hb)).trans (by go_simp); have hsl : wr.heap.size < w1.heap.size := (by have := HC1.out.size; simp at this; omega); clear HC1)
                  | (refine step_append_sl rfl (.tmp 46) (.tmp 48) 52 rfl 30 (.int .u64 0) 1 8 rfl (by omega) Try.underlying52 info_u64 (by omega) A1 c c1 (uints (acc.take c)) ⟨w1.heap.size, 0, none⟩ 1 1 [.int .u64 l] (by go_simp) (by go_simp) (HO1.out.keep (fun b hb => by first | rfl | exact Below.heap_alloc _ _ b (HO1.out.lt hb))) rfl (by omega) (by exact cells_one_ps w1 30 (.int .u64 l)) (by simp; rfl) (by omega) ?_; intro A2 c2 w2 HO2 HC2 HW2 HN2; have HB2 : Hid (Below wr.heap.size wr w2) := bl_ch (by first | exact HB1.out | exact bl_alloc HB1.out _) HC2.out (fun b hb => HA1.out b hb); have HA2 : Hid (∀ b, OwnB A2 b → wr.heap.size ≤ b) := (fun b hb => (HW2.out b hb).elim (fun h => HA1.out b h) (fun h => by first | omega | (simp at h; omega))); have hs2 := HB2.out.size; clear HC2 HN2)
                  | (refine step_append_sl rfl (.tmp 46) (.tmp 48) 52 rfl 30 (.int .u64 0) 1 8 rfl (by omega) Try.underlying52 info_u64 (by omega) A1 c c1 (uints (acc.take c)) ⟨wr.heap.size + 1, 0, none⟩ 1 1 [.int .u64 l] (by go_simp) (by go_simp) (HO1.out.keep (fun b hb => by first | rfl | exact Below.heap_alloc _ _ b (HO1.out.lt hb))) rfl (by omega) (one_cell hcl) (by simp; rfl) (by omega) ?_; intro A2 c2 w2 HO2 HC2 HW2 HN2; have HB2 : Hid (Below wr.heap.size wr w2) := bl_ch (by first | exact HB1.out | exact bl_alloc HB1.out _) HC2.out (fun b hb => HA1.out b hb); have HA2 : Hid (∀ b, OwnB A2 b → wr.heap.size ≤ b) := (fun b hb => (HW2.out b hb).elim (fun h => HA1.out b h) (fun h => by first | omega | (simp at h; omega))); have hs2 := HB2.out.size; clear HC2 HN2)
                  | (refine step_append_sl rfl (.tmp 46) (.tmp 48) 52 rfl 30 (.int .u64 0) 1 8 rfl (by omega) Try.underlying52 info_u64 (by omega) A1 c c1 (uints (acc.take c)) ⟨wr.heap.size, 0, none⟩ 1 1 [.int .u64 l] (by go_simp) (by go_simp) (HO1.out.keep (fun b hb => by first | rfl | exact Below.heap_alloc _ _ b (HO1.out.lt hb))) rfl (by omega) (one_cell hcl) (by simp; rfl) (by omega) ?_; intro A2 c2 w2 HO2 HC2 HW2 HN2; have HB2 : Hid (Below wr.heap.size wr w2) := bl_ch (by first | exact HB1.out | exact bl_alloc HB1.out _) HC2.out (fun b hb => HA1.out b hb); have HA2 : Hid (∀ b, OwnB A2 b → wr.heap.size ≤ b) := (fun b hb => (HW2.out b hb).elim (fun h => HA1.out b h) (fun h => by first | omega | (simp at h; omega))); have hs2 := HB2.out.size; clear HC2 HN2)
                  | (refine step_append_sl2 rfl (.tmp 49) (.tmp 52) 52 rfl 30 (.int .u64 0) 1 8 rfl (by omega) Try.underlying52 info_u64 (by omega) A2 (c + 1) c2 (uints (acc.take c) ++ [.int .u64 l]) (some ⟨ga, oa, none⟩) 0 0 (uints (acc.drop c)) (by go_simp) (by go_simp) HO2.out (HD.out _ HB2.out) (uints_one _) (by omega) ?_; intro A3 c3 w3 HO3 HC3 HW3; have HB3 : Hid (Below wr.heap.size wr w3) := bl_ch HB2.out HC3.out (fun b hb => HA2.out b hb); have HA3 : Hid (∀ b, OwnB A3 b → wr.heap.size ≤ b) := (fun b hb => (HW3.out b hb).elim (fun h => HA2.out b h) (fun h => by rw [h]; exact hs2)); clear HC3 HW3))
                all_goals go_wp2
                all_goals (
                  go_roundw
                  case rel => exact ⟨k + 1, c + 1, A3, c3, by omega, by omega, by go_num, by go_num, HFIN.out A3 c3 w3 HO3.out HB3.out HA3.out⟩
                  case measure => simp [intOf]; omega)
              · have hjc' : ¬ c = j := hcj
                go_upto_region 10 with (fail)
                have HT : Hid (∀ W, Below wr.heap.size wr W → Sl 30 1 W (some ⟨ga, oa, none⟩) j c (uints (acc.take j))) := fun W hW => by
                  have h := (HSL.out.take j (by omega)).keep (w' := W) (fun b hb => hW.block b (HSL.out.lt hb))
                  simpa [uints] using h
                have HD : Hid (∀ W, Below wr.heap.size wr W → Sl 30 1 W (some ⟨ga, oa + j, none⟩) (j - j) (c - j) (uints (acc.drop j))) := fun W hW => by
                  have h := (HSL.out.drop j (by omega) ga oa rfl).keep (w' := W) (fun b hb => hW.block b (by have : ga = b := (by simpa [OwnB] using hb); omega))
                  simpa [uints] using h
                have HFIN : Hid (∀ A3 c3 w3, Sl 30 1 w3 A3 (j + 1 + (j - j)) c3 (uints (acc.take j) ++ [.int .u64 l] ++ uints (acc.drop j)) → Below wr.heap.size wr w3 → (∀ b, OwnB A3 b → wr.heap.size ≤ b) → LnInv w A3 (j + 1) c3 (linL (offs.take (k + 1))) w3) := by
                  intro A3 c3 w3 h1 h2 h3
                  rw [HSU.out, HNX.out]
                  have e : j + 1 + (j - j) = j + 1 := by omega
                  rw [e] at h1
                  have hml := HML.out
                  refine ⟨by simp; omega, ?_, HI.out.2.2.1.trans (h2.mono HI.out.2.2.1.size), fun b hb => Nat.le_trans HI.out.2.2.1.size (h3 b hb)⟩
                  simpa [uints] using h1
                have hjcI : (j : Int) ≤ (c : Int) := by omega
                go_region_law (first
                  | (refine step_append_sl2 rfl (.tmp 42) (.tmp 45) 52 rfl 30 (.int .u64 0) 1 8 rfl (by omega) Try.underlying52 info_u64 (by omega) (some ⟨wr.heap.size, 0, none⟩) 0 0 [] (some ⟨ga, oa, none⟩) j c (uints (acc.take j)) (by go_simp) (by go_simp) (sl0 (by (repeat (with_reducible refine CB.drew ?_)); with_reducible exact CB.new _ _ _)) (HT.out _ (by (repeat (first | with_reducible exact Below.refl _ _ | with_reducible refine bl_alloc ?_ _ | with_reducible refine bl_drew ?_ | with_reducible refine bl_drewN ?_ _ | with_reducible refine bl_bx ?_ _ | with_reducible exact BX.below _ | with_reducible refine bl_set ?_ (by first | (exact Nat.le_refl _) | (simp; done) | (simp; omega)) _ | assumption)))) (uints_one _) (by omega) ?_; intro A1 c1 w1 HO1 HC1 HW1; rw [List.nil_append, Nat.zero_add] at HO1; have HB1 : Hid (Below wr.heap.size wr w1) := bl_ch (by (repeat (first | with_reducible exact Below.refl _ _ | with_reducible refine bl_alloc ?_ _ | with_reducible refine bl_drew ?_ | with_reducible refine bl_drewN ?_ _ | with_reducible refine bl_bx ?_ _ | with_reducible exact BX.below _ | with_reducible refine bl_set ?_ (by first | (exact Nat.le_refl _) | (simp; done) | (simp; omega)) _ | assumption))) HC1.out (fun b hb => by (have hb' : wr.heap.size = b := (by simpa [OwnB] using hb)); omega); have HA1 : Hid (∀ b, OwnB A1 b → wr.heap.size ≤ b) := (fun b hb => (HW1.out b hb).elim (fun h => by (have hb' : wr.heap.size = b := (by simpa [OwnB] using h)); omega) (fun h => by first | omega | (simp at h; omega))); have hs1 := HB1.out.size; clear HC1)
                  | (refine step_append_sl2 rfl (.tmp 42) (.tmp 45) 52 rfl 30 (.int .u64 0) 1 8 rfl (by omega) Try.underlying52 info_u64 (by omega) (some ⟨wr.heap.size, 0, none⟩) 0 0 [] (some ⟨ga, oa, none⟩) j c (uints (acc.take j)) (by go_simp) (by go_simp) (sl0 (by (repeat (with_reducible refine CB.drew ?_)); with_reducible refine CB.alloc ?_ _; (repeat (with_reducible refine CB.drew ?_)); with_reducible exact CB.new _ _ _)) (HT.out _ (by (repeat (first | with_reducible exact Below.refl _ _ | with_reducible refine bl_alloc ?_ _ | with_reducible refine bl_drew ?_ | with_reducible refine bl_drewN ?_ _ | with_reducible refine bl_bx ?_ _ | with_reducible exact BX.below _ | with_reducible refine bl_set ?_ (by first | (exact Nat.le_refl _) | (simp; done) | (simp; omega)) _ | assumption)))) (uints_one _) (by omega) ?_; intro A1 c1 w1 HO1 HC1 HW1; rw [List.nil_append, Nat.zero_add] at HO1; have HB1 : Hid (Below wr.heap.size wr w1) := bl_ch (by (repeat (first | with_reducible exact Below.refl _ _ | with_reducible refine bl_alloc ?_ _ | with_reducible refine bl_drew ?_ | with_reducible refine bl_drewN ?_ _ | with_reducible refine bl_bx ?_ _ | with_reducible exact BX.below _ | with_reducible refine bl_set ?_ (by first | (exact Nat.le_refl _) | (simp; done) | (simp; omega)) _ | assumption))) HC1.out (fun b hb => by (have hb' : wr.heap.size = b := (by simpa [OwnB] using hb)); omega); have HA1 : Hid (∀ b, OwnB A1 b → wr.heap.size ≤ b) := (fun b hb => (HW1.out b hb).elim (fun h => by (have hb' : wr.heap.size = b := (by simpa [OwnB] using h)); omega) (fun h => by first | omega | (simp at h; omega))); have hs1 := HB1.out.size; have hcl : w1.cell? ⟨wr.heap.size + 1, 0, none⟩ = some (.int .u64 l) := (HC1.out.cells _ _ (by simp) (fun hb => by simp [OwnB] at hb)).trans (by go_simp); have hsl : wr.heap.size + 1 < w1.heap.size := (by have := HC1.out.size; simp at this; omega); clear HC1)
                  | (refine step_append_sl2 rfl (.tmp 42) (.tmp 45) 52 rfl 30 (.int .u64 0) 1 8 rfl (by omega) Try.underlying52 info_u64 (by omega) (some ⟨(wr.heap.size + 1), 0, none⟩) 0 0 [] (some ⟨ga, oa, none⟩) j c (uints (acc.take j)) (by go_simp) (by go_simp) (sl0 (by (repeat (with_reducible refine CB.drew ?_)); refine CB.new_at _ _ _ ?_; simp)) (HT.out _ (by (repeat (first | with_reducible exact Below.refl _ _ | with_reducible refine bl_alloc ?_ _ | with_reducible refine bl_drew ?_ | with_reducible refine bl_drewN ?_ _ | with_reducible refine bl_bx ?_ _ | with_reducible exact BX.below _ | with_reducible refine bl_set ?_ (by first | (exact Nat.le_refl _) | (simp; done) | (simp; omega)) _ | assumption)))) (uints_one _) (by omega) ?_; intro A1 c1 w1 HO1 HC1 HW1; rw [List.nil_append, Nat.zero_add] at HO1; have HB1 : Hid (Below wr.heap.size wr w1) := bl_ch (by (repeat (first | with_reducible exact Below.refl _ _ | with_reducible refine bl_alloc ?_ _ | with_reducible refine bl_drew ?_ | with_reducible refine bl_drewN ?_ _ | with_reducible refine bl_bx ?_ _ | with_reducible exact BX.below _ | with_reducible refine bl_set ?_ (by first | (exact Nat.le_refl _) | (simp; done) | (simp; omega)) _ | assumption))) HC1.out (fun b hb => by (have hb' : (wr.heap.size + 1) = b := (by simpa [OwnB] using hb)); omega); have HA1 : Hid (∀ b, OwnB A1 b → wr.heap.size ≤ b) := (fun b hb => (HW1.out b hb).elim (fun h => by (have hb' : (wr.heap.size + 1) = b := (by simpa [OwnB] using h)); omega) (fun h => by first | omega | (simp at h; omega))); have hs1 := HB1.out.size; have hcl : w1.cell? ⟨wr.heap.size, 0, none⟩ = some (.int .u64 l) := (HC1.out.cells _ _ (by simp; omega) (fun hb => by simp [OwnB] at hb)).trans (by go_simp); have hsl : wr.heap.size < w1.heap.size := (by have := HC1.out.size; simp at this; omega); clear HC1)
                  | (refine step_append_sl rfl (.tmp 46) (.tmp 48) 52 rfl 30 (.int .u64 0) 1 8 rfl (by omega) Try.underlying52 info_u64 (by omega) A1 j c1 (uints (acc.take j)) ⟨w1.heap.size, 0, none⟩ 1 1 [.int .u64 l] (by go_simp) (by go_simp) (HO1.out.keep (fun b hb => by first | rfl | exact Below.heap_alloc _ _ b (HO1.out.lt hb))) rfl (by omega) (by exact cells_one_ps w1 30 (.int .u64 l)) (by simp; rfl) (by omega) ?_; intro A2 c2 w2 HO2 HC2 HW2 HN2; have HB2 : Hid (Below wr.heap.size wr w2) := bl_ch (by first | exact HB1.out | exact bl_alloc HB1.out _) HC2.out (fun b hb => HA1.out b hb); have HA2 : Hid (∀ b, OwnB A2 b → wr.heap.size ≤ b) := (fun b hb => (HW2.out b hb).elim (fun h => HA1.out b h) (fun h => by first | omega | (simp at h; omega))); have hs2 := HB2.out.size; clear HC2 HN2)
                  | (refine step_append_sl rfl (.tmp 46) (.tmp 48) 52 rfl 30 (.int .u64 0) 1 8 rfl (by omega) Try.underlying52 info_u64 (by omega) A1 j c1 (uints (acc.take j)) ⟨wr.heap.size + 1, 0, none⟩ 1 1 [.int .u64 l] (by go_simp) (by go_simp) (HO1.out.keep (fun b hb => by first | rfl | exact Below.heap_alloc _ _ b (HO1.out.lt hb))) rfl (by omega) (one_cell hcl) (by simp; rfl) (by omega) ?_; intro A2 c2 w2 HO2 HC2 HW2 HN2; have HB2 : Hid (Below wr.heap.size wr w2) := bl_ch (by first | exact HB1.out | exact bl_alloc HB1.out _) HC2.out (fun b hb => HA1.out b hb); have HA2 : Hid (∀ b, OwnB A2 b → wr.heap.size ≤ b) := (fun b hb => (HW2.out b hb).elim (fun h => HA1.out b h) (fun h => by first | omega | (simp at h; omega))); have hs2 := HB2.out.size; clear HC2 HN2)
                  | (refine step_append_sl rfl (.tmp 46) (.tmp 48) 52 rfl 30 (.int .u64 0) 1 8 rfl (by omega) Try.underlying52 info_u64 (by omega) A1 j c1 (uints (acc.take j)) ⟨wr.heap.size, 0, none⟩ 1 1 [.int .u64 l] (by go_simp) (by go_simp) (HO1.out.keep (fun b hb => by first | rfl | exact Below.heap_alloc _ _ b (HO1.out.lt hb))) rfl (by omega) (one_cell hcl) (by simp; rfl) (by omega) ?_; intro A2 c2 w2 HO2 HC2 HW2 HN2; have HB2 : Hid (Below wr.heap.size wr w2) := bl_ch (by first | exact HB1.out | exact bl_alloc HB1.out _) HC2.out (fun b hb => HA1.out b hb); have HA2 : Hid (∀ b, OwnB A2 b → wr.heap.size ≤ b) := (fun b hb => (HW2.out b hb).elim (fun h => HA1.out b h) (fun h => by first | omega | (simp at h; omega))); have hs2 := HB2.out.size; clear HC2 HN2)
                  | (refine step_append_sl2 rfl (.tmp 49) (.tmp 52) 52 rfl 30 (.int .u64 0) 1 8 rfl (by omega) Try.underlying52 info_u64 (by omega) A2 (j + 1) c2 (uints (acc.take j) ++ [.int .u64 l]) (some ⟨ga, oa + j, none⟩) (j - j) (c - j) (uints (acc.drop j)) (by go_simp) (by go_simp) HO2.out (HD.out _ HB2.out) (uints_one _) (by omega) ?_; intro A3 c3 w3 HO3 HC3 HW3; have HB3 : Hid (Below wr.heap.size wr w3) := bl_ch HB2.out HC3.out (fun b hb => HA2.out b hb); have HA3 : Hid (∀ b, OwnB A3 b → wr.heap.size ≤ b) := (fun b hb => (HW3.out b hb).elim (fun h => HA2.out b h) (fun h => by rw [h]; exact hs2)); clear HC3 HW3))
                all_goals go_wp2
                all_goals (
                  go_roundw
                  case rel => exact ⟨k + 1, j + 1, A3, c3, by omega, by omega, by go_num, by go_num, HFIN.out A3 c3 w3 HO3.out HB3.out HA3.out⟩
                  case measure => simp [intOf]; omega)
    · obtain rfl : k = n := by omega
      have HP : Hid (offs.take k = offs) := List.take_of_length_le (by rw [HN.out]; exact Nat.le_refl _)
      rw [HP.out] at HI
      obtain ⟨i1, i2, i3, i4⟩ := HI.out
      go_wp2
      go_ret
      refine ⟨A, c, by rw [i1]; rfl, by rw [i1]; exact i2, i3, i4⟩
end Go.Proofs.Ytngkhligjkcbmaa

namespace Go.Proofs.Ytngkhligjkcbmaa
open Go.RowKit
set_option linter.unusedVariables false
set_option linter.unusedSimpArgs false

theorem asc_unique : ∀ (l1 l2 : List Int), l1.Pairwise (· < ·) → l2.Pairwise (· < ·) → (∀ x, x ∈ l1 ↔ x ∈ l2) → l1 = l2
  | [], [], _, _, _ => rfl
  | [], y :: l2, _, _, h => by have := (h y).2 (by simp); simp at this
  | x :: l1, [], _, _, h => by have := (h x).1 (by simp); simp at this
  | x :: l1, y :: l2, h1, h2, h => by
    rw [List.pairwise_cons] at h1 h2
    have hxy : x = y := by
      have hx := (h x).1 (by simp)
      have hy := (h y).2 (by simp)
      rcases List.mem_cons.1 hx with e | e
      · exact e
      · rcases List.mem_cons.1 hy with e' | e'
        · exact e'.symm
        · have a := h1.1 y e'
          have b := h2.1 x e
          omega
    subst hxy
    rw [asc_unique l1 l2 h1.2 h2.2 (fun z => ?_)]
    constructor
    · intro hz
      rcases List.mem_cons.1 ((h z).1 (by simp [hz])) with e | e
      · have := h1.1 z hz; omega
      · exact e
    · intro hz
      rcases List.mem_cons.1 ((h z).2 (by simp [hz])) with e | e
      · have := h2.1 z hz; omega
      · exact e
theorem insL_mem {acc : List Int} {l x : Int} : x ∈ insL acc l ↔ x = l ∨ x ∈ acc := by
  unfold insL
  split
  · rename_i h
    have hl : l ∈ acc := List.mem_of_getElem? h
    constructor
    · exact fun hx => .inr hx
    · rintro (rfl | hx)
      · exact hl
      · exact hx
  · conv => rhs; rhs; rw [← List.take_append_drop (posL l acc) acc]
    simp only [List.mem_append, List.mem_cons]
    constructor <;> rintro (h | h | h) <;> simp [h]
theorem insL_asc {acc : List Int} {l : Int} (h : acc.Pairwise (· < ·)) : (insL acc l).Pairwise (· < ·) := by
  unfold insL
  split
  · exact h
  · rename_i hne
    have hlt : ∀ x ∈ acc.take (posL l acc), x < l := by
      intro x hx
      obtain ⟨i, hi, rfl⟩ := List.getElem_of_mem hx
      have hi' : i < posL l acc := by simp at hi; omega
      obtain ⟨h1, h2⟩ := posL_lt hi'
      rw [List.getElem_take]; exact h2
    have hgt : ∀ x ∈ acc.drop (posL l acc), l < x := by
      intro x hx
      obtain ⟨i, hi, rfl⟩ := List.getElem_of_mem hx
      simp at hi
      have hp : posL l acc < acc.length := by omega
      have h1 := posL_at hp
      have h2 : acc[posL l acc] ≠ l := fun he => hne (by rw [List.getElem?_eq_getElem hp, he])
      rw [List.getElem_drop]
      rw [List.pairwise_iff_getElem] at h
      by_cases hi0 : i = 0
      · subst hi0
        simp only [Nat.add_zero]
        omega
      · have := h (posL l acc) (posL l acc + i) hp (by omega) (by omega)
        omega
    rw [← List.take_append_drop (posL l acc) acc, List.pairwise_append] at h
    rw [List.pairwise_append]
    refine ⟨h.1, ?_, fun a ha b hb => ?_⟩
    · rw [List.pairwise_cons]; exact ⟨hgt, h.2.1⟩
    · rcases List.mem_cons.1 hb with rfl | hb
      · exact hlt a ha
      · exact h.2.2 a ha b hb
theorem linL_asc (offs : List Int) : (linL offs).Pairwise (· < ·) := by
  have : ∀ (xs acc : List Int), acc.Pairwise (· < ·) → (xs.foldl (fun acc o => insL acc (o / 64)) acc).Pairwise (· < ·) := by
    intro xs
    induction xs with
    | nil => intro acc h; exact h
    | cons x xs ih => intro acc h; exact ih _ (insL_asc h)
  exact this offs [] .nil
theorem linL_mem (offs : List Int) (x : Int) : x ∈ linL offs ↔ ∃ o ∈ offs, o / 64 = x := by
  have : ∀ (xs acc : List Int), x ∈ xs.foldl (fun acc o => insL acc (o / 64)) acc ↔ x ∈ acc ∨ ∃ o ∈ xs, o / 64 = x := by
    intro xs
    induction xs with
    | nil => intro acc; simp
    | cons y xs ih =>
      intro acc
      rw [List.foldl_cons, ih, insL_mem]
      simp only [List.mem_cons, exists_eq_or_imp]
      constructor
      · rintro ((h | h) | h)
        · exact .inr (.inl h.symm)
        · exact .inl h
        · exact .inr (.inr h)
      · rintro (h | h | h)
        · exact .inl (.inr h)
        · exact .inl (.inl h.symm)
        · exact .inr h
  have h := this offs []
  simpa [linL] using h
theorem cpt_asc (xs : List Int) (h : xs.Pairwise (· ≤ ·)) : (cpt xs).Pairwise (· < ·) ∧ ∀ x, x ∈ cpt xs ↔ x ∈ xs := by
  have : ∀ k, (cpt (xs.take k)).Pairwise (· < ·) ∧ ∀ x, x ∈ cpt (xs.take k) ↔ x ∈ xs.take k := by
    intro k
    induction k with
    | zero => simp [cpt]
    | succ k ih =>
      by_cases hk : k < xs.length
      · rw [List.take_succ_eq_append_getElem hk, cpt_snoc, cpt_last xs k]
        split
        · rename_i hl
          refine ⟨ih.1, fun x => ?_⟩
          rw [ih.2 x]
          have hm : xs[k] ∈ xs.take k := List.mem_of_getLast? hl
          simp only [List.mem_append, List.mem_singleton]
          constructor
          · exact fun hx => .inl hx
          · rintro (hx | rfl)
            · exact hx
            · exact hm
        · rename_i hl
          refine ⟨?_, fun x => ?_⟩
          · rw [List.pairwise_append]
            refine ⟨ih.1, by simp, fun a ha b hb => ?_⟩
            have hb : b = xs[k] := by simpa using hb
            subst hb
            have ha' := (ih.2 a).1 ha
            obtain ⟨i, hi, rfl⟩ := List.getElem_of_mem ha'
            have hik : i < k := by simp at hi; omega
            rw [List.getElem_take]
            rw [List.pairwise_iff_getElem] at h
            have h1 := h i k (by omega) hk hik
            have h2 : xs[k - 1]'(by omega) ≠ xs[k] := fun he => hl (by
              rw [List.getLast?_eq_getElem?, List.length_take, Nat.min_eq_left (by omega), List.getElem?_take, if_pos (by omega), List.getElem?_eq_getElem (by omega), he])
            by_cases hik1 : i = k - 1
            · subst hik1; omega
            · have h3 := h i (k - 1) (by omega) (by omega) (by omega)
              have h4 := h (k - 1) k (by omega) hk (by omega)
              omega
          · simp only [List.mem_append, List.mem_singleton, ih.2 x]
      · rw [List.take_of_length_le (by omega)] at ih ⊢; exact ih
  have h2 := this xs.length
  rwa [List.take_length] at h2
/-- The lines that Stores flushes are those of the reference. -/
theorem lines_eq (ws : List (Int × Int)) : cpt (srtL (starts ws)) = (linL (ws.map Prod.fst)).map (fun l => 64 * l) := by
  obtain ⟨h1, h2⟩ := cpt_asc _ (srtL_sorted (starts ws))
  refine asc_unique _ _ h1 ?_ (fun x => ?_)
  · rw [List.pairwise_map]
    exact (linL_asc _).imp (fun h => by omega)
  · rw [h2 x, (srtL_perm _).mem_iff]
    simp only [starts, List.mem_map, linL_mem]
    constructor
    · rintro ⟨p, hp, rfl⟩
      exact ⟨p.1 / 64, ⟨p.1, ⟨p, hp, rfl⟩, rfl⟩, by unfold startOf; omega⟩
    · rintro ⟨l, ⟨o, ⟨p, hp, rfl⟩, rfl⟩, rfl⟩
      exact ⟨p, hp, by unfold startOf; omega⟩
end Go.Proofs.Ytngkhligjkcbmaa

namespace Go.Proofs.Ytngkhligjkcbmaa
open Go.RowKit
set_option linter.unusedVariables false
set_option linter.unusedSimpArgs false

def flL (ls : List Int) : List Ins := ls.map fun l => (2, 64 * l, 0)
def flP (offs : List Int) : List Ins := if linL offs = [] then [] else flL (linL offs) ++ [(3, 0, 0)]
set_option maxRecDepth 100000 in
set_option maxHeartbeats 4000000 in
theorem refFlushes_ok (w : World) (A0 : Option Addr) (n c0 : Nat) (offs : List Int) (hn : offs.length = n) (hnb : n ≤ 100000) (hr : ∀ o ∈ offs, 0 ≤ o ∧ o < 18446744073709551616) (hS : Sl 30 1 w A0 n c0 (uints offs)) :
    Calls Try.prog 95 #[.slice A0 n c0] w (PgPost 101 w (flP offs)) := by
  have HL := Lib.hid (refLines_ok w A0 n c0 offs hn hnb hr hS)
  have hll := linL_length offs
  have hlr : ∀ l ∈ linL offs, 0 ≤ l ∧ l < 288230376151711744 := by
    intro l hl
    obtain ⟨o, ho, rfl⟩ := (linL_mem offs l).1 hl
    have := hr o ho
    omega
  unfold LnPost at HL
  unfold flP
  obtain ⟨ls, hls⟩ : ∃ ls, linL offs = ls := ⟨_, rfl⟩
  rw [hls] at HL hll hlr ⊢
  obtain ⟨m, hm⟩ : ∃ m, ls.length = m := ⟨_, rfl⟩
  rw [hm] at HL hll
  have HM := Lib.hid hm
  have HR := Lib.hid hlr
  obtain ⟨F, hF⟩ : ∃ F, (if ls = [] then [] else flL ls ++ [(3, 0, 0)]) = F := ⟨_, rfl⟩
  have HF := Lib.hid hF
  rw [hF]
  clear hF
  clear hS hr hls hm hlr
  go_enter Try.func95, Try.ntmps95
  go_wp2_with (go_at_call 109; refine HL.out.mono ?_; rintro e w1 ⟨A, c, rfl, hS, hB, hO⟩; have HS := Lib.hid hS; have HB := Lib.hid hB; clear hS hB hO)
  have HI0 : Hid (PgInv 101 w1 none 0 0 (flL (ls.take 0)) w1) := ⟨by simp [flL], Sl.nil, Below.refl _ _, by simp [OwnB]⟩
  go_loopw [9, 3, 5, 10, 11, 12, 13, 14, 15, 16, 17, 18, 19] (fun i p _ _ _ _ _ _ _ _ _ _ _ wr => ∃ (k : Nat) (A : Option Addr) (c : Nat), k ≤ m ∧ i = .int .i64 k ∧ p = .slice A k c ∧ PgInv 101 w1 A k c (flL (ls.take k)) wr) (fun i p _ _ _ _ _ _ _ _ _ _ _ _ => m - (intOf i).toNat)
  case atStart => exact ⟨0, none, 0, by omega, rfl, rfl, HI0.out⟩
  case round =>
    clear HI0
    obtain ⟨k, A1, c1, hk, rfl, rfl, hI⟩ := hrel
    have HI := Lib.hid hI
    clear hI
    by_cases hlt : k < m
    · have hkl : k < ls.length := by rw [HM.out]; exact hlt
      obtain ⟨b, off, rfl, hbl, e1⟩ := (HS.out.keep (w' := wr) (fun b hb => HI.out.2.2.1.block b (HS.out.lt hb))).at_ (j := k) (by simpa [uints] using hkl)
      obtain ⟨l, hl⟩ : ∃ o, ls[k] = o := ⟨_, rfl⟩
      have hlr := HR.out _ (List.getElem_mem hkl)
      rw [hl] at hlr
      rw [show (uints ls)[k]'(by simpa [uints] using hkl) = .int .u64 l by simp [uints, hl]] at e1
      have HSU : Hid (flL (ls.take (k + 1)) = flL (ls.take k) ++ [(2, 64 * l, 0)]) := by
        show _ = _
        rw [List.take_succ_eq_append_getElem hkl, hl]; simp [flL]
      have e2 : IntKind.u64.wrap (64 * l) = 64 * l := IntWalk.u64_in _ (by omega)
      clear hl hlr
      go_wp2_with (at_builtin; refine wpList_append_sl rfl (.tmp 13) (.tmp 17) 37 rfl 101 (.agg #[.int .u8 0, .int .u64 0, .int .u64 0]) 3 24 rfl (by omega) Try.underlying37 info_instrR (by omega) A1 k c1 (pcells (flL (ls.take k))) ⟨wr.heap.size, 0, none⟩ 1 1 [.int .u8 2, .int .u64 (64 * l), .int .u64 0] rfl rfl ?hsl rfl (by omega) ?hc3 (ins_one _ _ _) (by omega) ?_; (case hsl => exact (HI.out.2.1.keep (fun b hb => Below.heap_alloc _ _ b (HI.out.2.1.lt hb)))); (case hc3 => have := cells_three wr 101 (.int .u8 2) (.int .u64 (64 * l)) (.int .u64 0); simpa using this); intro A2 c2' w2 HO2 HC2 HW2 HN2)
      have HB2 : Hid (Below wr.heap.size wr (wr.alloc (.cells #[.int .u8 2, .int .u64 (64 * l), .int .u64 0] 101))) := by show Below _ _ _; (repeat (first | with_reducible exact Below.refl _ _ | with_reducible refine bl_alloc ?_ _ | with_reducible refine bl_drew ?_ | with_reducible refine bl_drewN ?_ _ | with_reducible refine bl_bx ?_ _ | with_reducible exact BX.below _ | with_reducible refine bl_set ?_ (by first | (exact Nat.le_refl _) | (simp; done) | (simp; omega)) _ | assumption))
      have HIN := Lib.hid (HI.out.step (2, 64 * l, 0) HB2.out HO2.out HC2.out HW2.out)
      refine ⟨⟨k + 1, A2, c2', by omega, by go_num, rfl, by rw [HSU.out]; exact HIN.out⟩, by simp [intOf]; omega⟩
    · obtain rfl : k = m := by omega
      have HP : Hid (ls.take k = ls) := List.take_of_length_le (by rw [HM.out]; exact Nat.le_refl _)
      rw [HP.out] at HI
      cases k with
      | zero =>
        have hls : ls = [] := List.eq_nil_of_length_eq_zero HM.out
        have HLS := Lib.hid hls
        clear hls
        go_wp2
        have hf := HF.out
        rw [HLS.out, if_pos rfl] at hf
        rw [← hf]
        exact bodyPost_ret (v := .slice none 0 0) (by simp [results, Try.results95, go_sem]) rfl ⟨none, 0, rfl, Sl.nil, HB.out.trans (HI.out.2.2.1.mono HB.out.size), by simp [OwnB]⟩
      | succ k =>
        have h0 : ((k + 1 : Nat) : Int) ≠ 0 := by omega
        have h0' : (((k + 1 : Nat) : Int) == 0) = false := by simp; omega
        obtain ⟨K, hK⟩ : ∃ K, k + 1 = K := ⟨_, rfl⟩
        have HLS : Hid (ls ≠ []) := fun he => by have := HM.out; rw [he] at this; simp at this
        rw [hK] at HI HM hk hll HP h0 h0' ⊢
        clear hK
        go_wp2_with (at_builtin; refine wpList_append_sl rfl (.tmp 23) (.tmp 25) 37 rfl 101 (.agg #[.int .u8 0, .int .u64 0, .int .u64 0]) 3 24 rfl (by omega) Try.underlying37 info_instrR (by omega) A1 K c1 (pcells (flL ls)) ⟨wr.heap.size, 0, none⟩ 1 1 [.int .u8 3, .int .u64 0, .int .u64 0] rfl rfl ?hsl rfl (by omega) ?hc3 (ins_one _ _ _) (by omega) ?_; (case hsl => exact (HI.out.2.1.keep (fun b hb => Below.heap_alloc _ _ b (HI.out.2.1.lt hb)))); (case hc3 => have := cells_three wr 101 (.int .u8 3) (.int .u64 0) (.int .u64 0); simpa using this); intro A2 c2' w2 HO2 HC2 HW2 HN2)
        have HB2 : Hid (Below wr.heap.size wr (wr.alloc (.cells #[.int .u8 3, .int .u64 0, .int .u64 0] 101))) := by show Below _ _ _; (repeat (first | with_reducible exact Below.refl _ _ | with_reducible refine bl_alloc ?_ _ | with_reducible refine bl_drew ?_ | with_reducible refine bl_drewN ?_ _ | with_reducible refine bl_bx ?_ _ | with_reducible exact BX.below _ | with_reducible refine bl_set ?_ (by first | (exact Nat.le_refl _) | (simp; done) | (simp; omega)) _ | assumption))
        have HIN := Lib.hid (HI.out.step (3, 0, 0) HB2.out HO2.out HC2.out HW2.out)
        go_ret
        rw [← HF.out, if_neg HLS.out]
        obtain ⟨A3, c3, q1, q2, q3, q4⟩ := HIN.out.post (e := .returned (.slice A2 (K + 1) c2')) rfl
        exact ⟨A3, c3, q1, q2, HB.out.trans (q3.mono HB.out.size), fun b hb => Nat.le_trans HB.out.size (q4 b hb)⟩
end Go.Proofs.Ytngkhligjkcbmaa

namespace Go.Proofs.Ytngkhligjkcbmaa
open Go.RowKit
set_option linter.unusedVariables false
set_option linter.unusedSimpArgs false

theorem Sl.wrE {et : TypeId} {w : World} {A : Option Addr} {m c : Nat} {ws : List (Int × Int)} (h : Sl et 2 w A m c (wcells ws)) {k : Nat} (hk : k < ws.length) :
    ∃ g off, A = some ⟨g, off, none⟩ ∧ g < w.heap.size ∧ w.cell? ⟨g, off + 2 * k, none⟩ = some (.int .u64 ws[k].1) ∧ w.cell? ⟨g, off + 2 * k + 1, none⟩ = some (.int .u64 ws[k].2) := by
  obtain ⟨e1, e2⟩ := wcells_get ws k hk
  obtain ⟨g, off, hA, hl, _⟩ := h.at_ (j := 2 * k) (by rw [length_wcells]; omega)
  have c1 := h.cells _ hA _ _ e1
  have c2 := h.cells _ hA _ _ e2
  have h1 : ∀ j, (⟨g, off, none⟩ : Addr).add j = ⟨g, off + j, none⟩ := by intro j; unfold Addr.add; split <;> simp_all
  rw [h1] at c1 c2
  exact ⟨g, off, hA, hl, c1, c2⟩
def refStP (ws : List (Int × Int)) : List Ins := insSt ws ++ flP (ws.map Prod.fst)
theorem refStP_eq (ws : List (Int × Int)) (h : ws ≠ []) : refStP ws = storesX ws := by
  unfold refStP storesX flP
  have hne : linL (ws.map Prod.fst) ≠ [] := by
    intro he
    cases ws with
    | nil => exact h rfl
    | cons p ws =>
      have := (linL_mem ((p :: ws).map Prod.fst) (p.1 / 64)).2 ⟨p.1, by simp, rfl⟩
      rw [he] at this
      simp at this
  rw [if_neg hne, lines_eq, List.append_assoc]
  simp [flL, insFl, Function.comp_def]
theorem refStP_nil : refStP [] = [] := by simp [refStP, insSt, flP, linL]
def StpInv (w : World) (ws : List (Int × Int)) (k : Nat) (A : Option Addr) (c : Nat) (B : Option Addr) (d : Nat) (wr : World) : Prop :=
  PgInv 101 w A k c (insSt (ws.take k)) wr ∧ Sl 30 1 wr B k d (uints ((ws.take k).map Prod.fst)) ∧ ∀ b, OwnB B b → w.heap.size ≤ b ∧ ¬ OwnB A b
set_option maxRecDepth 100000 in
set_option maxHeartbeats 4000000 in
theorem refStores_ok (w : World) (A0 : Option Addr) (n c0 : Nat) (ws : List (Int × Int)) (hn : ws.length = n) (hnb : n ≤ 100000) (hr : ∀ p ∈ ws, 0 ≤ p.1 ∧ p.1 < 18446744073709551616) (hS : Sl 94 2 w A0 n c0 (wcells ws)) :
    Calls Try.prog 62 #[.slice A0 n c0] w (PgPost 101 w (refStP ws)) := by
  have HN := Lib.hid hn
  have HS := Lib.hid hS
  have HR := Lib.hid hr
  clear hn hS hr
  go_enter Try.func62, Try.ntmps62
  go_wp2
  have HI0 : Hid (StpInv w ws 0 none 0 none 0 w) := ⟨⟨by simp [insSt], Sl.nil, Below.refl _ _, by simp [OwnB]⟩, by simpa [uints] using Sl.nil, by simp [OwnB]⟩
  go_loopw [9, 3, 4, 6, 10, 11, 12, 13, 14, 15, 16, 17, 18, 19, 20, 21, 22, 23, 24, 25, 26] (fun i p q _ _ _ _ _ _ _ _ _ _ _ _ _ _ _ _ _ _ wr => ∃ (k : Nat) (A : Option Addr) (c : Nat) (B : Option Addr) (d : Nat), k ≤ n ∧ i = .int .i64 k ∧ p = .slice A k c ∧ q = .slice B k d ∧ StpInv w ws k A c B d wr) (fun i p q _ _ _ _ _ _ _ _ _ _ _ _ _ _ _ _ _ _ _ => n - (intOf i).toNat)
  case atStart => exact ⟨0, none, 0, none, 0, by omega, rfl, rfl, rfl, HI0.out⟩
  case round =>
    clear HI0
    obtain ⟨k, A, c, B, d, hk, rfl, rfl, rfl, hI⟩ := hrel
    have HI := Lib.hid hI
    clear hI
    by_cases hlt : k < n
    · have hkl : k < ws.length := by rw [HN.out]; exact hlt
      obtain ⟨gw, ow, rfl, hl, e1, e2⟩ := (HS.out.keep (w' := wr) (fun b hb => HI.out.1.2.2.1.block b (HS.out.lt hb))).wrE hkl
      obtain ⟨⟨of, v⟩, hp⟩ : ∃ p, ws[k] = p := ⟨_, rfl⟩
      rw [hp] at e1 e2
      rw [show 2 * k = k * 2 by omega] at e1 e2
      have HSU : Hid (insSt (ws.take (k + 1)) = insSt (ws.take k) ++ [(1, of, v)] ∧ (ws.take (k + 1)).map Prod.fst = (ws.take k).map Prod.fst ++ [of]) := by
        constructor
        · rw [List.take_succ_eq_append_getElem hkl, hp]; simp [insSt]
        · rw [List.take_succ_eq_append_getElem hkl, hp]; simp
      have hgn : ¬ gw = wr.heap.size := by omega
      clear hp
      go_wp2_with (at_builtin; first
        | (refine wpList_append_sl rfl (.tmp 13) (.tmp 19) 37 rfl 101 (.agg #[.int .u8 0, .int .u64 0, .int .u64 0]) 3 24 rfl (by omega) Try.underlying37 info_instrR (by omega) A k c (pcells (insSt (ws.take k))) ⟨wr.heap.size + 1, 0, none⟩ 1 1 [.int .u8 1, .int .u64 of, .int .u64 v] rfl rfl ?hsl rfl (by omega) ?hc3 (ins_one _ _ _) (by omega) ?_; (case hsl => exact (HI.out.1.2.1.keep (fun b hb => Below.heap_alloc _ _ b (HI.out.1.2.1.lt hb))).keep (fun b hb => Below.heap_alloc _ _ b (by have := HI.out.1.2.1.lt hb; simp; omega))); (case hc3 => have := cells_three (wr.alloc (.cells #[.int .u64 of, .int .u64 v] 94)) 101 (.int .u8 1) (.int .u64 of) (.int .u64 v); simpa using this); intro A2 c2' w2 HO2 HC2 HW2 HN2; have hno : ¬ OwnB A wr.heap.size := (fun ho => by have := HI.out.1.2.1.lt ho; omega); have m0 : w2.cell? ⟨wr.heap.size, 0, none⟩ = some (.int .u64 of) := ((HC2.out.cells _ _ (by simp; omega) hno).trans (by go_simp)); have m1 : wr.heap.size < w2.heap.size := (by have := HC2.out.size; simp at this; omega); have HSB : Hid (Sl 30 1 w2 B k d (uints ((ws.take k).map Prod.fst))) := (HI.out.2.1.keep (fun b hb => (HC2.out.block b (by have := HI.out.2.1.lt hb; simp; omega) (HI.out.2.2 b hb).2).trans ((Below.heap_alloc _ _ b (by have := HI.out.2.1.lt hb; simp; omega)).trans (Below.heap_alloc _ _ b (HI.out.2.1.lt hb))))))
        | (refine wpList_append_sl rfl (.tmp 21) (.tmp 24) 52 rfl 30 (.int .u64 0) 1 8 rfl (by omega) Try.underlying52 info_u64 (by omega) B k d (uints ((ws.take k).map Prod.fst)) ⟨w2.heap.size, 0, none⟩ 1 1 [.int .u64 of] rfl rfl ?hsl rfl (by omega) ?hc3 (by simp; rfl) (by omega) ?_; (case hsl => exact HSB.out.keep (fun b hb => Below.heap_alloc _ _ b (HSB.out.lt hb))); (case hc3 => exact cells_one_ps w2 30 _); intro B2 d2' w3 HO3 HC3 HW3 HN3))
      have HB2 : Hid (Below wr.heap.size wr ((wr.alloc (.cells #[.int .u64 of, .int .u64 v] 94)).alloc (.cells #[.int .u8 1, .int .u64 of, .int .u64 v] 101))) := by show Below _ _ _; (repeat (first | with_reducible exact Below.refl _ _ | with_reducible refine bl_alloc ?_ _ | with_reducible refine bl_drew ?_ | with_reducible refine bl_drewN ?_ _ | with_reducible refine bl_bx ?_ _ | with_reducible exact BX.below _ | with_reducible refine bl_set ?_ (by first | (exact Nat.le_refl _) | (simp; done) | (simp; omega)) _ | assumption))
      have HIN := Lib.hid (HI.out.1.step (1, of, v) HB2.out HO2.out HC2.out HW2.out)
      have hA2 : ∀ b, OwnB A2 b → ¬ OwnB B b := fun b hb ho => by
        rcases HW2.out b hb with h | h
        · exact (HI.out.2.2 b ho).2 h
        · have := HI.out.2.1.lt ho
          simp at h; omega
      have hw2 : ∀ b, b < w2.heap.size → ¬ OwnB B b → w3.heap[b]? = w2.heap[b]? := fun b hb ho => (HC3.out.block b (by simp; omega) ho).trans (Below.heap_alloc _ _ b hb)
      refine ⟨⟨k + 1, A2, c2', B2, d2', by omega, by go_num, rfl, rfl, ⟨?_, ?_, ?_, ?_⟩, ?_, fun b hb => ?_⟩, by simp [intOf]; omega⟩
      · rw [HSU.out.1]; exact HIN.out.1
      · rw [HSU.out.1]; exact HIN.out.2.1.keep (fun b hb => hw2 b (HIN.out.2.1.lt hb) (hA2 b hb))
      · exact bl_ch (bl_alloc HIN.out.2.2.1 _) HC3.out (fun b hb => (HI.out.2.2 b hb).1)
      · exact HIN.out.2.2.2
      · rw [HSU.out.2]; have h := HO3.out; simpa [uints] using h
      · rcases HW3.out b hb with h | h
        · exact ⟨(HI.out.2.2 b h).1, fun ho => hA2 b ho h⟩
        · have h1 := HI.out.1.2.2.1.size
          have h2 : b = w2.heap.size + 1 := by simpa using h
          exact ⟨by omega, fun ho => by have := HIN.out.2.1.lt ho; omega⟩
    · obtain rfl : k = n := by omega
      have HP : Hid (ws.take k = ws) := List.take_of_length_le (by rw [HN.out]; exact Nat.le_refl _)
      unfold StpInv at HI
      rw [HP.out] at HI
      obtain ⟨xs, hxs⟩ : ∃ xs, ws.map Prod.fst = xs := ⟨_, rfl⟩
      have hxl : xs.length = k := by rw [← hxs]; simpa using HN.out
      have HF := Lib.hid (refFlushes_ok wr B k d xs hxl hnb (fun o ho => by rw [← hxs] at ho; obtain ⟨p, hp, rfl⟩ := List.mem_map.1 ho; exact HR.out p hp) (by have := HI.out.2.1; rwa [hxs] at this))
      unfold PgPost at HF
      obtain ⟨F, hF⟩ : ∃ F, flP xs = F := ⟨_, rfl⟩
      obtain ⟨m, hm⟩ : ∃ m, F.length = m := ⟨_, rfl⟩
      have hmb : m ≤ 100001 := by
        have := linL_length xs
        rw [← hm, ← hF]; unfold flP
        split
        · simp
        · simp [flL]; omega
      rw [hF, hm] at HF
      have HE : Hid (refStP ws = insSt ws ++ F) := by show _ = _; rw [refStP, hxs, hF]
      have HFM := Lib.hid hm
      clear hxs hF hm hxl
      go_wp2_with (first
        | (go_at_call 95; refine HF.out.mono ?_; rintro e w1 ⟨G, gd, rfl, hS, hB, hO⟩; have HSG := Lib.hid hS; have HBG := Lib.hid hB; clear hS hB hO)
        | (at_builtin; refine wpList_append_sl2 rfl (.tmp 27) (.tmp 29) 37 rfl 101 (.agg #[.int .u8 0, .int .u64 0, .int .u64 0]) 3 24 rfl (by omega) Try.underlying37 info_instrR (by omega) A k c (pcells (insSt ws)) G m gd (pcells F) rfl rfl (HI.out.1.2.1.keep (fun b hb => HBG.out.block b (HI.out.1.2.1.lt hb))) HSG.out (pcells_one _) (by omega) ?_; intro A8 c8 w8 HO8 HC8 HW8))
      go_ret
      have hl : (refStP ws).length = k + m := by
        rw [HE.out, List.length_append, HFM.out]; simp [insSt, HN.out]
      refine ⟨A8, c8, by rw [hl]; rfl, ?_, ?_, fun b hb => ?_⟩
      · rw [hl, HE.out, pcells_append]; exact HO8.out
      · exact bl_ch (HI.out.1.2.2.1.trans (HBG.out.mono HI.out.1.2.2.1.size)) HC8.out (fun b hb => HI.out.1.2.2.2 b hb)
      · rcases HW8.out b hb with h | h
        · exact HI.out.1.2.2.2 b h
        · have h1 := HI.out.1.2.2.1.size
          have h2 := HBG.out.size
          omega
end Go.Proofs.Ytngkhligjkcbmaa

namespace Go.Proofs.Ytngkhligjkcbmaa
open Go.RowKit
set_option linter.unusedVariables false
set_option linter.unusedSimpArgs false

def lastK (off : Int) (k : Nat) : Int := if k = 0 then off / 64 else lastLine off k
theorem lastK_succ (off : Int) (k : Nat) (h0 : 0 ≤ off) (h1 : off < 18446744073709551616) : lastK off (k + 1) = if off / 8 + (k : Int) ≤ 2305843009213693951 then (off / 8 + (k : Int)) / 8 else lastK off k := by
  unfold lastK lastLine
  rw [if_neg (by omega)]
  have e : ((k + 1 : Nat) : Int) - 1 = (k : Int) := by omega
  rw [e]
  split
  · rfl
  · split
    · rename_i h2 h3; subst h3; omega
    · split
      · omega
      · rfl
def persI (off n : Int) : List Ins := if n < 1 then [] else persistP off n.toNat
set_option maxRecDepth 100000 in
set_option maxHeartbeats 4000000 in
theorem refPersist_ok (w : World) (off : Int) (ni : Int) (hoff : 0 ≤ off ∧ off < 18446744073709551616) (hni : -1000 ≤ ni ∧ ni ≤ 1000) :
    Calls Try.prog 60 #[.int .u64 off, .int .i64 ni] w (PgPost 101 w (persI off ni)) := by
  by_cases h1 : ni < 1
  · have hp : persI off ni = [] := by unfold persI; rw [if_pos h1]
    rw [hp]
    clear hp
    go_enter Try.func60, Try.ntmps60
    go_wp2
    exact bodyPost_ret (v := .slice none 0 0) (by simp [results, Try.results60, go_sem]) rfl ⟨none, 0, rfl, Sl.nil, Below.refl _ _, by simp [OwnB]⟩
  · obtain ⟨n, rfl⟩ : ∃ n : Nat, ni = (n : Int) := ⟨ni.toNat, by omega⟩
    have hp : persI off (n : Int) = flushP off (lineCount off n) ++ [(3, 0, 0)] := by
      unfold persI
      rw [if_neg h1, Int.toNat_natCast]
      unfold persistP
      rw [if_neg (by omega)]
    have HP := Lib.hid hp
    rw [hp]
    obtain ⟨m, hm⟩ : ∃ m, lineCount off n = m := ⟨_, rfl⟩
    obtain ⟨ll, hll⟩ : ∃ ll, lastLine off n = ll := ⟨_, rfl⟩
    obtain ⟨o8, ho8⟩ : ∃ z, off / 8 = z := ⟨_, rfl⟩
    obtain ⟨ol, hol⟩ : ∃ z, off / 64 = z := ⟨_, rfl⟩
    have hmm : (m : Int) = ll - ol + 1 ∧ ol ≤ ll ∧ ll ≤ 288230376151711743 ∧ m ≤ 100000 ∧ 0 ≤ ol ∧ ol < 288230376151711744 := by
      rw [← hm]
      unfold lineCount
      rw [hll, hol]
      unfold lastLine at hll
      split at hll <;> omega
    obtain ⟨m1, m2, m3, m4, m5, m6⟩ := hmm
    have o81 : 0 ≤ o8 ∧ o8 < 2305843009213693952 := by omega
    have e1 : off.tdiv 64 = ol := by rw [Int.tdiv_eq_ediv_of_nonneg (by omega)]; exact hol
    have e2 : off.tdiv 8 = o8 := by rw [Int.tdiv_eq_ediv_of_nonneg (by omega)]; exact ho8
    have e3 : IntKind.u64.wrap ol = ol := IntWalk.u64_in _ (by omega)
    have e4 : IntKind.u64.wrap o8 = o8 := IntWalk.u64_in _ (by omega)
    have HLL := Lib.hid hll
    have HO := Lib.hid hoff
    have HO8 := Lib.hid ho8
    have HOL := Lib.hid hol
    rw [hm]
    clear hp hm hll ho8 hol hoff
    go_enter Try.func60, Try.ntmps60
    go_wp2
    go_loopw [8, 7, 9, 17, 18, 19, 20, 21, 22, 23, 24, 25, 26, 27, 28, 29, 30] (fun i l _ _ _ _ _ _ _ _ _ _ _ _ _ _ _ wr => ∃ (k : Nat), k ≤ n ∧ i = .int .i64 k ∧ l = .int .u64 (lastK off k) ∧ wr = w) (fun i l _ _ _ _ _ _ _ _ _ _ _ _ _ _ _ _ => n - (intOf i).toNat)
    case atStart => exact ⟨0, by omega, rfl, by show Value.int .u64 ol = .int .u64 (off / 64); rw [HOL.out], rfl⟩
    case round =>
      obtain ⟨k, hk, rfl, rfl, hwr⟩ := hrel
      subst hwr
      by_cases hlt : k < n
      · have hS := lastK_succ off k HO.out.1 HO.out.2
        rw [HO8.out] at hS
        obtain ⟨at', hat⟩ : ∃ z, o8 + (k : Int) = z := ⟨_, rfl⟩
        rw [hat] at hS
        obtain ⟨lk, hlk⟩ : ∃ z, lastK off k = z := ⟨_, rfl⟩
        obtain ⟨lk2, hlk2⟩ : ∃ z, lastK off (k + 1) = z := ⟨_, rfl⟩
        rw [hlk, hlk2] at hS
        have HLK2 := Lib.hid hlk2
        have f1 : IntKind.u64.wrap (k : Int) = (k : Int) := IntWalk.u64_in _ (by omega)
        have f2 : IntKind.u64.wrap (o8 + (k : Int)) = at' := by rw [IntWalk.u64_in _ (by omega)]; exact hat
        have hlt' : (k : Int) < (n : Int) := by omega
        rw [hlk]
        by_cases hA : at' ≤ 2305843009213693951
        · rw [if_pos hA] at hS
          have f3 : at'.tdiv 8 = lk2 := by rw [Int.tdiv_eq_ediv_of_nonneg (by omega)]; exact hS.symm
          have f4 : IntKind.u64.wrap lk2 = lk2 := IntWalk.u64_in _ (by omega)
          clear hat hlk hlk2 hS
          go_wp2
          exact ⟨⟨k + 1, by omega, by go_num, by rw [HLK2.out], trivial⟩, by simp [intOf]; omega⟩
        · rw [if_neg hA] at hS
          clear hat hlk hlk2
          go_wp2
          exact ⟨⟨k + 1, by omega, by go_num, by rw [HLK2.out, hS], trivial⟩, by simp [intOf]; omega⟩
      · obtain rfl : k = n := by omega
        have hlk : lastK off k = ll := by unfold lastK; rw [if_neg (by omega)]; exact HLL.out
        rw [hlk]
        clear hlk
        obtain ⟨wb, rfl⟩ : ∃ wb, wb = wr := ⟨wr, rfl⟩
        have HI0 : Hid (PgInv 101 wb none 0 0 (flushP off 0) wb) := ⟨by simp [flushP], Sl.nil, Below.refl _ _, by simp [OwnB]⟩
        go_wp2
        go_loopw [10, 5, 32, 33, 34, 35, 36, 37, 38, 39, 40, 41, 42] (fun i p _ _ _ _ _ _ _ _ _ _ _ wr => ∃ (j : Nat) (A : Option Addr) (c : Nat), j < m ∧ i = .int .u64 (ol + (j : Int)) ∧ p = .slice A j c ∧ PgInv 101 wb A j c (flushP off j) wr) (fun i p _ _ _ _ _ _ _ _ _ _ _ _ => (ll + 1 - intOf i).toNat)
        case atStart => exact ⟨0, none, 0, by omega, by simp, rfl, HI0.out⟩
        case round =>
          clear HI0
          obtain ⟨j, A, c, hj, rfl, rfl, hI⟩ := hrel
          have HI := Lib.hid hI
          clear hI
          have HSU : Hid (flushP off (j + 1) = flushP off j ++ [(2, 64 * (ol + (j : Int)), 0)]) := by
            show _ = _
            rw [flushP_succ, HOL.out, Int.mul_add]
          obtain ⟨x, hx⟩ : ∃ z, ol + (j : Int) = z := ⟨_, rfl⟩
          rw [hx] at HSU ⊢
          have e5 : IntKind.u64.wrap (64 * x) = 64 * x := IntWalk.u64_in _ (by omega)
          have e6 : IntKind.u64.wrap (x + 1) = ol + ((j + 1 : Nat) : Int) := by rw [IntWalk.u64_in _ (by omega)]; omega
          have hxle : x ≤ ll := by omega
          have hxeq : x = ll ↔ j + 1 = m := by omega
          have HXE := Lib.hid hxeq
          have HX := Lib.hid hx
          clear hx hxeq
          by_cases he : x = ll
          · have HJM := Lib.hid (HXE.out.1 he)
            subst he
            clear e6
            go_wp2_with (at_builtin; first
              | (refine wpList_append_sl rfl (.tmp 34) (.tmp 38) 37 rfl 101 (.agg #[.int .u8 0, .int .u64 0, .int .u64 0]) 3 24 rfl (by omega) Try.underlying37 info_instrR (by omega) A j c (pcells (flushP off j)) ⟨wr.heap.size, 0, none⟩ 1 1 [.int .u8 2, .int .u64 (64 * x), .int .u64 0] rfl rfl ?hsl rfl (by omega) ?hc3 (ins_one _ _ _) (by omega) ?_; (case hsl => exact (HI.out.2.1.keep (fun b hb => Below.heap_alloc _ _ b (HI.out.2.1.lt hb)))); (case hc3 => have := cells_three wr 101 (.int .u8 2) (.int .u64 (64 * x)) (.int .u64 0); simpa using this); intro A2 c2' w2 HO2 HC2 HW2 HN2; have HB2 : Hid (Below wr.heap.size wr (wr.alloc (.cells #[.int .u8 2, .int .u64 (64 * x), .int .u64 0] 101))) := bl_alloc (Below.refl _ _) _; have HIN := Lib.hid (HI.out.step (2, 64 * x, 0) HB2.out HO2.out HC2.out HW2.out); clear HO2 HC2 HW2 HN2 HB2)
              | (refine wpList_append_sl rfl (.tmp 43) (.tmp 45) 37 rfl 101 (.agg #[.int .u8 0, .int .u64 0, .int .u64 0]) 3 24 rfl (by omega) Try.underlying37 info_instrR (by omega) A2 (j + 1) c2' (pcells (flushP off j ++ [(2, 64 * x, 0)])) ⟨w2.heap.size, 0, none⟩ 1 1 [.int .u8 3, .int .u64 0, .int .u64 0] rfl rfl ?hsl rfl (by omega) ?hc3 (ins_one _ _ _) (by omega) ?_; (case hsl => exact (HIN.out.2.1.keep (fun b hb => Below.heap_alloc _ _ b (HIN.out.2.1.lt hb)))); (case hc3 => have := cells_three w2 101 (.int .u8 3) (.int .u64 0) (.int .u64 0); simpa using this); intro A3 c3' w3 HO3 HC3 HW3 HN3; have HB3 : Hid (Below w2.heap.size w2 (w2.alloc (.cells #[.int .u8 3, .int .u64 0, .int .u64 0] 101))) := bl_alloc (Below.refl _ _) _; have HIN3 := Lib.hid (HIN.out.step (3, 0, 0) HB3.out HO3.out HC3.out HW3.out)))
            go_ret
            rw [← HJM.out, HSU.out]
            exact HIN3.out.post rfl
          · have hjm : ¬ j + 1 = m := fun h => he (HXE.out.2 h)
            have he' : (x == ll) = false := by simpa using he
            go_wp2_with (at_builtin; refine wpList_append_sl rfl (.tmp 34) (.tmp 38) 37 rfl 101 (.agg #[.int .u8 0, .int .u64 0, .int .u64 0]) 3 24 rfl (by omega) Try.underlying37 info_instrR (by omega) A j c (pcells (flushP off j)) ⟨wr.heap.size, 0, none⟩ 1 1 [.int .u8 2, .int .u64 (64 * x), .int .u64 0] rfl rfl ?hsl rfl (by omega) ?hc3 (ins_one _ _ _) (by omega) ?_; (case hsl => exact (HI.out.2.1.keep (fun b hb => Below.heap_alloc _ _ b (HI.out.2.1.lt hb)))); (case hc3 => have := cells_three wr 101 (.int .u8 2) (.int .u64 (64 * x)) (.int .u64 0); simpa using this); intro A2 c2' w2 HO2 HC2 HW2 HN2)
            have HB2 : Hid (Below wr.heap.size wr (wr.alloc (.cells #[.int .u8 2, .int .u64 (64 * x), .int .u64 0] 101))) := bl_alloc (Below.refl _ _) _
            have HIN := Lib.hid (HI.out.step (2, 64 * x, 0) HB2.out HO2.out HC2.out HW2.out)
            exact ⟨⟨j + 1, A2, c2', by omega, rfl, rfl, by rw [HSU.out]; exact HIN.out⟩, by have := HX.out; simp [intOf]; omega⟩
/-- Persist whatever the number. -/
theorem memPersistI (w : World) (off : Int) (ni : Int) (hoff : 0 ≤ off ∧ off < 18446744073709551616) (hni : -1000 ≤ ni ∧ ni ≤ 1000) :
    Calls Try.prog 59 #[.int .u64 off, .int .i64 ni] w (StoPost w (persI off ni)) := by
  by_cases h1 : ni < 1
  · have hp : persI off ni = [] := by unfold persI; rw [if_pos h1]
    rw [hp]
    clear hp
    go_enter Try.func59, Try.ntmps59
    go_wp2
    go_ret
    exact ⟨none, 0, rfl, Sl.nil, Below.refl _ _, by simp [OwnB]⟩
  · obtain ⟨n, rfl⟩ : ∃ n : Nat, ni = (n : Int) := ⟨ni.toNat, by omega⟩
    have := memPersist w off n hoff (by omega)
    unfold persI
    rw [if_neg h1, Int.toNat_natCast]
    exact this
end Go.Proofs.Ytngkhligjkcbmaa

namespace Go.Proofs.Ytngkhligjkcbmaa
open Go.RowKit
set_option linter.unusedVariables false
set_option linter.unusedSimpArgs false

def wsK (z : List (Int × Int × Int)) (k : Nat) : List (Int × Int) := (z.take k).map fun x => (8 * x.2.1, x.2.2)
theorem wsK_succ (z : List (Int × Int × Int)) (k : Nat) (hk : k < z.length) : wsK z (k + 1) = wsK z k ++ [(8 * z[k].2.1, z[k].2.2)] := by
  unfold wsK; rw [List.take_succ_eq_append_getElem hk, List.map_append]; rfl
theorem info_writeRp : (Try.prog.info? 94).map (fun i => (i.zero, i.size, i.bytes)) = some (some (.agg #[.int .u64 0, .int .u64 0]), 2, 16) := by kernel_rfl
theorem persI_len (off cnt : Int) (hoff : 0 ≤ off ∧ off < 18446744073709551616) (h : cnt ≤ 1000) : (persI off cnt).length ≤ 2000 := by
  unfold persI
  split
  · simp
  · unfold persistP
    split
    · simp
    · rw [List.length_append, length_flushP]
      unfold lineCount lastLine
      split <;> simp <;> omega
/-- Stores of writes in any order, of none also. -/
theorem memStoresAny (w : World) (A : Option Addr) (n c : Nat) (ws : List (Int × Int)) (hn : ws.length = n) (hm : n < 50) (hS : Sl 34 2 w A n c (wcells ws)) (hr : ∀ p ∈ ws, 0 ≤ p.1 ∧ p.1 < 18446744073709551616) :
    Calls Try.prog 61 #[.slice A n c] w (StoPost w (refStP ws)) := by
  rcases Nat.eq_zero_or_pos n with h0 | h0
  · have hws : ws = [] := List.eq_nil_of_length_eq_zero (by omega)
    subst h0
    rw [hws, refStP_nil]
    clear hws hS hr hn
    go_enter Try.func61, Try.ntmps61
    go_wp2
    go_ret
    exact ⟨none, 0, rfl, Sl.nil, Below.refl _ _, by simp [OwnB]⟩
  · rw [refStP_eq ws (fun he => by rw [he] at hn; simp at hn; omega)]
    exact memStoresX w A n c ws hn h0 (by omega) hS hr (.inl hm)
def PsInv (w : World) (z : List (Int × Int × Int)) (k : Nat) (A : Option Addr) (c : Nat) (B : Option Addr) (d : Nat) (wr : World) : Prop :=
  (wsK z k).length = k ∧ Sl 34 2 wr A k c (wcells (wsK z k)) ∧ Sl 94 2 wr B k d (wcells (wsK z k)) ∧ Below w.heap.size w wr ∧ (∀ b, OwnB A b → w.heap.size ≤ b) ∧ ∀ b, OwnB B b → w.heap.size ≤ b ∧ ¬ OwnB A b
set_option maxRecDepth 100000 in
set_option maxHeartbeats 8000000 in
theorem law_MemPersists (w : World) (off : Int) (n8 : Int) (hoff : 0 ≤ off ∧ off < 18446744073709551616) (hn8 : 0 ≤ n8 ∧ n8 < 256) (A0 : Option Addr) (n c0 : Nat) (z : List (Int × Int × Int)) (hz : IsTrips w A0 n c0 z) :
    Calls Try.prog 10 #[.int .u64 off, .int .u8 n8, .slice A0 n c0] w fun e w' => e = .returned (.bool true) ∧ Below w.heap.size w w' := by
  have HAW := Lib.hid (awake10_ok w)
  have HZ := Lib.hid hz
  have hn1 : n ≤ 9223372036854775807 := by have := hz.2.1; have := hz.2.2.1; omega
  have HN := Lib.hid hz.1
  obtain ⟨cnt, hcnt⟩ : ∃ z, n8 - 3 = z := ⟨_, rfl⟩
  have hc1 : -3 ≤ cnt ∧ cnt ≤ 252 := by omega
  have e1 : IntKind.i64.wrap n8 = n8 := by rw [IntWalk.i64_in _ (by omega)]
  have e2 : IntKind.i64.wrap (n8 - 3) = cnt := by rw [IntWalk.i64_in _ (by omega)]; exact hcnt
  clear hz hcnt
  go_enter Try.func10, Try.ntmps10
  go_wp2_with (go_at_call 11; refine HAW.out.mono ?_; rintro e w1 ⟨rfl, hb⟩; have HB1 := Lib.hid hb; clear hb)
  have HI0 : Hid (PsInv w1 z 0 none 0 none 0 w1) := ⟨by simp [wsK], by simpa [wsK, wcells] using Sl.nil, by simpa [wsK, wcells] using Sl.nil, Below.refl _ _, by simp [OwnB], by simp [OwnB]⟩
  go_loopw [16, 7, 8, 9, 10, 17, 18, 19, 20, 21, 22, 23, 24, 25, 26, 27, 28, 29, 30, 31, 32, 33, 34, 35, 36, 37, 38, 39, 40, 41, 42, 43] (fun i p q _ _ _ _ _ _ _ _ _ _ _ _ _ _ _ _ _ _ _ _ _ _ _ _ _ _ _ _ _ wr => ∃ (k : Nat) (A : Option Addr) (c : Nat) (B : Option Addr) (d : Nat), k ≤ n ∧ k ≤ 40 ∧ i = .int .i64 k ∧ p = .slice A k c ∧ q = .slice B k d ∧ PsInv w1 z k A c B d wr) (fun i p q _ _ _ _ _ _ _ _ _ _ _ _ _ _ _ _ _ _ _ _ _ _ _ _ _ _ _ _ _ _ => n - (intOf i).toNat)
  case atStart => exact ⟨0, none, 0, none, 0, by omega, by omega, rfl, rfl, rfl, HI0.out⟩
  case round =>
    clear HI0
    obtain ⟨k, A, c, B, d, hk, hk4, rfl, rfl, rfl, hI⟩ := hrel
    have HI := Lib.hid hI
    clear hI
    by_cases hlt : k < n
    · have hkl : k < z.length := by rw [HN.out]; exact hlt
      obtain ⟨b, of, rfl, hbl, c1, c2, c3, r1, r2, r3⟩ := (HZ.out.bx (HB1.out.trans (HI.out.2.2.2.1.mono HB1.out.size))).2.2.2 k hkl
      obtain ⟨⟨op, wd, v⟩, hp⟩ : ∃ p, z[k] = p := ⟨_, rfl⟩
      rw [hp] at c1 c2 c3 r1 r2 r3
      by_cases h40 : k = 40
      · subst h40
        have hltI : (40 : Int) < (n : Int) := by omega
        clear hp r1 r2 r3
        go_upto_region 12 with (fail)
        have HV0 : Hid (Below wr.heap.size wr (wr.alloc (.cells #[.int .u8 op, .int .u8 wd, .int .u64 v] 93))) := bl_alloc (Below.refl _ _) _
        obtain ⟨V, hV⟩ : ∃ V, wr.alloc (.cells #[.int .u8 op, .int .u8 wd, .int .u64 v] 93) = V := ⟨_, rfl⟩
        rw [hV] at HV0 ⊢
        have KA : Hid (Sl 34 2 V A 40 c (wcells (wsK z 40))) := HI.out.2.1.keep (fun b hb => HV0.out.block b (HI.out.2.1.lt hb))
        have KB : Hid (Sl 94 2 V B 40 d (wcells (wsK z 40))) := HI.out.2.2.1.keep (fun b hb => HV0.out.block b (HI.out.2.2.1.lt hb))
        have HBV : Hid (Below w.heap.size w V) := (HB1.out.trans (HI.out.2.2.2.1.mono HB1.out.size)).trans (HV0.out.mono (HB1.out.trans (HI.out.2.2.2.1.mono HB1.out.size)).size)
        clear hV HV0
        have hlk : (wsK z 40).length = 40 := HI.out.1
        have hWSl : Sl 34 2 V A 40 c (wcells (wsK z 40)) := KA.out
        obtain ⟨ws, hws⟩ : ∃ ws, wsK z 40 = ws := ⟨_, rfl⟩
        have hwr : ∀ p ∈ ws, 0 ≤ p.1 ∧ p.1 < 18446744073709551616 := by
          intro p hp
          rw [← hws] at hp
          unfold wsK at hp
          obtain ⟨x, hx, rfl⟩ := List.mem_map.1 hp
          obtain ⟨i, hi, rfl⟩ := List.getElem_of_mem hx
          have hiz : i < z.length := by simp at hi; omega
          obtain ⟨b, off, _, _, _, _, _, r1, r2, r3⟩ := HZ.out.2.2.2 i (by first | exact hiz | (rw [HN.out] at hiz; exact hiz))
          have r2' : 0 ≤ (z[i]).2.1 ∧ (z[i]).2.1 ≤ 255 := r2
          rw [List.getElem_take]
          simp only
          omega
        rw [hws] at hlk
        have KA' : Hid (Sl 34 2 V A 40 c (wcells ws)) := by show Sl _ _ _ _ _ _ _; rw [← hws]; exact KA.out
        have KB' : Hid (Sl 94 2 V B 40 d (wcells ws)) := by show Sl _ _ _ _ _ _ _; rw [← hws]; exact KB.out
        obtain ⟨ps, hps⟩ : ∃ ps, persI off cnt = ps := ⟨_, rfl⟩
        obtain ⟨pn, hpn⟩ : ∃ pn, ps.length = pn := ⟨_, rfl⟩
        have hpb : pn ≤ 2000 := by rw [← hpn, ← hps]; exact persI_len off cnt hoff (by omega)
        have HPe := Lib.hid (fun W => by
          have h := memPersistI W off cnt hoff (by omega)
          unfold StoPost at h
          rw [hps, hpn] at h
          exact h)
        have HRp := Lib.hid (fun W => by
          have h := refPersist_ok W off cnt hoff (by omega)
          unfold PgPost at h
          rw [hps, hpn] at h
          exact h)
        obtain ⟨qs, hqs⟩ : ∃ qs, refStP ws = qs := ⟨_, rfl⟩
        obtain ⟨qn, hqn⟩ : ∃ qn, qs.length = qn := ⟨_, rfl⟩
        have hqb : qn ≤ 2000 := by
          rw [← hqn, ← hqs]
          have h1 := linL_length (ws.map Prod.fst)
          rw [List.length_map] at h1
          unfold refStP flP
          split
          · simp [insSt]; omega
          · simp [insSt, flL]; omega
        have HSt := Lib.hid (fun W (hW : Below V.heap.size V W) => by
          have h := memStoresAny W A 40 c ws hlk (by omega) (KA'.out.keep (fun b hb => hW.block b (KA'.out.lt hb))) hwr
          unfold StoPost at h
          rw [hqs, hqn] at h
          exact h)
        have HRs := Lib.hid (fun W (hW : Below V.heap.size V W) => by
          have h := refStores_ok W B 40 d ws hlk (by omega) hwr (KB'.out.keep (fun b hb => hW.block b (KB'.out.lt hb)))
          unfold PgPost at h
          rw [hqs, hqn] at h
          exact h)
        have HPL := Lib.hid (fun W (X : Option Addr) (n c : Nat) (rs : List Ins) (hn : rs.length = n) (hb : n ≤ 2000) (hS : Sl 32 3 W X n c (pcells rs)) => by
          have := plain10_ok W X n c rs hn (by omega) hS
          unfold PgPost at this
          rwa [hn] at this)
        have HPN := Lib.hid hpn
        have HQN := Lib.hid hqn
        have HPB := Lib.hid hpb
        have HQB := Lib.hid hqb
        have HV := Lib.hid HBV.out
        clear hlk hWSl hws hwr KA KB KA' KB' hps hpn hqs hqn hpb hqb HI HBV
        go_wp2_with (first
          | (go_at_call 59; refine (HPe.out _).mono ?_; rintro e w1 ⟨X, cx, rfl, hS, hb, hO⟩; have HB1 := Lib.hid hb; have HP1 := Lib.hid (HPL.out w1 X pn cx ps HPN.out HPB.out hS); clear hS hb hO)
          | (go_at_call 15; first
            | ((with_reducible refine HP1.out.mono ?_); rintro e w2 ⟨Y, cy, rfl, hS, hb, hO⟩; have HSY := Lib.hid hS; have HB2 : Hid (Below V.heap.size V w2) := HB1.out.trans (hb.mono HB1.out.size); clear hS hb hO)
            | ((with_reducible refine HP2.out.mono ?_); rintro e w6 ⟨Y2, cy2, rfl, hS, hb, hO⟩; have HSY2 := Lib.hid hS; have HB6 : Hid (Below V.heap.size V w6) := HB5.out.trans (hb.mono HB5.out.size); clear hS hb hO))
          | (go_at_call 60; refine (HRp.out _).mono ?_; rintro e w3 ⟨Z, cz, rfl, hS, hb, hO⟩; have HB3 : Hid (Below V.heap.size V w3) := HB2.out.trans (hb.mono HB2.out.size); have HS1 := Lib.hid (refSame10_ok w3 Y Z pn cy cz ps HPN.out (by have := HPB.out; omega) (HSY.out.keep (fun b hb' => hb.block b (HSY.out.lt hb'))) hS); clear hS hb hO)
          | (go_at_call 16; first
            | ((with_reducible refine HS1.out.mono ?_); rintro e w' ⟨rfl, a1, rfl⟩; have HB4 := Lib.hid (below_drewN HB3.out a1))
            | ((with_reducible refine HS2.out.mono ?_); rintro e w' ⟨rfl, a2, rfl⟩; have HB8 := Lib.hid (below_drewN HB7.out a2)))
          | (go_at_call 61; refine (HSt.out _ HB4.out).mono ?_; rintro e w5 ⟨U, cu, rfl, hS, hb, hO⟩; have HB5 : Hid (Below V.heap.size V w5) := HB4.out.trans (hb.mono HB4.out.size); have HP2 := Lib.hid (HPL.out w5 U qn cu qs HQN.out HQB.out hS); clear hS hb hO)
          | (go_at_call 62; refine (HRs.out _ HB6.out).mono ?_; rintro e w7 ⟨Z2, cz2, rfl, hS, hb, hO⟩; have HB7 : Hid (Below V.heap.size V w7) := HB6.out.trans (hb.mono HB6.out.size); have HS2 := Lib.hid (refSame10_ok w7 Y2 Z2 qn cy2 cz2 qs HQN.out (by have := HQB.out; omega) (HSY2.out.keep (fun b hb' => hb.block b (HSY2.out.lt hb'))) hS); clear hS hb hO))
        go_ret
        exact ⟨rfl, HV.out.trans (HB8.out.mono HV.out.size)⟩
      · have h40' : ((k : Int) == 40) = false := by simp; omega
        have r2' : 0 ≤ wd ∧ wd ≤ 255 := r2
        obtain ⟨o8, ho8⟩ : ∃ o8 : Int, 8 * wd = o8 := ⟨_, rfl⟩
        have ey : IntKind.u64.wrap wd = wd := IntWalk.u64_in _ (by omega)
        have e8 : IntKind.u64.wrap (8 * wd) = o8 := by rw [IntWalk.u64_in _ (by omega)]; exact ho8
        have HSU : Hid (wsK z (k + 1) = wsK z k ++ [(o8, v)]) := by
          show _ = _
          rw [wsK_succ z k hkl, hp]
          dsimp only
          rw [ho8]
        clear hp r1 r2 r3 ho8
        go_upto_region 10 with (at_builtin; refine wpList_append_sl rfl (.tmp 23) (.tmp 31) 28 rfl 34 (.agg #[.int .u64 0, .int .u64 0]) 2 16 rfl (by omega) Try.underlying28 info_write (by omega) A k c (wcells (wsK z k)) ⟨wr.heap.size + 1, 0, none⟩ 1 1 [.int .u64 o8, .int .u64 v] rfl rfl ?hsl rfl (by omega) ?hc3 (by simp; exact ⟨rfl, rfl⟩) (by omega) ?_; (case hsl => exact (HI.out.2.1.keep (fun b hb => Below.heap_alloc _ _ b (HI.out.2.1.lt hb))).keep (fun b hb => Below.heap_alloc _ _ b (by have := HI.out.2.1.lt hb; simp; omega))); (case hc3 => have := cells_two (wr.alloc (.cells #[.int .u8 op, .int .u8 wd, .int .u64 v] 93)) 34 (.int .u64 o8) (.int .u64 v); simpa using this); intro A2 c2' w2 HO2 HC2 HW2 HN2; have hno : ¬ OwnB A wr.heap.size := (fun ho => by have := HI.out.2.1.lt ho; omega); have K5 : Hid (CB w2 wr.heap.size 93 #[.int .u8 op, .int .u8 wd, .int .u64 v]) := (((CB.new wr 93 #[.int .u8 op, .int .u8 wd, .int .u64 v]).alloc _).ch HC2.out hno); have K6 : w2.cell? ⟨wr.heap.size, 1, none⟩ = some (.int .u8 wd) := K5.out.cell_some rfl; have K6b : w2.cell? ⟨wr.heap.size, 2, none⟩ = some (.int .u64 v) := K5.out.cell_some rfl; have K7 := K5.out.lt; have HSB : Hid (Sl 94 2 w2 B k d (wcells (wsK z k))) := (HI.out.2.2.1.keep (fun b hb => (HC2.out.block b (by have := HI.out.2.2.1.lt hb; simp; omega) (HI.out.2.2.2.2.2 b hb).2).trans ((Below.heap_alloc _ _ b (by have := HI.out.2.2.1.lt hb; simp; omega)).trans (Below.heap_alloc _ _ b (HI.out.2.2.1.lt hb))))))
        go_wp2_with (at_builtin; refine wpList_append_sl rfl (.tmp 33) (.tmp 41) 54 rfl 94 (.agg #[.int .u64 0, .int .u64 0]) 2 16 rfl (by omega) Try.underlying54 info_writeRp (by omega) B k d (wcells (wsK z k)) ⟨w2.heap.size, 0, none⟩ 1 1 [.int .u64 o8, .int .u64 v] rfl rfl ?hsl rfl (by omega) ?hc3 (by simp; exact ⟨rfl, rfl⟩) (by omega) ?_; (case hsl => exact HSB.out.keep (fun b hb => Below.heap_alloc _ _ b (HSB.out.lt hb))); (case hc3 => exact cells_two w2 94 (.int .u64 o8) (.int .u64 v)); intro B2 d2' w3 HO3 HC3 HW3 HN3)
        obtain ⟨i1, i2, i3, i4, i5, i6⟩ := HI.out
        have hs2 : wr.heap.size + 2 ≤ w2.heap.size := by have := HC2.out.size; simp at this; omega
        have hA2 : ∀ b, OwnB A2 b → w1.heap.size ≤ b ∧ b < w2.heap.size ∧ ¬ OwnB B b := fun b hb => by
          have hl := HO2.out.lt hb
          rcases HW2.out b hb with h | h
          · exact ⟨i5 b h, hl, fun ho => (i6 b ho).2 h⟩
          · have h1 := i4.size
            simp at h
            exact ⟨by omega, hl, fun ho => by have := i3.lt ho; omega⟩
        have hw2 : ∀ b, b < w2.heap.size → ¬ OwnB B b → w3.heap[b]? = w2.heap[b]? := fun b hb ho => (HC3.out.block b (by simp; omega) ho).trans (Below.heap_alloc _ _ b hb)
        have hb2 : Below w1.heap.size w1 w2 := bl_ch (bl_alloc (bl_alloc i4 _) _) HC2.out i5
        refine ⟨⟨k + 1, A2, c2', B2, d2', by omega, by omega, by go_num, rfl, rfl, ?_, ?_, ?_, ?_, fun b hb => (hA2 b hb).1, fun b hb => ?_⟩, by simp [intOf]; omega⟩
        · rw [HSU.out, List.length_append, i1]; rfl
        · rw [HSU.out, wcells_snoc]; exact HO2.out.keep (fun b hb => hw2 b (hA2 b hb).2.1 (hA2 b hb).2.2)
        · rw [HSU.out, wcells_snoc]; exact HO3.out
        · exact bl_ch (bl_alloc hb2 _) HC3.out (fun b hb => (i6 b hb).1)
        · rcases HW3.out b hb with h | h
          · exact ⟨(i6 b h).1, fun ho => (hA2 b ho).2.2 h⟩
          · have h1 := hb2.size
            have h2 : b = w2.heap.size + 1 := by simpa using h
            exact ⟨by omega, fun ho => by have := (hA2 b ho).2.1; omega⟩
    · obtain rfl : k = n := by omega
      obtain ⟨V, hV⟩ : ∃ V, V = wr := ⟨wr, rfl⟩
      subst hV
      have KA : Hid (Sl 34 2 V A k c (wcells (wsK z k))) := HI.out.2.1
      have KB : Hid (Sl 94 2 V B k d (wcells (wsK z k))) := HI.out.2.2.1
      have HBV : Hid (Below w.heap.size w V) := HB1.out.trans (HI.out.2.2.2.1.mono HB1.out.size)
      have hlk : (wsK z k).length = k := HI.out.1
      have hWSl : Sl 34 2 V A k c (wcells (wsK z k)) := KA.out
      obtain ⟨ws, hws⟩ : ∃ ws, wsK z k = ws := ⟨_, rfl⟩
      have hwr : ∀ p ∈ ws, 0 ≤ p.1 ∧ p.1 < 18446744073709551616 := by
        intro p hp
        rw [← hws] at hp
        unfold wsK at hp
        obtain ⟨x, hx, rfl⟩ := List.mem_map.1 hp
        obtain ⟨i, hi, rfl⟩ := List.getElem_of_mem hx
        have hiz : i < z.length := by simp at hi; omega
        obtain ⟨b, off, _, _, _, _, _, r1, r2, r3⟩ := HZ.out.2.2.2 i (by first | exact hiz | (rw [HN.out] at hiz; exact hiz))
        have r2' : 0 ≤ (z[i]).2.1 ∧ (z[i]).2.1 ≤ 255 := r2
        rw [List.getElem_take]
        simp only
        omega
      rw [hws] at hlk
      have KA' : Hid (Sl 34 2 V A k c (wcells ws)) := by show Sl _ _ _ _ _ _ _; rw [← hws]; exact KA.out
      have KB' : Hid (Sl 94 2 V B k d (wcells ws)) := by show Sl _ _ _ _ _ _ _; rw [← hws]; exact KB.out
      obtain ⟨ps, hps⟩ : ∃ ps, persI off cnt = ps := ⟨_, rfl⟩
      obtain ⟨pn, hpn⟩ : ∃ pn, ps.length = pn := ⟨_, rfl⟩
      have hpb : pn ≤ 2000 := by rw [← hpn, ← hps]; exact persI_len off cnt hoff (by omega)
      have HPe := Lib.hid (fun W => by
        have h := memPersistI W off cnt hoff (by omega)
        unfold StoPost at h
        rw [hps, hpn] at h
        exact h)
      have HRp := Lib.hid (fun W => by
        have h := refPersist_ok W off cnt hoff (by omega)
        unfold PgPost at h
        rw [hps, hpn] at h
        exact h)
      obtain ⟨qs, hqs⟩ : ∃ qs, refStP ws = qs := ⟨_, rfl⟩
      obtain ⟨qn, hqn⟩ : ∃ qn, qs.length = qn := ⟨_, rfl⟩
      have hqb : qn ≤ 2000 := by
        rw [← hqn, ← hqs]
        have h1 := linL_length (ws.map Prod.fst)
        rw [List.length_map] at h1
        unfold refStP flP
        split
        · simp [insSt]; omega
        · simp [insSt, flL]; omega
      have HSt := Lib.hid (fun W (hW : Below V.heap.size V W) => by
        have h := memStoresAny W A k c ws hlk (by omega) (KA'.out.keep (fun b hb => hW.block b (KA'.out.lt hb))) hwr
        unfold StoPost at h
        rw [hqs, hqn] at h
        exact h)
      have HRs := Lib.hid (fun W (hW : Below V.heap.size V W) => by
        have h := refStores_ok W B k d ws hlk (by omega) hwr (KB'.out.keep (fun b hb => hW.block b (KB'.out.lt hb)))
        unfold PgPost at h
        rw [hqs, hqn] at h
        exact h)
      have HPL := Lib.hid (fun W (X : Option Addr) (n c : Nat) (rs : List Ins) (hn : rs.length = n) (hb : n ≤ 2000) (hS : Sl 32 3 W X n c (pcells rs)) => by
        have := plain10_ok W X n c rs hn (by omega) hS
        unfold PgPost at this
        rwa [hn] at this)
      have HPN := Lib.hid hpn
      have HQN := Lib.hid hqn
      have HPB := Lib.hid hpb
      have HQB := Lib.hid hqb
      have HV := Lib.hid HBV.out
      clear hlk hWSl hws hwr KA KB KA' KB' hps hpn hqs hqn hpb hqb HI HBV
      go_wp2_with (first
        | (go_at_call 59; refine (HPe.out _).mono ?_; rintro e w1 ⟨X, cx, rfl, hS, hb, hO⟩; have HB1 := Lib.hid hb; have HP1 := Lib.hid (HPL.out w1 X pn cx ps HPN.out HPB.out hS); clear hS hb hO)
        | (go_at_call 15; first
          | ((with_reducible refine HP1.out.mono ?_); rintro e w2 ⟨Y, cy, rfl, hS, hb, hO⟩; have HSY := Lib.hid hS; have HB2 : Hid (Below V.heap.size V w2) := HB1.out.trans (hb.mono HB1.out.size); clear hS hb hO)
          | ((with_reducible refine HP2.out.mono ?_); rintro e w6 ⟨Y2, cy2, rfl, hS, hb, hO⟩; have HSY2 := Lib.hid hS; have HB6 : Hid (Below V.heap.size V w6) := HB5.out.trans (hb.mono HB5.out.size); clear hS hb hO))
        | (go_at_call 60; refine (HRp.out _).mono ?_; rintro e w3 ⟨Z, cz, rfl, hS, hb, hO⟩; have HB3 : Hid (Below V.heap.size V w3) := HB2.out.trans (hb.mono HB2.out.size); have HS1 := Lib.hid (refSame10_ok w3 Y Z pn cy cz ps HPN.out (by have := HPB.out; omega) (HSY.out.keep (fun b hb' => hb.block b (HSY.out.lt hb'))) hS); clear hS hb hO)
        | (go_at_call 16; first
          | ((with_reducible refine HS1.out.mono ?_); rintro e w' ⟨rfl, a1, rfl⟩; have HB4 := Lib.hid (below_drewN HB3.out a1))
          | ((with_reducible refine HS2.out.mono ?_); rintro e w' ⟨rfl, a2, rfl⟩; have HB8 := Lib.hid (below_drewN HB7.out a2)))
        | (go_at_call 61; refine (HSt.out _ HB4.out).mono ?_; rintro e w5 ⟨U, cu, rfl, hS, hb, hO⟩; have HB5 : Hid (Below V.heap.size V w5) := HB4.out.trans (hb.mono HB4.out.size); have HP2 := Lib.hid (HPL.out w5 U qn cu qs HQN.out HQB.out hS); clear hS hb hO)
        | (go_at_call 62; refine (HRs.out _ HB6.out).mono ?_; rintro e w7 ⟨Z2, cz2, rfl, hS, hb, hO⟩; have HB7 : Hid (Below V.heap.size V w7) := HB6.out.trans (hb.mono HB6.out.size); have HS2 := Lib.hid (refSame10_ok w7 Y2 Z2 qn cy2 cz2 qs HQN.out (by have := HQB.out; omega) (HSY2.out.keep (fun b hb' => hb.block b (HSY2.out.lt hb'))) hS); clear hS hb hO))
      go_ret
      exact ⟨rfl, HV.out.trans (HB8.out.mono HV.out.size)⟩
end Go.Proofs.Ytngkhligjkcbmaa
