/- Sorting words (merged). -/
import Derived.Test.YtngkhligjkcbmaaKo
import Derived.Test.YtngkhligjkcbmaaPerm
import Derived.Test.YtngkhligjkcbmaaPure
import Derived.Sort.AssemblyPlain
import Derived.Sort.LotD5
import Derived.Deep.CutRange
namespace Go.Proofs.Ytngkhligjkcbmaa
open Go.RowKit
set_option linter.unusedVariables false
set_option linter.unusedSimpArgs false

def gt0 (xs : List Int) (k : Nat) : Int := xs.getD k 0
def swL (xs : List Int) (i j : Nat) : List Int := (xs.set i (gt0 xs j)).set j (gt0 xs i)
theorem gt0_eq {xs : List Int} {k : Nat} (h : k < xs.length) : gt0 xs k = xs[k] := by simp [gt0, h]
theorem length_swL (xs : List Int) (i j : Nat) : (swL xs i j).length = xs.length := by simp [swL]
theorem gt0_swL {xs : List Int} {i j : Nat} (hi : i < xs.length) (hj : j < xs.length) (k : Nat) : gt0 (swL xs i j) k = if k = j then gt0 xs i else if k = i then gt0 xs j else gt0 xs k := by
  unfold swL
  by_cases hk : k = j
  · subst hk; simp [gt0, hj]
  · by_cases hk2 : k = i
    · subst hk2; simp [gt0, hi, hk, show ¬ j = k from fun h => hk h.symm]
    · simp [gt0, hk, hk2, show ¬ j = k from fun h => hk h.symm, show ¬ i = k from fun h => hk2 h.symm]
theorem swL_perm {xs : List Int} {i j : Nat} (hi : i < xs.length) (hj : j < xs.length) : (swL xs i j).Perm xs := by
  have h := Array.swap_perm (xs := xs.toArray) (i := i) (j := j) (by simpa using hi) (by simpa using hj)
  have e : (xs.toArray.swap i j (by simpa using hi) (by simpa using hj)).toList = swL xs i j := by
    simp [swL, gt0_eq hi, gt0_eq hj]
  rw [← e]
  exact h.toList
/-- The same words, in another order between a and b. -/
structure PO (a b : Nat) (xs ys : List Int) : Prop where
  len : ys.length = xs.length
  perm : ys.Perm xs
  out : ∀ k, k < a ∨ b ≤ k → gt0 ys k = gt0 xs k
theorem PO.refl (a b : Nat) (xs : List Int) : PO a b xs xs := ⟨rfl, List.Perm.refl _, fun _ _ => rfl⟩
theorem PO.trans {a b : Nat} {xs ys zs : List Int} (h : PO a b xs ys) (h2 : PO a b ys zs) : PO a b xs zs := ⟨h2.len.trans h.len, h2.perm.trans h.perm, fun k hk => (h2.out k hk).trans (h.out k hk)⟩
theorem PO.mono {a b c d : Nat} {xs ys : List Int} (h : PO a b xs ys) (h1 : c ≤ a) (h2 : b ≤ d) : PO c d xs ys := ⟨h.len, h.perm, fun k hk => h.out k (by omega)⟩
theorem PO.swap {a b : Nat} {xs ys : List Int} (h : PO a b xs ys) {i j : Nat} (hi : a ≤ i ∧ i < b) (hj : a ≤ j ∧ j < b) (hb : b ≤ xs.length) : PO a b xs (swL ys i j) := by
  have hl := h.len
  refine ⟨(length_swL _ _ _).trans hl, (swL_perm (by omega) (by omega)).trans h.perm, fun k hk => ?_⟩
  rw [gt0_swL (by omega) (by omega), if_neg (by omega), if_neg (by omega)]
  exact h.out k hk
def SortedOn (a b : Nat) (ys : List Int) : Prop := ∀ p q, a ≤ p → p < q → q < b → gt0 ys p ≤ gt0 ys q
/-- Sorted but for the word at j, which may be too far right. -/
def Hole (a i j : Nat) (ys : List Int) : Prop := ∀ p q, a ≤ p → p < q → q ≤ i → q ≠ j → gt0 ys p ≤ gt0 ys q
theorem Hole.start {a i : Nat} {ys : List Int} (h : SortedOn a i ys) : Hole a i i ys := fun p q h1 h2 h3 h4 => h p q h1 h2 (by omega)
theorem Hole.swap {a i j : Nat} {ys : List Int} (h : Hole a i (j + 1) ys) (hj : a ≤ j) (hi : j + 1 ≤ i) (hl : i < ys.length) (hlt : gt0 ys (j + 1) < gt0 ys j) : Hole a i j (swL ys (j + 1) j) := by
  intro p q h1 h2 h3 h4
  have e : ∀ k, gt0 (swL ys (j + 1) j) k = if k = j then gt0 ys (j + 1) else if k = j + 1 then gt0 ys j else gt0 ys k := fun k => gt0_swL (by omega) (by omega) k
  by_cases hq1 : q = j + 1
  · subst hq1
    have eq : gt0 (swL ys (j + 1) j) (j + 1) = gt0 ys j := by rw [e, if_neg (by omega), if_pos rfl]
    rw [eq]
    by_cases hp : p = j
    · rw [hp, e, if_pos rfl]; omega
    · rw [e, if_neg hp, if_neg (by omega)]
      exact h p j h1 (by omega) (by omega) (by omega)
  · have eq : gt0 (swL ys (j + 1) j) q = gt0 ys q := by rw [e, if_neg h4, if_neg hq1]
    rw [eq]
    by_cases hp : p = j
    · rw [hp, e, if_pos rfl]; exact h (j + 1) q (by omega) (by omega) h3 hq1
    · by_cases hp2 : p = j + 1
      · rw [hp2, e, if_neg (by omega), if_pos rfl]; exact h j q (by omega) (by omega) h3 hq1
      · rw [e, if_neg hp, if_neg hp2]; exact h p q h1 h2 h3 hq1
theorem Hole.done {a i j : Nat} {ys : List Int} (h : Hole a i j ys) (hj : a ≤ j ∧ j ≤ i) (hd : j = a ∨ gt0 ys (j - 1) ≤ gt0 ys j) : SortedOn a (i + 1) ys := by
  intro p q h1 h2 h3
  by_cases hq : q = j
  · subst hq
    rcases hd with hd | hd
    · omega
    · by_cases hp : p = q - 1
      · rw [hp]; exact hd
      · have := h p (q - 1) h1 (by omega) (by omega) (by omega)
        omega
  · exact h p q h1 h2 (by omega) hq
theorem SortedOn.pairwise {ys : List Int} {n : Nat} (hn : ys.length = n) (h : SortedOn 0 n ys) : ys.Pairwise (· ≤ ·) := by
  rw [List.pairwise_iff_getElem]
  intro i j hi hj hij
  have := h i j (Nat.zero_le _) hij (by omega)
  rwa [gt0_eq hi, gt0_eq hj] at this
end Go.Proofs.Ytngkhligjkcbmaa

namespace Go.Proofs.Ytngkhligjkcbmaa
open Go.RowKit
set_option linter.unusedVariables false

theorem Sl.word {w : World} {g off n c : Nat} {ys : List Int} (h : Sl 30 1 w (some ⟨g, off, none⟩) n c (uints ys)) {k : Nat} (hk : k < ys.length) : w.cell? ⟨g, off + k, none⟩ = some (.int .u64 (gt0 ys k)) := by
  obtain ⟨g', o', hA, hl, hc⟩ := h.at_ (j := k) (by simpa [uints] using hk)
  injection hA with hA
  injection hA with h1 h2
  subst h1 h2
  rw [hc, gt0_eq hk]; simp [uints]
theorem Sl.block_lt {w : World} {g off n c : Nat} {xs : List Value} (h : Sl 30 1 w (some ⟨g, off, none⟩) n c xs) : g < w.heap.size := by
  rcases h.2 with ⟨hx, _⟩ | ⟨g', o', cur, hA, hC, _⟩
  · cases hx
  · have : g = g' := by cases hA; rfl
    subst this
    exact hC.lt
theorem Sl.swapW {w : World} {g off n c : Nat} {ys : List Int} (h : Sl 30 1 w (some ⟨g, off, none⟩) n c (uints ys)) {i j : Nat} (hi : i < ys.length) (hj : j < ys.length) :
    Sl 30 1 ((w.setCell ⟨g, off + i, none⟩ (.int .u64 (gt0 ys j))).setCell ⟨g, off + j, none⟩ (.int .u64 (gt0 ys i))) (some ⟨g, off, none⟩) n c (uints (swL ys i j)) := by
  have h1 := h.set (j := i) (by simpa [uints] using hi) (.int .u64 (gt0 ys j))
  have h2 := h1.set (j := j) (by simpa [uints] using hj) (.int .u64 (gt0 ys i))
  have e : uints (swL ys i j) = ((uints ys).set i (.int .u64 (gt0 ys j))).set j (.int .u64 (gt0 ys i)) := by simp [uints, swL, List.map_set]
  rw [e]; exact h2
/-- Words in a slice, in another order between a and b; only the slice's block has changed. -/
def SrtI (w : World) (g off n c a b : Nat) (xs ys : List Int) (wr : World) : Prop := Sl 30 1 wr (some ⟨g, off, none⟩) n c (uints ys) ∧ PO a b xs ys ∧ Ch (At g) w wr
theorem SrtI.drewN {w : World} {g off n c a b : Nat} {xs ys : List Int} {wr : World} (h : SrtI w g off n c a b xs ys wr) (q : Nat) : SrtI w g off n c a b xs ys (wr.drewN q) := ⟨h.1.keep (fun _ _ => rfl), h.2.1, h.2.2.drewN q⟩
theorem SrtI.swap {w : World} {g off n c a b : Nat} {xs ys : List Int} {wr : World} (h : SrtI w g off n c a b xs ys wr) {i j : Nat} (hi : a ≤ i ∧ i < b) (hj : a ≤ j ∧ j < b) (hb : b ≤ xs.length) :
    SrtI w g off n c a b xs (swL ys i j) ((wr.setCell ⟨g, off + i, none⟩ (.int .u64 (gt0 ys j))).setCell ⟨g, off + j, none⟩ (.int .u64 (gt0 ys i))) := by
  have hl := h.2.1.len
  exact ⟨h.1.swapW (by omega) (by omega), h.2.1.swap hi hj hb, (h.2.2.set1 _ _).set1 _ _⟩
/-- What a sort leaves. -/
def SrtPost (w : World) (g off n c a b : Nat) (xs : List Int) (e : Ending) (w' : World) : Prop := e = .returned (.tuple #[]) ∧ ∃ ys, SrtI w g off n c a b xs ys w' ∧ SortedOn a b ys

set_option maxRecDepth 100000 in
set_option maxHeartbeats 4000000 in
theorem insU_any (w : World) (g off n c a b : Nat) (xs : List Int) (hn : xs.length = n) (hab : a < b) (hbn : b ≤ n) (hm : n ≤ 1000000) (hS : Sl 30 1 w (some ⟨g, off, none⟩) n c (uints xs)) :
    Calls Try.prog 120 #[.slice (some ⟨g, off, none⟩) n c, .int .i64 (a : Int), .int .i64 (b : Int)] w (SrtPost w g off n c a b xs) := by
  have HN := Lib.hid hn
  have HI0 : Hid (SrtI w g off n c a b xs xs w) := ⟨hS, PO.refl _ _ _, Ch.refl _ _⟩
  clear hn hS
  have ea : IntKind.i64.wrap ((a : Int) + 1) = ((a + 1 : Nat) : Int) := by rw [IntWalk.i64_in _ (by omega)]; omega
  go_enter Try.func120, Try.ntmps120
  go_wp2
  go_loopw [6, 7, 10, 11, 12, 13, 14, 15, 16, 17, 18, 19, 20, 21, 22, 23, 24, 25, 26, 27, 28, 29, 30, 31, 32, 33, 34, 35, 36, 37, 38, 39, 40, 41, 42, 43, 44, 45, 46, 47, 48] (fun i _ _ _ _ _ _ _ _ _ _ _ _ _ _ _ _ _ _ _ _ _ _ _ _ _ _ _ _ _ _ _ _ _ _ _ _ _ _ _ _ wr => ∃ (k : Nat) (ys : List Int), a < k ∧ k ≤ b ∧ i = .int .i64 (k : Int) ∧ SrtI w g off n c a b xs ys wr ∧ SortedOn a k ys) (fun i _ _ _ _ _ _ _ _ _ _ _ _ _ _ _ _ _ _ _ _ _ _ _ _ _ _ _ _ _ _ _ _ _ _ _ _ _ _ _ _ _ => b - (intOf i).toNat)
  case atStart => exact ⟨a + 1, xs, by omega, by omega, by go_num, HI0.out, fun p q h1 h2 h3 => by omega⟩
  case round =>
    clear HI0
    obtain ⟨k, ys, hk1, hk, rfl, hI, hSo⟩ := hrel
    have HI := Lib.hid hI
    have HSO := Lib.hid hSo
    clear hI hSo
    by_cases hlt : k < b
    · have hlt' : (k : Int) < (b : Int) := by omega
      have ek : IntKind.i64.wrap ((k : Int) + 1) = ((k + 1 : Nat) : Int) := by rw [IntWalk.i64_in _ (by omega)]; omega
      go_wp2
      go_loopw [7, 16, 17, 18, 19, 20, 21, 22, 23, 24, 25, 26, 27, 28, 29, 30, 31, 32, 33, 34, 35, 36, 37, 38, 39, 40, 41, 42, 43, 44, 45, 46, 47, 48] (fun i _ _ _ _ _ _ _ _ _ _ _ _ _ _ _ _ _ _ _ _ _ _ _ _ _ _ _ _ _ _ _ _ _ wq => ∃ (j : Nat) (zs : List Int), a ≤ j ∧ j ≤ k ∧ i = .int .i64 (j : Int) ∧ SrtI w g off n c a b xs zs wq ∧ Hole a k j zs) (fun i _ _ _ _ _ _ _ _ _ _ _ _ _ _ _ _ _ _ _ _ _ _ _ _ _ _ _ _ _ _ _ _ _ _ => (intOf i).toNat)
      case atStart => exact ⟨k, ys, by omega, by omega, rfl, HI.out, Hole.start HSO.out⟩
      case round =>
        clear HI HSO
        obtain ⟨j, zs, hj1, hj2, rfl, hI, hH⟩ := hrel
        have HI := Lib.hid hI
        have HH := Lib.hid hH
        have HL : Hid (zs.length = n) := hI.2.1.len.trans HN.out
        clear hI hH
        by_cases hja : a < j
        · obtain ⟨q, rfl⟩ : ∃ q, j = q + 1 := ⟨j - 1, by omega⟩
          have c1 := HI.out.1.word (k := q + 1) (by rw [HL.out]; omega)
          have c0 := HI.out.1.word (k := q) (by rw [HL.out]; omega)
          have hgl := HI.out.1.block_lt
          have fz := HI.out.1.unfrozen
          obtain ⟨x1, hx1⟩ : ∃ x, gt0 zs (q + 1) = x := ⟨_, rfl⟩
          obtain ⟨x0, hx0⟩ : ∃ x, gt0 zs q = x := ⟨_, rfl⟩
          have HX1 := Lib.hid hx1
          have HX0 := Lib.hid hx0
          rw [hx1] at c1
          rw [hx0] at c0
          have q1 : ((q + 1 : Nat) : Int) = (q : Int) + 1 := by omega
          have q2 : (q : Int) + 1 - 1 = (q : Int) := by omega
          have q3 : IntKind.i64.wrap ((q : Int) + 1 - 1) = (q : Int) := by rw [q2]; exact IntWalk.i64_in _ (by omega)
          have q4 : ((q : Int) + 1).toNat = q + 1 := by omega
          have q5 : IntKind.i64.wrap (q : Int) = (q : Int) := IntWalk.i64_in _ (by omega)
          have hd1 : decide ((q : Int) + 1 > (a : Int)) = true := decide_eq_true (by omega)
          have hd2 : decide ((a : Int) < (q : Int) + 1) = true := decide_eq_true (by omega)
          have hqn : q + 1 < n := by omega
          have hqI1 : (q : Int) + 1 < (n : Int) := by omega
          have hqI0 : (q : Int) < (n : Int) := by omega
          have hq0 : (0 : Int) ≤ (q : Int) := by omega
          have hq1 : (0 : Int) ≤ (q : Int) + 1 := by omega
          clear hx1 hx0
          rw [q1]
          by_cases hsw : x1 < x0
          · have hd : decide (x1 < x0) = true := decide_eq_true hsw
            go_wp2
            refine wp_region_quiet_lit (by kernel_rfl) (by kernel_rfl) ?_
            repeat (go_big_quiet_step ((go_at_call 126; exact q_same (lessU _ _ _))))
            refine wpQuiet_nil ?_
            rintro _ ⟨nq, rfl⟩
            go_upto_region 6 with (fail)
            refine ord_reads [] [.p [0, 1, 2, 3, 4, 5, 6, 7, 10, 11], .q [8, 9, 12, 13, 14], .h [15, 16, 17]] (by kernel_rfl) (fun _ _ d _ _ h => by cases d <;> exact h) (by kernel_rfl) ?_
            dsimp only [pick, List.filterMap, List.getElem?_cons_zero, List.getElem?_cons_succ]
            refine wpQuiet_nil ?_
            rintro _ ⟨nq1, rfl⟩
            with_reducible refine part_pure ?_
            dsimp only [pick, List.filterMap, List.getElem?_cons_zero, List.getElem?_cons_succ]
            (repeat (first | (refine pure_ex rfl ?_; apply Exists.intro; apply And.intro; (intro w; go_simp; rfl); simp only [Act.put, List.setIfInBounds_toArray, List.set_cons_succ, List.set_cons_zero]) | (refine pure_skip rfl ?_; simp only [Act.put, List.setIfInBounds_toArray, List.set_cons_succ, List.set_cons_zero]))); refine pure_nil ?_
            with_reducible refine part_reads ?_
            dsimp only [pick, List.filterMap, List.getElem?_cons_zero, List.getElem?_cons_succ]
            (repeat (go_big_quiet_step (fail))); refine wpQuiet_nil ?_
            rintro _ ⟨nq2, rfl⟩
            with_reducible refine part_hard ?_
            dsimp only [pick, List.filterMap, List.getElem?_cons_zero, List.getElem?_cons_succ]
            go_wp2
            with_reducible refine segs_end ?_
            with_reducible refine part_nil ?_
            go_wp2
            have hsw2 := (HI.out.drewN (nq + nq1 + nq2)).swap (i := q + 1) (j := q) (by omega) (by omega) (by have := HN.out; omega)
            rw [HX0.out, HX1.out] at hsw2
            exact ⟨⟨q, swL zs (q + 1) q, by omega, by omega, rfl, hsw2, HH.out.swap (by omega) (by omega) (by have := HL.out; omega) (by rw [HX0.out, HX1.out]; exact hsw)⟩, by simp [intOf] <;> omega⟩
          · have hd : decide (x1 < x0) = false := decide_eq_false hsw
            go_wp2
            refine wp_region_quiet_lit (by kernel_rfl) (by kernel_rfl) ?_
            repeat (go_big_quiet_step ((go_at_call 126; exact q_same (lessU _ _ _))))
            refine wpQuiet_nil ?_
            rintro _ ⟨nq, rfl⟩
            go_wp2
            exact ⟨⟨k + 1, zs, by omega, by omega, by go_num, HI.out.drewN nq, HH.out.done (by omega) (.inr (by have h0 := HX0.out; have h1 := HX1.out; simp only [Nat.add_sub_cancel]; omega))⟩, by simp [intOf] <;> omega⟩
        · obtain rfl : j = a := by omega
          have hd1 : decide ((j : Int) > (j : Int)) = false := by simp
          go_wp2
          refine wp_region_quiet_lit (by kernel_rfl) (by kernel_rfl) ?_
          repeat (go_big_quiet_step (fail))
          refine wpQuiet_nil ?_
          rintro _ ⟨nq, rfl⟩
          go_wp2
          exact ⟨⟨k + 1, zs, by omega, by omega, by go_num, HI.out.drewN nq, HH.out.done (by omega) (.inl rfl)⟩, by simp [intOf] <;> omega⟩
    · obtain rfl : k = b := by omega
      go_wp2
      go_end0
      exact ⟨rfl, ys, HI.out, HSO.out⟩
end Go.Proofs.Ytngkhligjkcbmaa

namespace Go.Proofs.Ytngkhligjkcbmaa
open Go.RowKit
set_option linter.unusedVariables false
set_option linter.unusedSimpArgs false

/-- How many cells a block has. -/
def bsz (w : World) (g : Nat) : Nat := match w.heap[g]? with | some (.cells cs _ _) => cs.size | _ => 0
theorem bsz_cb {w : World} {g : Nat} {e : TypeId} {cs : Array Value} (h : CB w g e cs) : bsz w g = cs.size := by unfold bsz; rw [show w.heap[g]? = _ from h]
theorem bsz_keep {w w' : World} {g : Nat} (h : w'.heap[g]? = w.heap[g]?) : bsz w' g = bsz w g := by unfold bsz; rw [h]
/-- The slice holds the words of d; only its block has changed, and not its size. -/
def SoA (w : World) (g off n c : Nat) (d : Array Int) (wr : World) : Prop := Sl 30 1 wr (some ⟨g, off, none⟩) n c (uints d.toList) ∧ d.size = n ∧ Ch (At g) w wr ∧ bsz wr g = bsz w g
section
variable {w wr : World} {g off n c i j : Nat} {d : Array Int}
theorem bang_gt0 (d : Array Int) (i : Nat) : d[i]! = gt0 d.toList i := by
  unfold gt0
  by_cases h : i < d.size
  · rw [getElem!_pos d i h, List.getD_eq_getElem?_getD, List.getElem?_eq_getElem (by simpa using h)]; simp
  · rw [getElem!_neg d i h, List.getD_eq_getElem?_getD, List.getElem?_eq_none (by simpa using h)]; rfl
theorem SoA.word (h : SoA w g off n c d wr) (hi : i < n) : wr.cell? ⟨g, off + i, none⟩ = some (.int .u64 d[i]!) := by
  rw [bang_gt0]
  exact h.1.word (by rw [Array.length_toList, h.2.1]; exact hi)
theorem SoA.lt (h : SoA w g off n c d wr) : g < wr.heap.size := h.1.block_lt
theorem SoA.drewN (h : SoA w g off n c d wr) (q : Nat) : SoA w g off n c d (wr.drewN q) := ⟨h.1.keep (fun _ _ => rfl), h.2.1, h.2.2.1.drewN q, (bsz_keep rfl).trans h.2.2.2⟩
theorem SoA.bl (h : SoA w g off n c d wr) {w' : World} (hB : Below wr.heap.size wr w') : SoA w g off n c d w' := ⟨h.1.keep (fun b hb => hB.block b (h.1.lt hb)), h.2.1, h.2.2.1.trans (Ch.of_below (S := fun _ => False) hB) (fun _ hx _ => hx.elim), (bsz_keep (hB.block g h.lt)).trans h.2.2.2⟩
theorem size_swp (d : Array Int) (i j : Nat) : (Sort.swp d i j).size = d.size := by unfold Sort.swp; simp
theorem toList_swp (d : Array Int) (i j : Nat) : (Sort.swp d i j).toList = swL d.toList i j := by
  unfold Sort.swp swL
  rw [← bang_gt0, ← bang_gt0]
  simp
theorem SoA.swap (h : SoA w g off n c d wr) (hi : i < n) (hj : j < n) : SoA w g off n c (Sort.swp d i j) ((wr.setCell ⟨g, off + i, none⟩ (.int .u64 d[j]!)).setCell ⟨g, off + j, none⟩ (.int .u64 d[i]!)) := by
  have hl : d.toList.length = n := by rw [Array.length_toList]; exact h.2.1
  refine ⟨?_, by rw [size_swp]; exact h.2.1, (h.2.2.1.set1 _ _).set1 _ _, ?_⟩
  case refine_2 =>
    rcases h.1.2 with ⟨hx, _⟩ | ⟨g', o', cur, hA, hC, _⟩
    · cases hx
    · obtain rfl : g = g' := by cases hA; rfl
      rw [bsz_cb ((hC.set (off + i) (.int .u64 d[j]!)).set (off + j) (.int .u64 d[i]!)), ← h.2.2.2, bsz_cb hC]
      simp
  rw [toList_swp, bang_gt0, bang_gt0]
  exact h.1.swapW (by omega) (by omega)
end
end Go.Proofs.Ytngkhligjkcbmaa

namespace Go.Proofs.Ytngkhligjkcbmaa
open Go.RowKit
set_option linter.unusedVariables false
set_option linter.unusedSimpArgs false

/-- What a function of the sort leaves. -/
def SoP (w : World) (g off n c : Nat) (D : Array Int) (e : Ending) (w' : World) : Prop := e = .returned (.tuple #[]) ∧ SoA w g off n c D w'
theorem insOuter_go {lt : Int → Int → Bool} {a b k : Nat} {d : Array Int} (h : k < b) : Sort.insOuter lt a b k d = Sort.insOuter lt a b (k + 1) (Sort.insInner lt a k d) := by
  rw [Sort.insOuter, if_pos h]
theorem insOuter_end {lt : Int → Int → Bool} {a b k : Nat} {d : Array Int} (h : ¬ k < b) : Sort.insOuter lt a b k d = d := by
  rw [Sort.insOuter, if_neg h]
theorem insInner_go {lt : Int → Int → Bool} {a j : Nat} {d : Array Int} (h : a < j + 1) (hl : lt d[j + 1]! d[j]! = true) : Sort.insInner lt a (j + 1) d = Sort.insInner lt a j (Sort.swp d (j + 1) j) := by
  rw [Sort.insInner, if_pos (by simp [hl]; omega)]
theorem insInner_end {lt : Int → Int → Bool} {a j : Nat} {d : Array Int} (h : lt d[j + 1]! d[j]! = false) : Sort.insInner lt a (j + 1) d = d := by
  rw [Sort.insInner, if_neg (by simp [h])]
theorem insInner_at {lt : Int → Int → Bool} {a : Nat} {d : Array Int} : Sort.insInner lt a a d = d := by
  cases a with
  | zero => rfl
  | succ a => rw [Sort.insInner, if_neg (by simp)]
set_option maxRecDepth 100000 in
set_option maxHeartbeats 4000000 in
theorem insU_x (w0 w : World) (g off n c a b : Nat) (d0 : Array Int) (hab : a < b) (hbn : b ≤ n) (hm : n ≤ 1000000) (hS : SoA w0 g off n c d0 w) :
    Calls Try.prog 120 #[.slice (some ⟨g, off, none⟩) n c, .int .i64 (a : Int), .int .i64 (b : Int)] w (SoP w0 g off n c (Sort.insertionSort Sort.ltInt d0 a b)) := by
  have HI0 := Lib.hid hS
  obtain ⟨D, hD⟩ : ∃ D, Sort.insertionSort Sort.ltInt d0 a b = D := ⟨_, rfl⟩
  have HD : Hid (Sort.insOuter Sort.ltInt a b (a + 1) d0 = D) := hD
  rw [hD]
  clear hS hD
  have ea : IntKind.i64.wrap ((a : Int) + 1) = ((a + 1 : Nat) : Int) := by rw [IntWalk.i64_in _ (by omega)]; omega
  go_enter Try.func120, Try.ntmps120
  go_wp2
  go_loopw [6, 7, 10, 11, 12, 13, 14, 15, 16, 17, 18, 19, 20, 21, 22, 23, 24, 25, 26, 27, 28, 29, 30, 31, 32, 33, 34, 35, 36, 37, 38, 39, 40, 41, 42, 43, 44, 45, 46, 47, 48] (fun i _ _ _ _ _ _ _ _ _ _ _ _ _ _ _ _ _ _ _ _ _ _ _ _ _ _ _ _ _ _ _ _ _ _ _ _ _ _ _ _ wr => ∃ (k : Nat) (ys : Array Int), a < k ∧ k ≤ b ∧ i = .int .i64 (k : Int) ∧ SoA w0 g off n c ys wr ∧ Sort.insOuter Sort.ltInt a b k ys = D) (fun i _ _ _ _ _ _ _ _ _ _ _ _ _ _ _ _ _ _ _ _ _ _ _ _ _ _ _ _ _ _ _ _ _ _ _ _ _ _ _ _ _ => b - (intOf i).toNat)
  case atStart => exact ⟨a + 1, d0, by omega, by omega, by go_num, HI0.out, HD.out⟩
  case round =>
    clear HI0 HD
    obtain ⟨k, ys, hk1, hk, rfl, hI, hSo⟩ := hrel
    have HI := Lib.hid hI
    have HSO := Lib.hid hSo
    clear hI hSo
    by_cases hlt : k < b
    · have hlt' : (k : Int) < (b : Int) := by omega
      have ek : IntKind.i64.wrap ((k : Int) + 1) = ((k + 1 : Nat) : Int) := by rw [IntWalk.i64_in _ (by omega)]; omega
      go_wp2
      go_loopw [7, 16, 17, 18, 19, 20, 21, 22, 23, 24, 25, 26, 27, 28, 29, 30, 31, 32, 33, 34, 35, 36, 37, 38, 39, 40, 41, 42, 43, 44, 45, 46, 47, 48] (fun i _ _ _ _ _ _ _ _ _ _ _ _ _ _ _ _ _ _ _ _ _ _ _ _ _ _ _ _ _ _ _ _ _ wq => ∃ (j : Nat) (zs : Array Int), a ≤ j ∧ j ≤ k ∧ i = .int .i64 (j : Int) ∧ SoA w0 g off n c zs wq ∧ Sort.insOuter Sort.ltInt a b (k + 1) (Sort.insInner Sort.ltInt a j zs) = D) (fun i _ _ _ _ _ _ _ _ _ _ _ _ _ _ _ _ _ _ _ _ _ _ _ _ _ _ _ _ _ _ _ _ _ _ => (intOf i).toNat)
      case atStart => exact ⟨k, ys, by omega, by omega, rfl, HI.out, (insOuter_go hlt).symm.trans HSO.out⟩
      case round =>
        clear HI HSO
        obtain ⟨j, zs, hj1, hj2, rfl, hI, hH⟩ := hrel
        have HI := Lib.hid hI
        have HH := Lib.hid hH
        clear hI hH
        by_cases hja : a < j
        · obtain ⟨q, rfl⟩ : ∃ q, j = q + 1 := ⟨j - 1, by omega⟩
          have c1 := HI.out.word (i := q + 1) (by omega)
          have c0 := HI.out.word (i := q) (by omega)
          have hgl := HI.out.lt
          have fz := HI.out.1.unfrozen
          obtain ⟨x1, hx1⟩ : ∃ x, zs[q + 1]! = x := ⟨_, rfl⟩
          obtain ⟨x0, hx0⟩ : ∃ x, zs[q]! = x := ⟨_, rfl⟩
          have HX1 := Lib.hid hx1
          have HX0 := Lib.hid hx0
          rw [hx1] at c1
          rw [hx0] at c0
          have q1 : ((q + 1 : Nat) : Int) = (q : Int) + 1 := by omega
          have q2 : (q : Int) + 1 - 1 = (q : Int) := by omega
          have q3 : IntKind.i64.wrap ((q : Int) + 1 - 1) = (q : Int) := by rw [q2]; exact IntWalk.i64_in _ (by omega)
          have q4 : ((q : Int) + 1).toNat = q + 1 := by omega
          have q5 : IntKind.i64.wrap (q : Int) = (q : Int) := IntWalk.i64_in _ (by omega)
          have hd1 : decide ((q : Int) + 1 > (a : Int)) = true := decide_eq_true (by omega)
          have hd2 : decide ((a : Int) < (q : Int) + 1) = true := decide_eq_true (by omega)
          have hqn : q + 1 < n := by omega
          have hqI1 : (q : Int) + 1 < (n : Int) := by omega
          have hqI0 : (q : Int) < (n : Int) := by omega
          have hq0 : (0 : Int) ≤ (q : Int) := by omega
          have hq1 : (0 : Int) ≤ (q : Int) + 1 := by omega
          clear hx1 hx0
          rw [q1]
          by_cases hsw : x1 < x0
          · have hd : decide (x1 < x0) = true := decide_eq_true hsw
            go_wp2
            refine wp_region_quiet_lit (by kernel_rfl) (by kernel_rfl) ?_
            repeat (go_big_quiet_step ((go_at_call 126; exact q_same (lessU _ _ _))))
            refine wpQuiet_nil ?_
            rintro _ ⟨nq, rfl⟩
            go_upto_region 6 with (fail)
            refine ord_reads [] [.p [0, 1, 2, 3, 4, 5, 6, 7, 10, 11], .q [8, 9, 12, 13, 14], .h [15, 16, 17]] (by kernel_rfl) (fun _ _ d _ _ h => by cases d <;> exact h) (by kernel_rfl) ?_
            dsimp only [pick, List.filterMap, List.getElem?_cons_zero, List.getElem?_cons_succ]
            refine wpQuiet_nil ?_
            rintro _ ⟨nq1, rfl⟩
            with_reducible refine part_pure ?_
            dsimp only [pick, List.filterMap, List.getElem?_cons_zero, List.getElem?_cons_succ]
            (repeat (first | (refine pure_ex rfl ?_; apply Exists.intro; apply And.intro; (intro w; go_simp; rfl); simp only [Act.put, List.setIfInBounds_toArray, List.set_cons_succ, List.set_cons_zero]) | (refine pure_skip rfl ?_; simp only [Act.put, List.setIfInBounds_toArray, List.set_cons_succ, List.set_cons_zero]))); refine pure_nil ?_
            with_reducible refine part_reads ?_
            dsimp only [pick, List.filterMap, List.getElem?_cons_zero, List.getElem?_cons_succ]
            (repeat (go_big_quiet_step (fail))); refine wpQuiet_nil ?_
            rintro _ ⟨nq2, rfl⟩
            with_reducible refine part_hard ?_
            dsimp only [pick, List.filterMap, List.getElem?_cons_zero, List.getElem?_cons_succ]
            go_wp2
            with_reducible refine segs_end ?_
            with_reducible refine part_nil ?_
            go_wp2
            have hsw2 := (HI.out.drewN (nq + nq1 + nq2)).swap (i := q + 1) (j := q) (by omega) (by omega)
            rw [HX0.out, HX1.out] at hsw2
            exact ⟨⟨q, Sort.swp zs (q + 1) q, by omega, by omega, rfl, hsw2, (by have e := insInner_go (lt := Sort.ltInt) (a := a) (j := q) (d := zs) (by omega) (by unfold Sort.ltInt; rw [HX0.out, HX1.out]; exact decide_eq_true hsw); have h := HH.out; rw [e] at h; exact h)⟩, by simp [intOf] <;> omega⟩
          · have hd : decide (x1 < x0) = false := decide_eq_false hsw
            go_wp2
            refine wp_region_quiet_lit (by kernel_rfl) (by kernel_rfl) ?_
            repeat (go_big_quiet_step ((go_at_call 126; exact q_same (lessU _ _ _))))
            refine wpQuiet_nil ?_
            rintro _ ⟨nq, rfl⟩
            go_wp2
            exact ⟨⟨k + 1, zs, by omega, by omega, by go_num, HI.out.drewN nq, (by have e := insInner_end (lt := Sort.ltInt) (a := a) (j := q) (d := zs) (by unfold Sort.ltInt; rw [HX0.out, HX1.out]; exact decide_eq_false (by omega)); have h := HH.out; rw [e] at h; exact h)⟩, by simp [intOf] <;> omega⟩
        · obtain rfl : j = a := by omega
          have hd1 : decide ((j : Int) > (j : Int)) = false := by simp
          go_wp2
          refine wp_region_quiet_lit (by kernel_rfl) (by kernel_rfl) ?_
          repeat (go_big_quiet_step (fail))
          refine wpQuiet_nil ?_
          rintro _ ⟨nq, rfl⟩
          go_wp2
          exact ⟨⟨k + 1, zs, by omega, by omega, by go_num, HI.out.drewN nq, (by have h := HH.out; rw [insInner_at] at h; exact h)⟩, by simp [intOf] <;> omega⟩
    · obtain rfl : k = b := by omega
      go_wp2
      go_end0
      exact ⟨rfl, by have h := HSO.out; rw [insOuter_end (by omega)] at h; rw [← h]; exact HI.out⟩
end Go.Proofs.Ytngkhligjkcbmaa

namespace Go.Proofs.Ytngkhligjkcbmaa
open Go.RowKit
set_option linter.unusedVariables false
set_option linter.unusedSimpArgs false

section
variable {lt : Int → Int → Bool} {hi f k : Nat} {d : Array Int}
theorem sift_stop (h : hi ≤ 2 * k + 1) : Sort.siftDown lt hi f k d = d := by
  rw [Sort.siftDown, dif_pos h]
theorem sift_r (h : 2 * k + 2 < hi) (hl : lt d[f + (2 * k + 1)]! d[f + (2 * k + 2)]! = true) :
    (lt d[f + k]! d[f + (2 * k + 2)]! = true → Sort.siftDown lt hi f k d = Sort.siftDown lt hi f (2 * k + 2) (Sort.swp d (f + k) (f + (2 * k + 2)))) ∧ (lt d[f + k]! d[f + (2 * k + 2)]! = false → Sort.siftDown lt hi f k d = d) := by
  have hl' : lt d[f + (2 * k + 1)]! d[f + (2 * k + 1) + 1]! = true := hl
  have h1 : ¬ 2 * k + 1 ≥ hi := by omega
  have h2 : 2 * k + 1 + 1 < hi := by omega
  constructor <;> intro hs
  · rw [Sort.siftDown, dif_neg h1, if_pos (by rw [hl', decide_eq_true h2]; rfl), if_neg (by rw [hs]; decide), dif_pos h]
  · rw [Sort.siftDown, dif_neg h1, if_pos (by rw [hl', decide_eq_true h2]; rfl), if_pos (by rw [hs]; rfl)]
theorem sift_l (h : 2 * k + 1 < hi) (hl : ¬ 2 * k + 2 < hi ∨ lt d[f + (2 * k + 1)]! d[f + (2 * k + 2)]! = false) :
    (lt d[f + k]! d[f + (2 * k + 1)]! = true → Sort.siftDown lt hi f k d = Sort.siftDown lt hi f (2 * k + 1) (Sort.swp d (f + k) (f + (2 * k + 1)))) ∧ (lt d[f + k]! d[f + (2 * k + 1)]! = false → Sort.siftDown lt hi f k d = d) := by
  have h1 : ¬ 2 * k + 1 ≥ hi := by omega
  have hc : ¬ (decide (2 * k + 1 + 1 < hi) && lt d[f + (2 * k + 1)]! d[f + (2 * k + 1) + 1]!) = true := by
    rcases hl with hl | hl
    · rw [decide_eq_false (by omega)]; simp
    · have hl' : lt d[f + (2 * k + 1)]! d[f + (2 * k + 1) + 1]! = false := hl
      rw [hl']; simp
  constructor <;> intro hs
  · rw [Sort.siftDown, dif_neg h1, if_neg hc, if_neg (by rw [hs]; decide)]
  · rw [Sort.siftDown, dif_neg h1, if_neg hc, if_pos (by rw [hs]; rfl)]
end

set_option maxRecDepth 100000 in
set_option maxHeartbeats 4000000 in
theorem siftU (w0 w : World) (g off n c lo hi f : Nat) (d0 : Array Int) (hfn : f + hi ≤ n) (hlo : lo ≤ n) (hm : n ≤ 1000000) (hS : SoA w0 g off n c d0 w) :
    Calls Try.prog 134 #[.slice (some ⟨g, off, none⟩) n c, .int .i64 (lo : Int), .int .i64 (hi : Int), .int .i64 (f : Int)] w (SoP w0 g off n c (Sort.siftDown Sort.ltInt hi f lo d0)) := by
  have HI0 := Lib.hid hS
  obtain ⟨D, hD⟩ : ∃ D, Sort.siftDown Sort.ltInt hi f lo d0 = D := ⟨_, rfl⟩
  have HD := Lib.hid hD
  rw [hD]
  clear hS hD
  go_enter Try.func134, Try.ntmps134
  go_wp2
  go_loopw [8, 9, 11, 12, 13, 14, 15, 16, 17, 18, 19, 20, 21, 22, 23, 24, 25, 26, 27, 28, 29, 30, 31, 32, 33, 34, 35, 36, 37, 38, 39, 40, 41, 42, 43, 44, 45, 46, 47, 48, 49, 50, 51, 52, 53, 54, 55, 56, 57, 58, 59, 60, 61, 62, 63, 64, 65, 66, 67, 68, 69, 70, 71, 72, 73, 74, 75] (fun r _ _ _ _ _ _ _ _ _ _ _ _ _ _ _ _ _ _ _ _ _ _ _ _ _ _ _ _ _ _ _ _ _ _ _ _ _ _ _ _ _ _ _ _ _ _ _ _ _ _ _ _ _ _ _ _ _ _ _ _ _ _ _ _ _ _ wr => ∃ (k : Nat) (ys : Array Int), k ≤ n ∧ r = .int .i64 (k : Int) ∧ SoA w0 g off n c ys wr ∧ Sort.siftDown Sort.ltInt hi f k ys = D) (fun r _ _ _ _ _ _ _ _ _ _ _ _ _ _ _ _ _ _ _ _ _ _ _ _ _ _ _ _ _ _ _ _ _ _ _ _ _ _ _ _ _ _ _ _ _ _ _ _ _ _ _ _ _ _ _ _ _ _ _ _ _ _ _ _ _ _ _ => hi - (intOf r).toNat)
  case atStart => exact ⟨lo, d0, hlo, rfl, HI0.out, HD.out⟩
  case round =>
    clear HI0 HD
    obtain ⟨k, ys, hk, rfl, hI, hSo⟩ := hrel
    have HI := Lib.hid hI
    have HSO := Lib.hid hSo
    have hgl := hI.lt
    have fz := hI.1.unfrozen
    clear hI hSo
    obtain ⟨m2, hm2⟩ : ∃ q, 2 * k = q := ⟨_, rfl⟩
    obtain ⟨c1, hc1⟩ : ∃ q, 2 * k + 1 = q := ⟨_, rfl⟩
    obtain ⟨c2, hc2⟩ : ∃ q, 2 * k + 2 = q := ⟨_, rfl⟩
    have w2 : IntKind.i64.wrap (2 * (k : Int)) = (m2 : Int) := by rw [IntWalk.i64_in _ (by omega)]; omega
    have w3 : IntKind.i64.wrap ((m2 : Int) + 1) = (c1 : Int) := by rw [IntWalk.i64_in _ (by omega)]; omega
    have w4 : IntKind.i64.wrap ((c1 : Int) + 1) = (c2 : Int) := by rw [IntWalk.i64_in _ (by omega)]; omega
    by_cases hst : hi ≤ c1
    · have hst1 : (hi : Int) ≤ (c1 : Int) := by omega
      go_wp2
      go_end0
      have h := HSO.out
      rw [sift_stop (by omega)] at h
      exact ⟨rfl, by rw [← h]; exact HI.out⟩
    · have hst1 : ¬ (hi : Int) ≤ (c1 : Int) := by omega
      by_cases h2 : c2 < hi
      · have hd2 : decide ((c2 : Int) < (hi : Int)) = true := decide_eq_true (by omega)
        obtain ⟨q1, hq1⟩ : ∃ p, f + c1 = p := ⟨_, rfl⟩
        obtain ⟨q2, hq2⟩ : ∃ p, f + c2 = p := ⟨_, rfl⟩
        have a1 := HI.out.word (i := q1) (by omega)
        have a2 := HI.out.word (i := q2) (by omega)
        obtain ⟨x1, hx1⟩ : ∃ x, ys[q1]! = x := ⟨_, rfl⟩
        obtain ⟨x2, hx2⟩ : ∃ x, ys[q2]! = x := ⟨_, rfl⟩
        have HX1 := Lib.hid hx1
        have HX2 := Lib.hid hx2
        rw [hx1] at a1
        rw [hx2] at a2
        have b1 : IntKind.i64.wrap ((f : Int) + (c1 : Int)) = (q1 : Int) := by rw [IntWalk.i64_in _ (by omega)]; omega
        have b2 : IntKind.i64.wrap ((q1 : Int) + 1) = (q2 : Int) := by rw [IntWalk.i64_in _ (by omega)]; omega
        have j1 : (q1 : Int) < (n : Int) := by omega
        have j2 : (q2 : Int) < (n : Int) := by omega
        have y1 : (0 : Int) ≤ (q1 : Int) := by omega
        have y2 : (0 : Int) ≤ (q2 : Int) := by omega
        have HQ1 := Lib.hid hq1
        have HQ2 := Lib.hid hq2
        by_cases hl : x1 < x2
        · have hdl : decide (x1 < x2) = true := decide_eq_true hl
          have HB := Lib.hid (sift_r (lt := Sort.ltInt) (hi := hi) (f := f) (k := k) (d := ys) (by omega) (by rw [hc1, hc2, hq1, hq2, hx1, hx2]; exact decide_eq_true hl))
          rw [hc2] at HB
          have HGO := Lib.hid HB.out.1
          have HEND := Lib.hid HB.out.2
          clear hx1 hx2 hq1 hq2 HB
          go_upto_region 3 with (fail)
          refine wp_region_quiet_lit (by kernel_rfl) (by kernel_rfl) ?_
          repeat (go_big_quiet_step ((go_at_call 126; exact q_same (lessU _ _ _))))
          refine wpQuiet_nil ?_
          rintro _ ⟨nq, rfl⟩
          go_upto_region 5 with (fail)
          have hIa := HI.out.drewN nq
          generalize wr.drewN nq = wa at hIa ⊢
          have HIa := Lib.hid hIa
          have hga := hIa.lt
          have fza := hIa.1.unfrozen
          clear hIa
          obtain ⟨p0, hp0⟩ : ∃ p, f + k = p := ⟨_, rfl⟩
          obtain ⟨p1, hp1⟩ : ∃ p, f + c2 = p := ⟨_, rfl⟩
          have u0 := HIa.out.word (i := p0) (by omega)
          have u1 := HIa.out.word (i := p1) (by omega)
          obtain ⟨y0, hy0⟩ : ∃ x, ys[p0]! = x := ⟨_, rfl⟩
          obtain ⟨y1, hy1⟩ : ∃ x, ys[p1]! = x := ⟨_, rfl⟩
          have HY0 := Lib.hid hy0
          have HY1 := Lib.hid hy1
          have HP0 := Lib.hid hp0
          have HP1 := Lib.hid hp1
          rw [hy0] at u0
          rw [hy1] at u1
          have v0 : IntKind.i64.wrap ((f : Int) + (k : Int)) = (p0 : Int) := by rw [IntWalk.i64_in _ (by omega)]; omega
          have v1 : IntKind.i64.wrap ((f : Int) + (c2 : Int)) = (p1 : Int) := by rw [IntWalk.i64_in _ (by omega)]; omega
          have i0 : (p0 : Int) < (n : Int) := by omega
          have i1 : (p1 : Int) < (n : Int) := by omega
          have z0 : (0 : Int) ≤ (p0 : Int) := by omega
          have z1 : (0 : Int) ≤ (p1 : Int) := by omega
          have hpn : ¬ p0 = p1 := by omega
          have hpn' : ¬ p1 = p0 := by omega
          clear hp0 hp1 hy0 hy1
          by_cases hsw : y0 < y1
          · have hds : decide (y0 < y1) = true := decide_eq_true hsw
            go_upto_region 5 with (fail)
            refine wp_region_quiet_lit (by kernel_rfl) (by kernel_rfl) ?_
            repeat (go_big_quiet_step ((go_at_call 126; exact q_same (lessU _ _ _))))
            refine wpQuiet_nil ?_
            rintro _ ⟨nr, rfl⟩
            go_upto_region 6 with (fail)
            refine ord_reads [] [.p [0, 1, 2, 3, 4, 5, 6, 7, 8, 9, 10, 11, 14, 15, 16, 17], .q [12, 13, 18, 19, 20], .h [21, 22, 23]] (by kernel_rfl) (fun _ _ d _ _ h => by cases d <;> exact h) (by kernel_rfl) ?_
            (dsimp only [pick, List.filterMap, List.getElem?_cons_zero, List.getElem?_cons_succ]; refine wpQuiet_nil ?_; rintro _ ⟨nq1, rfl⟩; with_reducible refine part_pure ?_; dsimp only [pick, List.filterMap, List.getElem?_cons_zero, List.getElem?_cons_succ]; (repeat (first | (refine pure_ex rfl ?_; apply Exists.intro; apply And.intro; (intro w; go_simp; rfl); simp only [Act.put, List.setIfInBounds_toArray, List.set_cons_succ, List.set_cons_zero]) | (refine pure_skip rfl ?_; simp only [Act.put, List.setIfInBounds_toArray, List.set_cons_succ, List.set_cons_zero]))); refine pure_nil ?_; with_reducible refine part_reads ?_; dsimp only [pick, List.filterMap, List.getElem?_cons_zero, List.getElem?_cons_succ]; (repeat (go_big_quiet_step (fail))); refine wpQuiet_nil ?_; rintro _ ⟨nq2, rfl⟩; with_reducible refine part_hard ?_; dsimp only [pick, List.filterMap, List.getElem?_cons_zero, List.getElem?_cons_succ]; go_wp2; with_reducible refine segs_end ?_; with_reducible refine part_nil ?_; go_wp2)
            have hsw2 := (HIa.out.drewN (nr + nq1 + nq2)).swap (i := p0) (j := p1) (by omega) (by omega)
            rw [HY0.out, HY1.out] at hsw2
            have hg := HGO.out (by rw [HP0.out, HP1.out, HY0.out, HY1.out]; exact decide_eq_true hsw)
            rw [HP0.out, HP1.out, HSO.out] at hg
            exact ⟨⟨c2, Sort.swp ys p0 p1, by omega, rfl, hsw2, hg.symm⟩, by simp [intOf] <;> omega⟩
          · have hds : decide (y0 < y1) = false := decide_eq_false hsw
            go_wp2_with (fail)
            refine wp_region_quiet_lit (by kernel_rfl) (by kernel_rfl) ?_
            repeat (go_big_quiet_step ((go_at_call 126; exact q_same (lessU _ _ _))))
            refine wpQuiet_nil ?_
            rintro _ ⟨nr, rfl⟩
            go_wp2
            have hg := HEND.out (by rw [HP0.out, HP1.out, HY0.out, HY1.out]; exact decide_eq_false (by omega))
            rw [HSO.out] at hg
            exact bodyPost_ret (v := .tuple #[]) (by simp [results, Try.results134, go_sem]) rfl ⟨rfl, by rw [hg]; exact HIa.out.drewN nr⟩
        · have hdl : decide (x1 < x2) = false := decide_eq_false hl
          have HB := Lib.hid (sift_l (lt := Sort.ltInt) (hi := hi) (f := f) (k := k) (d := ys) (by omega) (.inr (by rw [hc1, hc2, hq1, hq2, hx1, hx2]; exact decide_eq_false hl)))
          rw [hc1] at HB
          have HGO := Lib.hid HB.out.1
          have HEND := Lib.hid HB.out.2
          clear hx1 hx2 hq1 hq2 HB
          go_upto_region 3 with (fail)
          refine wp_region_quiet_lit (by kernel_rfl) (by kernel_rfl) ?_
          repeat (go_big_quiet_step ((go_at_call 126; exact q_same (lessU _ _ _))))
          refine wpQuiet_nil ?_
          rintro _ ⟨nq, rfl⟩
          go_upto_region 5 with (fail)
          clear b1 b2
          have hIa := HI.out.drewN nq
          generalize wr.drewN nq = wa at hIa ⊢
          have HIa := Lib.hid hIa
          have hga := hIa.lt
          have fza := hIa.1.unfrozen
          clear hIa
          obtain ⟨p0, hp0⟩ : ∃ p, f + k = p := ⟨_, rfl⟩
          obtain ⟨p1, hp1⟩ : ∃ p, f + c1 = p := ⟨_, rfl⟩
          have u0 := HIa.out.word (i := p0) (by omega)
          have u1 := HIa.out.word (i := p1) (by omega)
          obtain ⟨y0, hy0⟩ : ∃ x, ys[p0]! = x := ⟨_, rfl⟩
          obtain ⟨y1, hy1⟩ : ∃ x, ys[p1]! = x := ⟨_, rfl⟩
          have HY0 := Lib.hid hy0
          have HY1 := Lib.hid hy1
          have HP0 := Lib.hid hp0
          have HP1 := Lib.hid hp1
          rw [hy0] at u0
          rw [hy1] at u1
          have v0 : IntKind.i64.wrap ((f : Int) + (k : Int)) = (p0 : Int) := by rw [IntWalk.i64_in _ (by omega)]; omega
          have v1 : IntKind.i64.wrap ((f : Int) + (c1 : Int)) = (p1 : Int) := by rw [IntWalk.i64_in _ (by omega)]; omega
          have i0 : (p0 : Int) < (n : Int) := by omega
          have i1 : (p1 : Int) < (n : Int) := by omega
          have z0 : (0 : Int) ≤ (p0 : Int) := by omega
          have z1 : (0 : Int) ≤ (p1 : Int) := by omega
          have hpn : ¬ p0 = p1 := by omega
          have hpn' : ¬ p1 = p0 := by omega
          clear hp0 hp1 hy0 hy1
          by_cases hsw : y0 < y1
          · have hds : decide (y0 < y1) = true := decide_eq_true hsw
            go_upto_region 5 with (fail)
            refine wp_region_quiet_lit (by kernel_rfl) (by kernel_rfl) ?_
            repeat (go_big_quiet_step ((go_at_call 126; exact q_same (lessU _ _ _))))
            refine wpQuiet_nil ?_
            rintro _ ⟨nr, rfl⟩
            go_upto_region 6 with (fail)
            refine ord_reads [] [.p [0, 1, 2, 3, 4, 5, 6, 7, 8, 9, 10, 11, 14, 15, 16, 17], .q [12, 13, 18, 19, 20], .h [21, 22, 23]] (by kernel_rfl) (fun _ _ d _ _ h => by cases d <;> exact h) (by kernel_rfl) ?_
            (dsimp only [pick, List.filterMap, List.getElem?_cons_zero, List.getElem?_cons_succ]; refine wpQuiet_nil ?_; rintro _ ⟨nq1, rfl⟩; with_reducible refine part_pure ?_; dsimp only [pick, List.filterMap, List.getElem?_cons_zero, List.getElem?_cons_succ]; (repeat (first | (refine pure_ex rfl ?_; apply Exists.intro; apply And.intro; (intro w; go_simp; rfl); simp only [Act.put, List.setIfInBounds_toArray, List.set_cons_succ, List.set_cons_zero]) | (refine pure_skip rfl ?_; simp only [Act.put, List.setIfInBounds_toArray, List.set_cons_succ, List.set_cons_zero]))); refine pure_nil ?_; with_reducible refine part_reads ?_; dsimp only [pick, List.filterMap, List.getElem?_cons_zero, List.getElem?_cons_succ]; (repeat (go_big_quiet_step (fail))); refine wpQuiet_nil ?_; rintro _ ⟨nq2, rfl⟩; with_reducible refine part_hard ?_; dsimp only [pick, List.filterMap, List.getElem?_cons_zero, List.getElem?_cons_succ]; go_wp2; with_reducible refine segs_end ?_; with_reducible refine part_nil ?_; go_wp2)
            have hsw2 := (HIa.out.drewN (nr + nq1 + nq2)).swap (i := p0) (j := p1) (by omega) (by omega)
            rw [HY0.out, HY1.out] at hsw2
            have hg := HGO.out (by rw [HP0.out, HP1.out, HY0.out, HY1.out]; exact decide_eq_true hsw)
            rw [HP0.out, HP1.out, HSO.out] at hg
            exact ⟨⟨c1, Sort.swp ys p0 p1, by omega, rfl, hsw2, hg.symm⟩, by simp [intOf] <;> omega⟩
          · have hds : decide (y0 < y1) = false := decide_eq_false hsw
            go_wp2_with (fail)
            refine wp_region_quiet_lit (by kernel_rfl) (by kernel_rfl) ?_
            repeat (go_big_quiet_step ((go_at_call 126; exact q_same (lessU _ _ _))))
            refine wpQuiet_nil ?_
            rintro _ ⟨nr, rfl⟩
            go_wp2
            have hg := HEND.out (by rw [HP0.out, HP1.out, HY0.out, HY1.out]; exact decide_eq_false (by omega))
            rw [HSO.out] at hg
            exact bodyPost_ret (v := .tuple #[]) (by simp [results, Try.results134, go_sem]) rfl ⟨rfl, by rw [hg]; exact HIa.out.drewN nr⟩
      · have hd2 : decide ((c2 : Int) < (hi : Int)) = false := decide_eq_false (by omega)
        have HB := Lib.hid (sift_l (lt := Sort.ltInt) (hi := hi) (f := f) (k := k) (d := ys) (by omega) (.inl (by omega)))
        rw [hc1] at HB
        have HGO := Lib.hid HB.out.1
        have HEND := Lib.hid HB.out.2
        clear HB
        go_upto_region 3 with (fail)
        refine wp_region_quiet_lit (by kernel_rfl) (by kernel_rfl) ?_
        repeat (go_big_quiet_step (fail))
        refine wpQuiet_nil ?_
        rintro _ ⟨nq, rfl⟩
        go_upto_region 5 with (fail)
        have hIa := HI.out.drewN nq
        generalize wr.drewN nq = wa at hIa ⊢
        have HIa := Lib.hid hIa
        have hga := hIa.lt
        have fza := hIa.1.unfrozen
        clear hIa
        obtain ⟨p0, hp0⟩ : ∃ p, f + k = p := ⟨_, rfl⟩
        obtain ⟨p1, hp1⟩ : ∃ p, f + c1 = p := ⟨_, rfl⟩
        have u0 := HIa.out.word (i := p0) (by omega)
        have u1 := HIa.out.word (i := p1) (by omega)
        obtain ⟨y0, hy0⟩ : ∃ x, ys[p0]! = x := ⟨_, rfl⟩
        obtain ⟨y1, hy1⟩ : ∃ x, ys[p1]! = x := ⟨_, rfl⟩
        have HY0 := Lib.hid hy0
        have HY1 := Lib.hid hy1
        have HP0 := Lib.hid hp0
        have HP1 := Lib.hid hp1
        rw [hy0] at u0
        rw [hy1] at u1
        have v0 : IntKind.i64.wrap ((f : Int) + (k : Int)) = (p0 : Int) := by rw [IntWalk.i64_in _ (by omega)]; omega
        have v1 : IntKind.i64.wrap ((f : Int) + (c1 : Int)) = (p1 : Int) := by rw [IntWalk.i64_in _ (by omega)]; omega
        have i0 : (p0 : Int) < (n : Int) := by omega
        have i1 : (p1 : Int) < (n : Int) := by omega
        have z0 : (0 : Int) ≤ (p0 : Int) := by omega
        have z1 : (0 : Int) ≤ (p1 : Int) := by omega
        have hpn : ¬ p0 = p1 := by omega
        have hpn' : ¬ p1 = p0 := by omega
        clear hp0 hp1 hy0 hy1
        by_cases hsw : y0 < y1
        · have hds : decide (y0 < y1) = true := decide_eq_true hsw
          go_upto_region 5 with (fail)
          refine wp_region_quiet_lit (by kernel_rfl) (by kernel_rfl) ?_
          repeat (go_big_quiet_step ((go_at_call 126; exact q_same (lessU _ _ _))))
          refine wpQuiet_nil ?_
          rintro _ ⟨nr, rfl⟩
          go_upto_region 6 with (fail)
          refine ord_reads [] [.p [0, 1, 2, 3, 4, 5, 6, 7, 8, 9, 10, 11, 14, 15, 16, 17], .q [12, 13, 18, 19, 20], .h [21, 22, 23]] (by kernel_rfl) (fun _ _ d _ _ h => by cases d <;> exact h) (by kernel_rfl) ?_
          (dsimp only [pick, List.filterMap, List.getElem?_cons_zero, List.getElem?_cons_succ]; refine wpQuiet_nil ?_; rintro _ ⟨nq1, rfl⟩; with_reducible refine part_pure ?_; dsimp only [pick, List.filterMap, List.getElem?_cons_zero, List.getElem?_cons_succ]; (repeat (first | (refine pure_ex rfl ?_; apply Exists.intro; apply And.intro; (intro w; go_simp; rfl); simp only [Act.put, List.setIfInBounds_toArray, List.set_cons_succ, List.set_cons_zero]) | (refine pure_skip rfl ?_; simp only [Act.put, List.setIfInBounds_toArray, List.set_cons_succ, List.set_cons_zero]))); refine pure_nil ?_; with_reducible refine part_reads ?_; dsimp only [pick, List.filterMap, List.getElem?_cons_zero, List.getElem?_cons_succ]; (repeat (go_big_quiet_step (fail))); refine wpQuiet_nil ?_; rintro _ ⟨nq2, rfl⟩; with_reducible refine part_hard ?_; dsimp only [pick, List.filterMap, List.getElem?_cons_zero, List.getElem?_cons_succ]; go_wp2; with_reducible refine segs_end ?_; with_reducible refine part_nil ?_; go_wp2)
          have hsw2 := (HIa.out.drewN (nr + nq1 + nq2)).swap (i := p0) (j := p1) (by omega) (by omega)
          rw [HY0.out, HY1.out] at hsw2
          have hg := HGO.out (by rw [HP0.out, HP1.out, HY0.out, HY1.out]; exact decide_eq_true hsw)
          rw [HP0.out, HP1.out, HSO.out] at hg
          exact ⟨⟨c1, Sort.swp ys p0 p1, by omega, rfl, hsw2, hg.symm⟩, by simp [intOf] <;> omega⟩
        · have hds : decide (y0 < y1) = false := decide_eq_false hsw
          go_wp2_with (fail)
          refine wp_region_quiet_lit (by kernel_rfl) (by kernel_rfl) ?_
          repeat (go_big_quiet_step ((go_at_call 126; exact q_same (lessU _ _ _))))
          refine wpQuiet_nil ?_
          rintro _ ⟨nr, rfl⟩
          go_wp2
          have hg := HEND.out (by rw [HP0.out, HP1.out, HY0.out, HY1.out]; exact decide_eq_false (by omega))
          rw [HSO.out] at hg
          exact bodyPost_ret (v := .tuple #[]) (by simp [results, Try.results134, go_sem]) rfl ⟨rfl, by rw [hg]; exact HIa.out.drewN nr⟩
end Go.Proofs.Ytngkhligjkcbmaa

namespace Go.Proofs.Ytngkhligjkcbmaa
open Go.RowKit
set_option linter.unusedVariables false
set_option linter.unusedSimpArgs false

set_option maxRecDepth 100000 in
set_option maxHeartbeats 4000000 in
theorem heapU (w0 w : World) (g off n c a b : Nat) (d0 : Array Int) (hab : a < b) (hbn : b ≤ n) (hm : n ≤ 1000000) (hS : SoA w0 g off n c d0 w) :
    Calls Try.prog 121 #[.slice (some ⟨g, off, none⟩) n c, .int .i64 (a : Int), .int .i64 (b : Int)] w (SoP w0 g off n c (Sort.heapSort Sort.ltInt d0 a b)) := by
  have HI0 := Lib.hid hS
  obtain ⟨h, hh⟩ : ∃ h, b - a = h := ⟨_, rfl⟩
  obtain ⟨q, hq⟩ : ∃ q, (h - 1) / 2 = q := ⟨_, rfl⟩
  obtain ⟨D, hD⟩ : ∃ D, Sort.heapSort Sort.ltInt d0 a b = D := ⟨_, rfl⟩
  rw [hD]
  rw [Sort.heapSort, hh, hq] at hD
  have HD := Lib.hid hD
  have s1 : IntKind.i64.wrap ((b : Int) - (a : Int)) = (h : Int) := by rw [IntWalk.i64_in _ (by omega)]; omega
  have s2 : IntKind.i64.wrap ((h : Int) - 1) = (h : Int) - 1 := by rw [IntWalk.i64_in _ (by omega)]
  have s3 : ((h : Int) - 1).tdiv 2 = (q : Int) := by rw [Int.tdiv_eq_ediv_of_nonneg (by omega)]; omega
  have s4 : IntKind.i64.wrap (q : Int) = (q : Int) := by rw [IntWalk.i64_in _ (by omega)]
  clear hS hD
  go_enter Try.func121, Try.ntmps121
  go_wp2
  go_loopw [9, 18, 19, 20, 21, 22, 23, 24, 25, 26] (fun i _ _ _ _ _ _ _ _ _ wr => ∃ (k : Nat) (ys : Array Int), k ≤ q + 1 ∧ i = .int .i64 ((k : Int) - 1) ∧ SoA w0 g off n c ys wr ∧ Sort.heapPop Sort.ltInt a h (Sort.heapBuild Sort.ltInt h a k ys) = D) (fun i _ _ _ _ _ _ _ _ _ _ => (intOf i + 1).toNat)
  case atStart => exact ⟨q + 1, d0, by omega, by go_num, HI0.out, HD.out⟩
  case round =>
    clear HI0 HD
    obtain ⟨k, ys, hk, rfl, hI, hSo⟩ := hrel
    have HI := Lib.hid hI
    have HSO := Lib.hid hSo
    clear hI hSo
    cases k with
    | succ j =>
      have e1 : ((j + 1 : Nat) : Int) - 1 = (j : Int) := by omega
      have e2 : IntKind.i64.wrap ((j : Int) - 1) = (j : Int) - 1 := by rw [IntWalk.i64_in _ (by omega)]
      rw [e1]
      have HC := Lib.hid (siftU w0 wr g off n c j h a ys (by omega) (by omega) hm HI.out)
      go_wp2_with (go_at_call 134; refine HC.out.mono ?_; rintro e w' ⟨rfl, hN⟩)
      exact ⟨⟨j, _, by omega, by go_num, hN, HSO.out⟩, by simp [intOf] <;> omega⟩
    | zero =>
      have e1 : ((0 : Nat) : Int) - 1 = -1 := by omega
      rw [e1]
      go_wp2
      go_loopw [10, 29, 30, 31, 32, 33, 34, 35, 36, 37, 38, 39, 40, 41, 42, 43, 44, 45, 46, 47, 48, 49, 50, 51, 52, 53, 54, 55] (fun i _ _ _ _ _ _ _ _ _ _ _ _ _ _ _ _ _ _ _ _ _ _ _ _ _ _ _ wq => ∃ (k : Nat) (ys : Array Int), k ≤ h ∧ i = .int .i64 ((k : Int) - 1) ∧ SoA w0 g off n c ys wq ∧ Sort.heapPop Sort.ltInt a k ys = D) (fun i _ _ _ _ _ _ _ _ _ _ _ _ _ _ _ _ _ _ _ _ _ _ _ _ _ _ _ _ => (intOf i + 1).toNat)
      case atStart => exact ⟨h, ys, by omega, by go_num, HI.out, HSO.out⟩
      case round =>
        clear HI HSO
        obtain ⟨k, ys, hk, rfl, hI, hSo⟩ := hrel
        have HI := Lib.hid hI
        have HSO := Lib.hid hSo
        have hgl := hI.lt
        have fz := hI.1.unfrozen
        clear hI hSo
        cases k with
        | succ j =>
          have e1 : ((j + 1 : Nat) : Int) - 1 = (j : Int) := by omega
          have e2 : IntKind.i64.wrap ((j : Int) - 1) = (j : Int) - 1 := by rw [IntWalk.i64_in _ (by omega)]
          rw [e1]
          obtain ⟨p, hp⟩ : ∃ p, a + j = p := ⟨_, rfl⟩
          have u0 := HI.out.word (i := a) (by omega)
          have u1 := HI.out.word (i := p) (by omega)
          obtain ⟨y0, hy0⟩ : ∃ x, ys[a]! = x := ⟨_, rfl⟩
          obtain ⟨y1, hy1⟩ : ∃ x, ys[p]! = x := ⟨_, rfl⟩
          have HY0 := Lib.hid hy0
          have HY1 := Lib.hid hy1
          have HP := Lib.hid hp
          rw [hy0] at u0
          rw [hy1] at u1
          have v1 : IntKind.i64.wrap ((a : Int) + (j : Int)) = (p : Int) := by rw [IntWalk.i64_in _ (by omega)]; omega
          have i0 : (a : Int) < (n : Int) := by omega
          have i1 : (p : Int) < (n : Int) := by omega
          have z0 : (0 : Int) ≤ (a : Int) := by omega
          have z1 : (0 : Int) ≤ (p : Int) := by omega
          have HSW : Hid (∀ m, SoA w0 g off n c (Sort.swp ys a p) (((wr.drewN m).setCell ⟨g, off + a, none⟩ (.int .u64 y1)).setCell ⟨g, off + p, none⟩ (.int .u64 y0))) := by
            intro m
            have h2 := (HI.out.drewN m).swap (i := a) (j := p) (by omega) (by omega)
            rwa [hy0, hy1] at h2
          clear hp hy0 hy1
          by_cases hpe : a = p
          · subst hpe
            obtain rfl : y0 = y1 := HY0.out.symm.trans HY1.out
            clear u1
            go_upto_region 10 with (fail)
            refine ord_reads [] [.p [0, 1, 2, 3, 4, 5, 6, 7, 8, 9, 12, 13], .q [10, 11, 14, 15, 16], .h [17, 18, 19]] (by kernel_rfl) (fun _ _ d _ _ h => by cases d <;> exact h) (by kernel_rfl) ?_
            (dsimp only [pick, List.filterMap, List.getElem?_cons_zero, List.getElem?_cons_succ]; refine wpQuiet_nil ?_; rintro _ ⟨nq1, rfl⟩; with_reducible refine part_pure ?_; dsimp only [pick, List.filterMap, List.getElem?_cons_zero, List.getElem?_cons_succ]; (repeat (first | (refine pure_ex rfl ?_; apply Exists.intro; apply And.intro; (intro w; go_simp; rfl); simp only [Act.put, List.setIfInBounds_toArray, List.set_cons_succ, List.set_cons_zero]) | (refine pure_skip rfl ?_; simp only [Act.put, List.setIfInBounds_toArray, List.set_cons_succ, List.set_cons_zero]))); refine pure_nil ?_; with_reducible refine part_reads ?_; dsimp only [pick, List.filterMap, List.getElem?_cons_zero, List.getElem?_cons_succ]; (repeat (go_big_quiet_step (fail))); refine wpQuiet_nil ?_; rintro _ ⟨nq2, rfl⟩; with_reducible refine part_hard ?_; dsimp only [pick, List.filterMap, List.getElem?_cons_zero, List.getElem?_cons_succ]; go_wp2; with_reducible refine segs_end ?_; with_reducible refine part_nil ?_)
            obtain ⟨W, hW⟩ : ∃ W, ((wr.drewN (nq1 + nq2)).setCell ⟨g, off + a, none⟩ (.int .u64 y0)).setCell ⟨g, off + a, none⟩ (.int .u64 y0) = W := ⟨_, rfl⟩
            rw [hW]
            have HC := Lib.hid (siftU w0 W g off n c 0 j a (Sort.swp ys a a) (by omega) (by omega) hm (by rw [← hW]; exact HSW.out _))
            clear hW
            go_wp2_with (go_at_call 134; refine HC.out.mono ?_; rintro e w' ⟨rfl, hN⟩)
            exact ⟨⟨j, _, by omega, by go_num, hN, by have hx := HSO.out; rw [Sort.heapPop, HP.out] at hx; exact hx⟩, by simp [intOf] <;> omega⟩
          · have hpe' : ¬ p = a := by omega
            go_upto_region 10 with (fail)
            refine ord_reads [] [.p [0, 1, 2, 3, 4, 5, 6, 7, 8, 9, 12, 13], .q [10, 11, 14, 15, 16], .h [17, 18, 19]] (by kernel_rfl) (fun _ _ d _ _ h => by cases d <;> exact h) (by kernel_rfl) ?_
            (dsimp only [pick, List.filterMap, List.getElem?_cons_zero, List.getElem?_cons_succ]; refine wpQuiet_nil ?_; rintro _ ⟨nq1, rfl⟩; with_reducible refine part_pure ?_; dsimp only [pick, List.filterMap, List.getElem?_cons_zero, List.getElem?_cons_succ]; (repeat (first | (refine pure_ex rfl ?_; apply Exists.intro; apply And.intro; (intro w; go_simp; rfl); simp only [Act.put, List.setIfInBounds_toArray, List.set_cons_succ, List.set_cons_zero]) | (refine pure_skip rfl ?_; simp only [Act.put, List.setIfInBounds_toArray, List.set_cons_succ, List.set_cons_zero]))); refine pure_nil ?_; with_reducible refine part_reads ?_; dsimp only [pick, List.filterMap, List.getElem?_cons_zero, List.getElem?_cons_succ]; (repeat (go_big_quiet_step (fail))); refine wpQuiet_nil ?_; rintro _ ⟨nq2, rfl⟩; with_reducible refine part_hard ?_; dsimp only [pick, List.filterMap, List.getElem?_cons_zero, List.getElem?_cons_succ]; go_wp2; with_reducible refine segs_end ?_; with_reducible refine part_nil ?_)
            obtain ⟨W, hW⟩ : ∃ W, ((wr.drewN (nq1 + nq2)).setCell ⟨g, off + a, none⟩ (.int .u64 y1)).setCell ⟨g, off + p, none⟩ (.int .u64 y0) = W := ⟨_, rfl⟩
            rw [hW]
            have HC := Lib.hid (siftU w0 W g off n c 0 j a (Sort.swp ys a p) (by omega) (by omega) hm (by rw [← hW]; exact HSW.out _))
            clear hW
            go_wp2_with (go_at_call 134; refine HC.out.mono ?_; rintro e w' ⟨rfl, hN⟩)
            exact ⟨⟨j, _, by omega, by go_num, hN, by have hx := HSO.out; rw [Sort.heapPop, HP.out] at hx; exact hx⟩, by simp [intOf] <;> omega⟩
        | zero =>
          have e1 : ((0 : Nat) : Int) - 1 = -1 := by omega
          rw [e1]
          go_wp2
          go_end0
          exact ⟨rfl, by have h := HSO.out; rw [Sort.heapPop] at h; rw [← h]; exact HI.out⟩
end Go.Proofs.Ytngkhligjkcbmaa

namespace Go.Proofs.Ytngkhligjkcbmaa
open Go.RowKit
set_option linter.unusedVariables false
set_option linter.unusedSimpArgs false

/-- The slice, and the count of swaps in a block of its own. -/
def SwA (w : World) (g off n c : Nat) (d : Array Int) (s sw : Nat) (wr : World) : Prop := SoA w g off n c d wr ∧ CB wr s 3 #[.int .i64 (sw : Int)] ∧ w.heap.size ≤ s ∧ ¬ s = g
theorem SwA.drewN {w wr : World} {g off n c s sw : Nat} {d : Array Int} (h : SwA w g off n c d s sw wr) (q : Nat) : SwA w g off n c d s sw (wr.drewN q) := ⟨h.1.drewN q, h.2.1.drewN q, h.2.2⟩
theorem SwA.inc {w wr : World} {g off n c s sw : Nat} {d : Array Int} (h : SwA w g off n c d s sw wr) (k : Nat) : SwA w g off n c d s k (wr.setCell ⟨s, 0, none⟩ (.int .i64 (k : Int))) := by
  obtain ⟨h1, h2, h3, h4⟩ := h
  refine ⟨⟨h1.1.keep (fun b hb => Below.heap_setCell _ _ _ _ ?_), h1.2.1, h1.2.2.1.setCell (a := ⟨s, 0, none⟩) (.inr h3) _, (bsz_keep (Below.heap_setCell _ _ _ _ (fun he => h4 he.symm))).trans h1.2.2.2⟩, h2.set 0 _, h3, h4⟩
  have : b = g := by simpa [OwnB, eq_comm] using hb
  rw [this]; exact fun he => h4 he.symm
def O2P (w : World) (g off n c : Nat) (d : Array Int) (s : Nat) (r : Nat × Nat × Nat) (e : Ending) (w' : World) : Prop := e = .returned (.tuple #[.int .i64 (r.1 : Int), .int .i64 (r.2.1 : Int)]) ∧ SwA w g off n c d s r.2.2 w'
def MdP (w : World) (g off n c : Nat) (d : Array Int) (s : Nat) (r : Nat × Nat) (e : Ending) (w' : World) : Prop := e = .returned (.int .i64 (r.1 : Int)) ∧ SwA w g off n c d s r.2 w'
section
variable {w0 w : World} {g off n c s sw : Nat} {d : Array Int}
theorem order2_lt (d : Array Int) (i j sw n : Nat) (hi : i < n) (hj : j < n) : (Sort.order2 Sort.ltInt d i j sw).1 < n ∧ (Sort.order2 Sort.ltInt d i j sw).2.1 < n ∧ (Sort.order2 Sort.ltInt d i j sw).2.2 ≤ sw + 1 := by
  unfold Sort.order2; split <;> simp <;> omega
theorem median_lt (d : Array Int) (i j k sw n : Nat) (hi : i < n) (hj : j < n) (hk : k < n) : (Sort.median Sort.ltInt d i j k sw).1 < n ∧ (Sort.median Sort.ltInt d i j k sw).2 ≤ sw + 3 := by
  unfold Sort.median
  have h1 := order2_lt d i j sw n hi hj
  obtain ⟨r1, hr1⟩ : ∃ r, Sort.order2 Sort.ltInt d i j sw = r := ⟨_, rfl⟩
  rw [hr1] at h1
  have h2 := order2_lt d r1.2.1 k r1.2.2 n h1.2.1 hk
  obtain ⟨r2, hr2⟩ : ∃ r, Sort.order2 Sort.ltInt d r1.2.1 k r1.2.2 = r := ⟨_, rfl⟩
  rw [hr2] at h2
  have h3 := order2_lt d r1.1 r2.1 r2.2.2 n h1.1 h2.1
  simp only [hr1, hr2]
  omega
set_option maxRecDepth 100000 in
set_option maxHeartbeats 1000000 in
theorem order2U (i j : Nat) (hi : i < n) (hj : j < n) (hm : n ≤ 1000000) (hsw : sw ≤ 1000) (H : SwA w0 g off n c d s sw w) :
    Calls Try.prog 138 #[.slice (some ⟨g, off, none⟩) n c, .int .i64 (i : Int), .int .i64 (j : Int), .pointer (some ⟨s, 0, none⟩)] w (O2P w0 g off n c d s (Sort.order2 Sort.ltInt d i j sw)) := by
  have HH := Lib.hid H
  have c0 := H.1.word (i := i) hi
  have c1 := H.1.word (i := j) hj
  have hl := H.1.lt
  have hls := H.2.1.lt
  have cs : w.cell? ⟨s, 0, none⟩ = some (.int .i64 (sw : Int)) := H.2.1.cell 0
  have fs := H.2.1.frozen 0
  obtain ⟨x, hx⟩ : ∃ x, d[i]! = x := ⟨_, rfl⟩
  obtain ⟨y, hy⟩ : ∃ y, d[j]! = y := ⟨_, rfl⟩
  have HX := Lib.hid hx
  have HY := Lib.hid hy
  rw [hx] at c0
  rw [hy] at c1
  have hiI : (i : Int) < (n : Int) := by omega
  have hjI : (j : Int) < (n : Int) := by omega
  have hsw1 : IntKind.i64.wrap ((sw : Int) + 1) = ((sw + 1 : Nat) : Int) := by rw [IntWalk.i64_in _ (by omega)]; omega
  clear H hx hy
  by_cases hlt : y < x
  · have hd : decide (y < x) = true := decide_eq_true hlt
    have HR : Hid (Sort.order2 Sort.ltInt d i j sw = (j, i, sw + 1)) := by
      show _ = _
      unfold Sort.order2 Sort.ltInt; rw [HX.out, HY.out, if_pos hd]
    go_enter Try.func138, Try.ntmps138
    go_upto_region 1 with (fail)
    refine wp_region_quiet_lit (by kernel_rfl) (by kernel_rfl) ?_
    repeat (go_big_quiet_step ((go_at_call 126; exact q_same (lessU _ _ _))))
    refine wpQuiet_nil ?_
    rintro _ ⟨nq, rfl⟩
    go_wp2
    refine bodyPost_ret (v := .tuple #[.int .i64 (j : Int), .int .i64 (i : Int)]) (by simp [results, Try.results138, go_sem]) rfl ?_
    rw [HR.out]
    exact ⟨rfl, (HH.out.drewN nq).inc (sw + 1)⟩
  · have hd : decide (y < x) = false := decide_eq_false hlt
    have HR : Hid (Sort.order2 Sort.ltInt d i j sw = (i, j, sw)) := by
      show _ = _
      unfold Sort.order2 Sort.ltInt; rw [HX.out, HY.out, if_neg (by rw [hd]; decide)]
    go_enter Try.func138, Try.ntmps138
    go_upto_region 1 with (fail)
    refine wp_region_quiet_lit (by kernel_rfl) (by kernel_rfl) ?_
    repeat (go_big_quiet_step ((go_at_call 126; exact q_same (lessU _ _ _))))
    refine wpQuiet_nil ?_
    rintro _ ⟨nq, rfl⟩
    go_wp2
    refine bodyPost_ret (v := .tuple #[.int .i64 (i : Int), .int .i64 (j : Int)]) (by simp [results, Try.results138, go_sem]) rfl ?_
    rw [HR.out]
    exact ⟨rfl, HH.out.drewN nq⟩
set_option maxRecDepth 100000 in
set_option maxHeartbeats 1000000 in
theorem medU (i j k : Nat) (hi : i < n) (hj : j < n) (hk : k < n) (hm : n ≤ 1000000) (hsw : sw ≤ 100) (H : SwA w0 g off n c d s sw w) :
    Calls Try.prog 136 #[.slice (some ⟨g, off, none⟩) n c, .int .i64 (i : Int), .int .i64 (j : Int), .int .i64 (k : Int), .pointer (some ⟨s, 0, none⟩)] w (MdP w0 g off n c d s (Sort.median Sort.ltInt d i j k sw)) := by
  obtain ⟨R, hR⟩ : ∃ R, Sort.median Sort.ltInt d i j k sw = R := ⟨_, rfl⟩
  rw [hR]
  have h1 := order2_lt d i j sw n hi hj
  have hC1 := order2U i j hi hj hm (by omega) H
  unfold Sort.median at hR
  obtain ⟨⟨a1, b1, s1⟩, hr1⟩ : ∃ r, Sort.order2 Sort.ltInt d i j sw = r := ⟨_, rfl⟩
  simp only [hr1] at h1 hC1 hR
  have h2 := order2_lt d b1 k s1 n h1.2.1 hk
  have hC2 := fun W => order2U (w0 := w0) (w := W) (g := g) (off := off) (c := c) (d := d) (s := s) b1 k h1.2.1 hk hm (by omega : s1 ≤ 1000)
  obtain ⟨⟨b2, c2, s2⟩, hr2⟩ : ∃ r, Sort.order2 Sort.ltInt d b1 k s1 = r := ⟨_, rfl⟩
  simp only [hr2] at h2 hC2 hR
  have hC3 := fun W => order2U (w0 := w0) (w := W) (g := g) (off := off) (c := c) (d := d) (s := s) a1 b2 h1.1 h2.1 hm (by omega : s2 ≤ 1000)
  obtain ⟨⟨a3, b3, s3⟩, hr3⟩ : ∃ r, Sort.order2 Sort.ltInt d a1 b2 s2 = r := ⟨_, rfl⟩
  simp only [hr3] at hC3 hR
  have HC1 := Lib.hid hC1
  have HC2 := Lib.hid hC2
  have HC3 := Lib.hid hC3
  subst hR
  clear H hC1 hC2 hC3 hr1 hr2 hr3 h1 h2
  go_enter Try.func136, Try.ntmps136
  go_upto_region 2 with (go_at_call 138; refine HC1.out.mono ?_; rintro e w1 ⟨rfl, hN⟩; have HN := Lib.hid hN; clear hN)
  go_upto_region 3 with (go_at_call 138; refine (HC2.out _ HN.out).mono ?_; rintro e w2 ⟨rfl, hN2⟩; have HN2 := Lib.hid hN2; clear hN2)
  go_wp2_with (go_at_call 138; refine (HC3.out _ HN2.out).mono ?_; rintro e w3 ⟨rfl, hN3⟩)
  go_ret
  exact ⟨rfl, hN3⟩
set_option maxRecDepth 100000 in
set_option maxHeartbeats 1000000 in
theorem medAdjU (a : Nat) (h1 : 1 ≤ a) (h2 : a + 1 < n) (hm : n ≤ 1000000) (hsw : sw ≤ 100) (H : SwA w0 g off n c d s sw w) :
    Calls Try.prog 135 #[.slice (some ⟨g, off, none⟩) n c, .int .i64 (a : Int), .pointer (some ⟨s, 0, none⟩)] w (MdP w0 g off n c d s (Sort.medianAdjacent Sort.ltInt d a sw)) := by
  have HM := Lib.hid (medU (a - 1) a (a + 1) (by omega) (by omega) h2 hm hsw H)
  have e1 : IntKind.i64.wrap ((a : Int) - 1) = ((a - 1 : Nat) : Int) := by rw [IntWalk.i64_in _ (by omega)]; omega
  have e2 : IntKind.i64.wrap ((a : Int) + 1) = ((a + 1 : Nat) : Int) := by rw [IntWalk.i64_in _ (by omega)]; omega
  unfold Sort.medianAdjacent
  obtain ⟨p, hp⟩ : ∃ p, a - 1 = p := ⟨_, rfl⟩
  obtain ⟨q, hq⟩ : ∃ p, a + 1 = p := ⟨_, rfl⟩
  rw [hp] at e1
  rw [hq] at e2
  rw [hp, hq] at HM ⊢
  clear H hp hq
  go_enter Try.func135, Try.ntmps135
  go_wp2_with (go_at_call 136; refine HM.out.mono ?_; rintro e w' ⟨rfl, hN⟩)
  go_ret
  exact ⟨rfl, hN⟩
end
end Go.Proofs.Ytngkhligjkcbmaa

namespace Go.Proofs.Ytngkhligjkcbmaa
open Go.RowKit
set_option linter.unusedVariables false
set_option linter.unusedSimpArgs false

def hintI : Sort.Hint → Int
  | .unknown => 0
  | .increasing => 1
  | .decreasing => 2
def PvP (w : World) (g off n c : Nat) (d : Array Int) (r : Nat × Sort.Hint) (e : Ending) (w' : World) : Prop := e = .returned (.tuple #[.int .i64 (r.1 : Int), .int .i64 (hintI r.2)]) ∧ SoA w g off n c d w'
section
variable {w0 w : World} {g off n c s sw : Nat} {d : Array Int}
theorem SwA.new (h : SoA w0 g off n c d w) : SwA w0 g off n c d w.heap.size 0 (w.alloc (.cells #[.int .i64 0] 3)) :=
  ⟨h.bl (bl_alloc (Below.refl _ _) _), CB.new w 3 #[.int .i64 0], h.2.2.1.size, by have := h.lt; omega⟩
theorem pivot_hint (j r : Nat) : ((j, if r = 0 then Sort.Hint.increasing else if r = 12 then .decreasing else .unknown) : Nat × Sort.Hint).2 = if r = 0 then Sort.Hint.increasing else if r = 12 then .decreasing else .unknown := rfl
set_option maxRecDepth 100000 in
set_option maxHeartbeats 2000000 in
theorem pivotU (a b : Nat) (h8 : a + 8 ≤ b) (hb : b ≤ n) (hm : n ≤ 1000000) (H : SoA w0 g off n c d w) :
    Calls Try.prog 123 #[.slice (some ⟨g, off, none⟩) n c, .int .i64 (a : Int), .int .i64 (b : Int)] w (PvP w0 g off n c d (Sort.choosePivot Sort.ltInt d a b)) := by
  obtain ⟨l, hl⟩ : ∃ l, b - a = l := ⟨_, rfl⟩
  obtain ⟨q, hq⟩ : ∃ q, l / 4 = q := ⟨_, rfl⟩
  obtain ⟨i, hi⟩ : ∃ i, a + q * 1 = i := ⟨_, rfl⟩
  obtain ⟨j, hj⟩ : ∃ i, a + q * 2 = i := ⟨_, rfl⟩
  obtain ⟨k, hk⟩ : ∃ i, a + q * 3 = i := ⟨_, rfl⟩
  obtain ⟨R, hR⟩ : ∃ R, Sort.choosePivot Sort.ltInt d a b = R := ⟨_, rfl⟩
  rw [hR]
  unfold Sort.choosePivot at hR
  simp only [hl, hq, hi, hj, hk] at hR
  rw [if_pos (show l ≥ 8 by omega)] at hR
  have H0 := Lib.hid (SwA.new H)
  have hls : w.heap.size < (w.alloc (.cells #[.int .i64 0] 3)).heap.size := by simp
  have m2 : ∃ z, q * 2 = z := ⟨_, rfl⟩
  obtain ⟨z2, hz2⟩ := m2
  have m3 : ∃ z, q * 3 = z := ⟨_, rfl⟩
  obtain ⟨z3, hz3⟩ := m3
  have e1 : IntKind.i64.wrap ((b : Int) - (a : Int)) = (l : Int) := by rw [IntWalk.i64_in _ (by omega)]; omega
  have e2 : (l : Int).tdiv 4 = (q : Int) := by rw [Int.tdiv_eq_ediv_of_nonneg (by omega)]; omega
  have e3 : IntKind.i64.wrap (q : Int) = (q : Int) := by rw [IntWalk.i64_in _ (by omega)]
  have e4 : IntKind.i64.wrap ((q : Int) * 2) = (z2 : Int) := by rw [IntWalk.i64_in _ (by omega)]; omega
  have e5 : IntKind.i64.wrap ((q : Int) * 3) = (z3 : Int) := by rw [IntWalk.i64_in _ (by omega)]; omega
  have e6 : IntKind.i64.wrap ((a : Int) + (q : Int)) = (i : Int) := by rw [IntWalk.i64_in _ (by omega)]; omega
  have e7 : IntKind.i64.wrap ((a : Int) + (z2 : Int)) = (j : Int) := by rw [IntWalk.i64_in _ (by omega)]; omega
  have e8 : IntKind.i64.wrap ((a : Int) + (z3 : Int)) = (k : Int) := by rw [IntWalk.i64_in _ (by omega)]; omega
  have l8 : (8 : Int) ≤ (l : Int) := by omega
  clear H
  obtain ⟨s, hs⟩ : ∃ s, w.heap.size = s := ⟨_, rfl⟩
  obtain ⟨W0, hW0⟩ : ∃ W0, w.alloc (.cells #[.int .i64 0] 3) = W0 := ⟨_, rfl⟩
  rw [hs, hW0] at H0
  rw [hW0, hs] at hls
  by_cases h50 : 50 ≤ l
  · have l50 : (50 : Int) ≤ (l : Int) := by omega
    rw [if_pos h50] at hR
    have hA1 := fun W => medAdjU (w0 := w0) (w := W) (g := g) (off := off) (n := n) (c := c) (d := d) (s := s) (sw := 0) i (by omega) (by omega) hm (by omega)
    have hx1 := median_lt d (i - 1) i (i + 1) 0 n (by omega) (by omega) (by omega)
    obtain ⟨⟨i1, s1⟩, hr1⟩ : ∃ r, Sort.medianAdjacent Sort.ltInt d i 0 = r := ⟨_, rfl⟩
    rw [← Sort.medianAdjacent] at hx1
    simp only [hr1] at hA1 hR hx1
    have hA2 := fun W => medAdjU (w0 := w0) (w := W) (g := g) (off := off) (n := n) (c := c) (d := d) (s := s) (sw := s1) j (by omega) (by omega) hm (by omega)
    have hx2 := median_lt d (j - 1) j (j + 1) s1 n (by omega) (by omega) (by omega)
    obtain ⟨⟨i2, s2⟩, hr2⟩ : ∃ r, Sort.medianAdjacent Sort.ltInt d j s1 = r := ⟨_, rfl⟩
    rw [← Sort.medianAdjacent] at hx2
    simp only [hr2] at hA2 hR hx2
    have hA3 := fun W => medAdjU (w0 := w0) (w := W) (g := g) (off := off) (n := n) (c := c) (d := d) (s := s) (sw := s2) k (by omega) (by omega) hm (by omega)
    have hx3 := median_lt d (k - 1) k (k + 1) s2 n (by omega) (by omega) (by omega)
    obtain ⟨⟨i3, s3⟩, hr3⟩ : ∃ r, Sort.medianAdjacent Sort.ltInt d k s2 = r := ⟨_, rfl⟩
    rw [← Sort.medianAdjacent] at hx3
    simp only [hr3] at hA3 hR hx3
    have hA4 := fun W => medU (w0 := w0) (w := W) (g := g) (off := off) (n := n) (c := c) (d := d) (s := s) (sw := s3) i1 i2 i3 hx1.1 hx2.1 hx3.1 hm (by omega)
    have hx4 := median_lt d i1 i2 i3 s3 n hx1.1 hx2.1 hx3.1
    obtain ⟨⟨i4, s4⟩, hr4⟩ : ∃ r, Sort.median Sort.ltInt d i1 i2 i3 s3 = r := ⟨_, rfl⟩
    simp only [hr4] at hA4 hR hx4
    have HA1 := Lib.hid hA1
    have HA2 := Lib.hid hA2
    have HA3 := Lib.hid hA3
    have HA4 := Lib.hid hA4
    have HR := Lib.hid hR
    clear hA1 hA2 hA3 hA4 hr1 hr2 hr3 hr4 hR hx1 hx2 hx3
    go_enter Try.func123, Try.ntmps123
    go_upto_region 3 with (fail)
    go_upto_region 9 with (go_at_call 135; refine (HA1.out _ H0.out).mono ?_; rintro e w1 ⟨rfl, hN⟩; have HN := Lib.hid hN; clear hN)
    go_upto_region 10 with (go_at_call 135; refine (HA2.out _ HN.out).mono ?_; rintro e w1 ⟨rfl, hN⟩; have HN2 := Lib.hid hN; clear hN)
    go_upto_region 11 with (go_at_call 135; refine (HA3.out _ HN2.out).mono ?_; rintro e w1 ⟨rfl, hN⟩; have HN3 := Lib.hid hN; clear hN)
    go_upto_region 12 with (go_at_call 136; refine (HA4.out _ HN3.out).mono ?_; rintro e w1 ⟨rfl, hN⟩; have HN4 := Lib.hid hN; have cs : w1.cell? ⟨s, 0, none⟩ = some (.int .i64 (s4 : Int)) := hN.2.1.cell 0; have hl1 := hN.2.1.lt; clear hN)
    by_cases h0 : s4 = 0
    · have h0i : (s4 : Int) = 0 := by omega
      go_wp2
      refine bodyPost_ret (v := .tuple #[.int .i64 (i4 : Int), .int .i64 1]) (by simp [results, Try.results123, go_sem]) rfl ?_
      exact ⟨by rw [← HR.out, if_pos h0]; rfl, HN4.out.1⟩
    · by_cases h1 : s4 = 12
      · have h0i : ¬ (s4 : Int) = 0 := by omega
        have h1i : (s4 : Int) = 12 := by omega
        go_wp2
        refine bodyPost_ret (v := .tuple #[.int .i64 (i4 : Int), .int .i64 2]) (by simp [results, Try.results123, go_sem]) rfl ?_
        exact ⟨by rw [← HR.out, if_neg h0, if_pos h1]; rfl, HN4.out.1⟩
      · have h0i : ¬ (s4 : Int) = 0 := by omega
        have h1i : ¬ (s4 : Int) = 12 := by omega
        go_wp2
        refine bodyPost_ret (v := .tuple #[.int .i64 (i4 : Int), .int .i64 0]) (by simp [results, Try.results123, go_sem]) rfl ?_
        exact ⟨by rw [← HR.out, if_neg h0, if_neg h1]; rfl, HN4.out.1⟩
  · have l50 : ¬ (50 : Int) ≤ (l : Int) := by omega
    rw [if_neg h50] at hR
    have hA4 := fun W => medU (w0 := w0) (w := W) (g := g) (off := off) (n := n) (c := c) (d := d) (s := s) (sw := 0) i j k (by omega) (by omega) (by omega) hm (by omega)
    have hx4 := median_lt d i j k 0 n (by omega) (by omega) (by omega)
    obtain ⟨⟨i4, s4⟩, hr4⟩ : ∃ r, Sort.median Sort.ltInt d i j k 0 = r := ⟨_, rfl⟩
    simp only [hr4] at hA4 hR hx4
    have HA4 := Lib.hid hA4
    have HR := Lib.hid hR
    clear hA4 hr4 hR
    go_enter Try.func123, Try.ntmps123
    go_upto_region 3 with (fail)
    go_upto_region 12 with (go_at_call 136; refine (HA4.out _ H0.out).mono ?_; rintro e w1 ⟨rfl, hN⟩; have HN4 := Lib.hid hN; have cs : w1.cell? ⟨s, 0, none⟩ = some (.int .i64 (s4 : Int)) := hN.2.1.cell 0; have hl1 := hN.2.1.lt; clear hN)
    by_cases h0 : s4 = 0
    · have h0i : (s4 : Int) = 0 := by omega
      go_wp2
      refine bodyPost_ret (v := .tuple #[.int .i64 (i4 : Int), .int .i64 1]) (by simp [results, Try.results123, go_sem]) rfl ?_
      exact ⟨by rw [← HR.out, if_pos h0]; rfl, HN4.out.1⟩
    · by_cases h1 : s4 = 12
      · have h0i : ¬ (s4 : Int) = 0 := by omega
        have h1i : (s4 : Int) = 12 := by omega
        go_wp2
        refine bodyPost_ret (v := .tuple #[.int .i64 (i4 : Int), .int .i64 2]) (by simp [results, Try.results123, go_sem]) rfl ?_
        exact ⟨by rw [← HR.out, if_neg h0, if_pos h1]; rfl, HN4.out.1⟩
      · have h0i : ¬ (s4 : Int) = 0 := by omega
        have h1i : ¬ (s4 : Int) = 12 := by omega
        go_wp2
        refine bodyPost_ret (v := .tuple #[.int .i64 (i4 : Int), .int .i64 0]) (by simp [results, Try.results123, go_sem]) rfl ?_
        exact ⟨by rw [← HR.out, if_neg h0, if_neg h1]; rfl, HN4.out.1⟩
end
end Go.Proofs.Ytngkhligjkcbmaa

namespace Go.Proofs.Ytngkhligjkcbmaa
open Go.RowKit
set_option linter.unusedVariables false
set_option linter.unusedSimpArgs false

set_option maxRecDepth 100000 in
set_option maxHeartbeats 4000000 in
theorem revU (w0 w : World) (g off n c a b : Nat) (d0 : Array Int) (hab : a < b) (hbn : b ≤ n) (hm : n ≤ 1000000) (hS : SoA w0 g off n c d0 w) :
    Calls Try.prog 124 #[.slice (some ⟨g, off, none⟩) n c, .int .i64 (a : Int), .int .i64 (b : Int)] w (SoP w0 g off n c (Sort.reverseRange d0 a b)) := by
  have HI0 := Lib.hid hS
  obtain ⟨D, hD⟩ : ∃ D, Sort.reverseRange d0 a b = D := ⟨_, rfl⟩
  obtain ⟨b1, hb1⟩ : ∃ x, b - 1 = x := ⟨_, rfl⟩
  rw [hD]
  rw [Sort.reverseRange, hb1] at hD
  have HD := Lib.hid hD
  have e0 : IntKind.i64.wrap ((b : Int) - 1) = (b1 : Int) := by rw [IntWalk.i64_in _ (by omega)]; omega
  clear hS hD
  go_enter Try.func124, Try.ntmps124
  go_wp2
  go_loopw [6, 7, 11, 12, 13, 14, 15, 16, 17, 18, 19, 20, 21, 22, 23, 24, 25, 26, 27, 28, 29, 30, 31] (fun i j _ _ _ _ _ _ _ _ _ _ _ _ _ _ _ _ _ _ _ _ _ wr => ∃ (k l : Nat) (ys : Array Int), k ≤ n ∧ l < n ∧ i = .int .i64 (k : Int) ∧ j = .int .i64 (l : Int) ∧ SoA w0 g off n c ys wr ∧ Sort.reverseLoop k l ys = D) (fun i j _ _ _ _ _ _ _ _ _ _ _ _ _ _ _ _ _ _ _ _ _ _ => (intOf j - intOf i).toNat)
  case atStart => exact ⟨a, b1, d0, by omega, by omega, rfl, rfl, HI0.out, HD.out⟩
  case round =>
    clear HI0 HD
    obtain ⟨k, l, ys, hk, hl, rfl, rfl, hI, hSo⟩ := hrel
    have HI := Lib.hid hI
    have HSO := Lib.hid hSo
    have hgl := hI.lt
    have fz := hI.1.unfrozen
    have u0 := hI.word (i := k)
    have u1 := hI.word (i := l) hl
    clear hI hSo
    by_cases hlt : k < l
    · have hlt' : (k : Int) < (l : Int) := by omega
      have u0 := u0 (by omega)
      obtain ⟨y0, hy0⟩ : ∃ x, ys[k]! = x := ⟨_, rfl⟩
      obtain ⟨y1, hy1⟩ : ∃ x, ys[l]! = x := ⟨_, rfl⟩
      have HSW : Hid (∀ m, SoA w0 g off n c (Sort.swp ys k l) (((wr.drewN m).setCell ⟨g, off + k, none⟩ (.int .u64 y1)).setCell ⟨g, off + l, none⟩ (.int .u64 y0))) := by
        intro m
        have h2 := (HI.out.drewN m).swap (i := k) (j := l) (by omega) (by omega)
        rwa [hy0, hy1] at h2
      rw [hy0] at u0
      rw [hy1] at u1
      obtain ⟨k1, hk1⟩ : ∃ x, k + 1 = x := ⟨_, rfl⟩
      obtain ⟨l1, hl1⟩ : ∃ x, l - 1 = x := ⟨_, rfl⟩
      have HK := Lib.hid hk1
      have HL := Lib.hid hl1
      have e1 : IntKind.i64.wrap ((k : Int) + 1) = (k1 : Int) := by rw [IntWalk.i64_in _ (by omega)]; omega
      have e2 : IntKind.i64.wrap ((l : Int) - 1) = (l1 : Int) := by rw [IntWalk.i64_in _ (by omega)]; omega
      have i0 : (k : Int) < (n : Int) := by omega
      have i1 : (l : Int) < (n : Int) := by omega
      have z0 : (0 : Int) ≤ (k : Int) := by omega
      have z1 : (0 : Int) ≤ (l : Int) := by omega
      have hpn : ¬ k = l := by omega
      have hpn' : ¬ l = k := by omega
      clear hy0 hy1 hk1 hl1
      go_upto_region 3 with (fail)
      refine ord_reads [] [.p [0, 1, 2, 3, 4, 5, 8, 9], .q [6, 7, 10, 11, 12], .h [13, 14, 15]] (by kernel_rfl) (fun _ _ d _ _ h => by cases d <;> exact h) (by kernel_rfl) ?_
      (dsimp only [pick, List.filterMap, List.getElem?_cons_zero, List.getElem?_cons_succ]; refine wpQuiet_nil ?_; rintro _ ⟨nq1, rfl⟩; with_reducible refine part_pure ?_; dsimp only [pick, List.filterMap, List.getElem?_cons_zero, List.getElem?_cons_succ]; (repeat (first | (refine pure_ex rfl ?_; apply Exists.intro; apply And.intro; (intro w; go_simp; rfl); simp only [Act.put, List.setIfInBounds_toArray, List.set_cons_succ, List.set_cons_zero]) | (refine pure_skip rfl ?_; simp only [Act.put, List.setIfInBounds_toArray, List.set_cons_succ, List.set_cons_zero]))); refine pure_nil ?_; with_reducible refine part_reads ?_; dsimp only [pick, List.filterMap, List.getElem?_cons_zero, List.getElem?_cons_succ]; (repeat (go_big_quiet_step (fail))); refine wpQuiet_nil ?_; rintro _ ⟨nq2, rfl⟩; with_reducible refine part_hard ?_; dsimp only [pick, List.filterMap, List.getElem?_cons_zero, List.getElem?_cons_succ]; go_wp2; with_reducible refine segs_end ?_; with_reducible refine part_nil ?_; go_wp2)
      exact ⟨⟨k1, l1, _, by have := HK.out; omega, by have := HL.out; omega, rfl, rfl, HSW.out _, by have h := HSO.out; rw [Sort.reverseLoop, if_pos hlt, HK.out, HL.out] at h; exact h⟩, by have := HK.out; have := HL.out; simp [intOf] <;> omega⟩
    · have hlt' : ¬ (k : Int) < (l : Int) := by omega
      go_wp2
      go_end0
      exact ⟨rfl, by have h := HSO.out; rw [Sort.reverseLoop, if_neg hlt] at h; rw [← h]; exact HI.out⟩

/-- What the test for order leaves. -/
def PiP (w : World) (g off n c : Nat) (r : Array Int × Bool) (e : Ending) (w' : World) : Prop := e = .returned (.bool r.2) ∧ SoA w g off n c r.1 w'
theorem partIns_short {lt : Int → Int → Bool} {d : Array Int} {a b : Nat} (h : b - a < 50 ∨ Sort.scanSorted lt d b (a + 1) = b) : Sort.partialInsertionSort lt d a b = (d, decide (Sort.scanSorted lt d b (a + 1) = b)) := by
  unfold Sort.partialInsertionSort
  rw [Sort.partialIns]
  by_cases he : Sort.scanSorted lt d b (a + 1) = b
  · simp [he]
  · have := h.resolve_right he
    simp [he, this]
theorem scan_go {lt : Int → Int → Bool} {d : Array Int} {b k p : Nat} (hk : k < b) (hp : k - 1 = p) (h : lt d[k]! d[p]! = false) : Sort.scanSorted lt d b k = Sort.scanSorted lt d b (k + 1) := by
  rw [Sort.scanSorted, if_pos (by rw [hp, h]; simpa using hk)]
theorem scan_end {lt : Int → Int → Bool} {d : Array Int} {b k p : Nat} (hp : k - 1 = p) (h : ¬ k < b ∨ lt d[k]! d[p]! = true) : Sort.scanSorted lt d b k = k := by
  rw [Sort.scanSorted, if_neg]
  rcases h with h | h
  · simp [h]
  · rw [hp, h]; simp
set_option maxRecDepth 100000 in
set_option maxHeartbeats 4000000 in
theorem partInsU (w0 w : World) (g off n c a b : Nat) (d0 : Array Int) (hab : a < b) (hbn : b ≤ n) (hm : n ≤ 1000000) (h50 : b - a < 50 ∨ Sort.scanSorted Sort.ltInt d0 b (a + 1) = b) (hS : SoA w0 g off n c d0 w) :
    Calls Try.prog 125 #[.slice (some ⟨g, off, none⟩) n c, .int .i64 (a : Int), .int .i64 (b : Int)] w (PiP w0 g off n c (Sort.partialInsertionSort Sort.ltInt d0 a b)) := by
  rw [partIns_short h50]
  have HI0 := Lib.hid hS
  obtain ⟨D, hD⟩ : ∃ D, Sort.scanSorted Sort.ltInt d0 b (a + 1) = D := ⟨_, rfl⟩
  rw [hD] at h50 ⊢
  have HD := Lib.hid hD
  have e0 : IntKind.i64.wrap ((a : Int) + 1) = ((a + 1 : Nat) : Int) := by rw [IntWalk.i64_in _ (by omega)]; omega
  have e9 : IntKind.i64.wrap ((b : Int) - (a : Int)) = (b : Int) - (a : Int) := by rw [IntWalk.i64_in _ (by omega)]
  clear hS hD
  go_enter Try.func125, Try.ntmps125
  go_wp2
  refine wp_loop_rounds 1 ?_
  rw [rounds_succ]
  go_wp2
  go_loopw [7, 17, 18, 19, 20, 21, 22, 23, 24, 25, 26, 27, 28, 29, 30, 31, 32, 33, 34] (fun i _ _ _ _ _ _ _ _ _ _ _ _ _ _ _ _ _ _ wr => ∃ (k : Nat), a < k ∧ k ≤ b ∧ i = .int .i64 (k : Int) ∧ SoA w0 g off n c d0 wr ∧ Sort.scanSorted Sort.ltInt d0 b k = D) (fun i _ _ _ _ _ _ _ _ _ _ _ _ _ _ _ _ _ _ _ => b - (intOf i).toNat)
  case atStart => exact ⟨a + 1, by omega, by omega, by go_num, HI0.out, HD.out⟩
  case round =>
    clear HI0 HD
    obtain ⟨k, hak, hk, rfl, hI, hSo⟩ := hrel
    have HI := Lib.hid hI
    have HSO := Lib.hid hSo
    have hgl := hI.lt
    clear hI hSo
    obtain ⟨p, hp⟩ : ∃ p, k - 1 = p := ⟨_, rfl⟩
    obtain ⟨k1, hk1⟩ : ∃ x, k + 1 = x := ⟨_, rfl⟩
    have e1 : IntKind.i64.wrap ((k : Int) - 1) = (p : Int) := by rw [IntWalk.i64_in _ (by omega)]; omega
    have e2 : IntKind.i64.wrap ((k : Int) + 1) = (k1 : Int) := by rw [IntWalk.i64_in _ (by omega)]; omega
    have HK := Lib.hid hk1
    have HP := Lib.hid hp
    by_cases hlt : k < b
    · have hd2 : decide ((k : Int) < (b : Int)) = true := decide_eq_true (by omega)
      have u0 := HI.out.word (i := k) (by omega)
      have u1 := HI.out.word (i := p) (by omega)
      obtain ⟨y0, hy0⟩ : ∃ x, d0[k]! = x := ⟨_, rfl⟩
      obtain ⟨y1, hy1⟩ : ∃ x, d0[p]! = x := ⟨_, rfl⟩
      rw [hy0] at u0
      rw [hy1] at u1
      have i0 : (k : Int) < (n : Int) := by omega
      have i1 : (p : Int) < (n : Int) := by omega
      have z0 : (0 : Int) ≤ (k : Int) := by omega
      have z1 : (0 : Int) ≤ (p : Int) := by omega
      have HY0 := Lib.hid hy0
      have HY1 := Lib.hid hy1
      clear hy0 hy1 hp hk1
      by_cases hsw : y0 < y1
      · have hds : decide (y0 < y1) = true := decide_eq_true hsw
        have HE := Lib.hid (scan_end (lt := Sort.ltInt) (d := d0) (b := b) HP.out (.inr (by rw [HY0.out, HY1.out]; exact decide_eq_true hsw)))
        go_upto_region 5 with (fail)
        refine wp_region_quiet_lit (by kernel_rfl) (by kernel_rfl) ?_
        repeat (go_big_quiet_step ((go_at_call 126; exact q_same (lessU _ _ _))))
        refine wpQuiet_nil ?_
        rintro _ ⟨nr, rfl⟩
        have hDk : D = k := HSO.out.symm.trans HE.out
        have hne : ¬ (k : Int) = (b : Int) := by omega
        have h50' : ((b : Int) - (a : Int)) < 50 := by
          rcases h50 with h | h
          · omega
          · omega
        go_wp2
        refine bodyPost_ret (v := .bool false) (by simp [results, Try.results125, go_sem]) rfl ?_
        exact ⟨by rw [decide_eq_false (by omega)], HI.out.drewN nr⟩
      · have hds : decide (y0 < y1) = false := decide_eq_false hsw
        have HE := Lib.hid (scan_go (lt := Sort.ltInt) (d := d0) hlt HP.out (by rw [HY0.out, HY1.out]; exact decide_eq_false hsw))
        go_upto_region 5 with (fail)
        refine wp_region_quiet_lit (by kernel_rfl) (by kernel_rfl) ?_
        repeat (go_big_quiet_step ((go_at_call 126; exact q_same (lessU _ _ _))))
        refine wpQuiet_nil ?_
        rintro _ ⟨nr, rfl⟩
        go_wp2
        exact ⟨⟨k1, by have := HK.out; omega, by have := HK.out; omega, rfl, HI.out.drewN nr, by rw [← HK.out, ← HE.out]; exact HSO.out⟩, by have := HK.out; simp [intOf] <;> omega⟩
    · obtain rfl : k = b := by omega
      have hd2 : decide ((k : Int) < (k : Int)) = false := decide_eq_false (by omega)
      have HE := Lib.hid (scan_end (lt := Sort.ltInt) (d := d0) (b := k) HP.out (.inl (by omega)))
      have hDk : D = k := HSO.out.symm.trans HE.out
      clear hp hk1
      go_upto_region 5 with (fail)
      refine wp_region_quiet_lit (by kernel_rfl) (by kernel_rfl) ?_
      repeat (go_big_quiet_step (fail))
      refine wpQuiet_nil ?_
      rintro _ ⟨nr, rfl⟩
      go_wp2
      refine bodyPost_ret (v := .bool true) (by simp [results, Try.results125, go_sem]) rfl ?_
      exact ⟨by rw [decide_eq_true hDk], HI.out.drewN nr⟩
end Go.Proofs.Ytngkhligjkcbmaa

namespace Go.Proofs.Ytngkhligjkcbmaa
open Go.RowKit
set_option linter.unusedVariables false
set_option linter.unusedSimpArgs false

theorem lenTab {T : ByteArray} (n : Nat) (hn : n < T.size) (hT : T.data.toList.map UInt8.toNat = (List.range 256).map Sort.bitsLen) : (T[n].toNat : Nat) = Sort.bitsLen n := by
  have h1 : (T.data.toList.map UInt8.toNat)[n]? = some (T[n].toNat) := by
    have : n < T.data.size := hn
    simp only [List.getElem?_map, Array.getElem?_toList, Array.getElem?_eq_getElem this, Option.map_some]; rfl
  have h2 : n < 256 := by
    have := congrArg List.length hT
    simp at this
    have h3 : T.size = T.data.size := rfl
    omega
  rw [hT] at h1
  simpa [h2] using h1.symm
theorem bitsLen_small {n k : Nat} (h : n < 2 ^ k) : Sort.bitsLen n ≤ k := (Sort.bitsLen_le_iff n k).2 h
set_option maxRecDepth 100000 in
set_option maxHeartbeats 1000000 in
theorem len64_x (w : World) (n : Nat) (hm : n < 256) : Calls Try.prog 119 #[.int .u64 (n : Int)] w fun e w' => e = .returned (.int .i64 (Sort.bitsLen n : Nat)) ∧ w = w' := by
  have e1 : ¬ (4294967296 : Int) ≤ (n : Int) := by omega
  have e2 : ¬ (65536 : Int) ≤ (n : Int) := by omega
  have e3 : ¬ (256 : Int) ≤ (n : Int) := by omega
  have e4 : IntKind.u8.wrap (n : Int) = (n : Int) := by rw [IntKind.wrap_u8]; omega
  have h8 : Sort.bitsLen n ≤ 8 := bitsLen_small hm
  go_enter Try.func119, Try.ntmps119
  go_wp2
  go_ret
  refine ⟨congrArg (fun z => Ending.returned (.int .i64 z)) ((congrArg (fun z : Nat => wrap64 (wrap64 (z : Int))) (lenTab n _ (by kernel_rfl))).trans ?_), rfl⟩
  have e5 : wrap64 (Sort.bitsLen n : Int) = (Sort.bitsLen n : Int) := by unfold wrap64; omega
  show wrap64 (wrap64 (Sort.bitsLen n : Int)) = _
  rw [e5, e5]
set_option maxRecDepth 100000 in
set_option maxHeartbeats 1000000 in
theorem len_x (w : World) (n : Nat) (hm : n < 256) : Calls Try.prog 101 #[.int .u64 (n : Int)] w fun e w' => e = .returned (.int .i64 (Sort.bitsLen n : Nat)) ∧ w = w' := by
  have HI := Lib.hid (fun w => len64_x w n hm)
  have e1 : IntKind.u64.wrap (n : Int) = (n : Int) := IntWalk.u64_in _ (by omega)
  go_enter Try.func101, Try.ntmps101
  go_wp2_with (go_at_call 119; refine (HI.out _).mono ?_; rintro e w' ⟨rfl, rfl⟩)
  go_ret
  exact ⟨rfl, rfl⟩
set_option maxRecDepth 100000 in
set_option maxHeartbeats 1000000 in
theorem nextPow_x (w : World) (n : Nat) (hm : n < 256) : Calls Try.prog 130 #[.int .i64 (n : Int)] w fun e w' => e = .returned (.int .u64 ((1 <<< Sort.bitsLen n : Nat) : Int)) ∧ w = w' := by
  have HI := Lib.hid (fun w => len_x w n hm)
  have e1 : IntKind.u64.wrap (n : Int) = (n : Int) := IntWalk.u64_in _ (by omega)
  have h8 : Sort.bitsLen n ≤ 8 := bitsLen_small hm
  obtain ⟨k, hk⟩ : ∃ k, Sort.bitsLen n = k := ⟨_, rfl⟩
  rw [hk] at HI ⊢ h8
  clear hk
  have e2 : IntKind.u64.wrap ((2 : Int) ^ k) = ((1 <<< k : Nat) : Int) := by
    rw [Nat.one_shiftLeft]
    have : (2 : Nat) ^ k ≤ 2 ^ 8 := Nat.pow_le_pow_right (by omega) h8
    rw [show ((2 : Int) ^ k) = ((2 ^ k : Nat) : Int) by push_cast; rfl]
    generalize 2 ^ k = q at this ⊢
    exact IntWalk.u64_in _ (by omega)
  obtain ⟨r, hr⟩ : ∃ r : Nat, 1 <<< k = r := ⟨_, rfl⟩
  rw [hr] at e2 ⊢
  clear hr
  go_enter Try.func130, Try.ntmps130
  go_wp2_with (go_at_call 101; refine (HI.out _).mono ?_; rintro e w' ⟨rfl, rfl⟩)
  go_ret
  exact ⟨rfl, rfl⟩
end Go.Proofs.Ytngkhligjkcbmaa

namespace Go.Proofs.Ytngkhligjkcbmaa
open Go.RowKit
set_option linter.unusedVariables false
set_option linter.unusedSimpArgs false

def XnP (w : World) (s : Nat) (Y : Nat) (e : Ending) (w' : World) : Prop := e = .returned (.int .u64 (Y : Int)) ∧ CB w' s 176 #[.int .u64 (Y : Int)] ∧ Ch (At s) w w'
set_option maxRecDepth 100000 in
set_option maxHeartbeats 2000000 in
theorem xorNext_x (w : World) (s X : Nat) (hX : X < 18446744073709551616) (hC : CB w s 176 #[.int .u64 (X : Int)]) : Calls Try.prog 131 #[.pointer (some ⟨s, 0, none⟩)] w (XnP w s (Sort.xorNextN X)) := by
  obtain ⟨A, hA⟩ : ∃ A : Nat, A = X ^^^ (X * 8192 % 18446744073709551616) := ⟨_, rfl⟩
  obtain ⟨B, hB⟩ : ∃ B : Nat, B = A ^^^ (A / 128) := ⟨_, rfl⟩
  obtain ⟨C, hCC⟩ : ∃ C : Nat, C = B ^^^ (B * 131072 % 18446744073709551616) := ⟨_, rfl⟩
  have lA : A < 18446744073709551616 := by rw [hA]; exact Nat.xor_lt_two_pow (n := 64) (by omega) (by omega)
  have lB : B < 18446744073709551616 := by rw [hB]; exact Nat.xor_lt_two_pow (n := 64) (by omega) (by omega)
  have e1 : bits .xor .u64 (X : Int) (IntKind.u64.wrap ((X : Int) * 8192)) = (A : Int) := by
    rw [IntKind.wrap_u64, show ((X : Int) * 8192 % 18446744073709551616) = ((X * 8192 % 18446744073709551616 : Nat) : Int) by omega, bits_xor_u64_nat _ _ hX (by omega), hA]
  have e2 : bits .xor .u64 (A : Int) ((A : Int) / 128) = (B : Int) := by
    rw [show ((A : Int) / 128) = ((A / 128 : Nat) : Int) by omega, bits_xor_u64_nat _ _ lA (by omega), hB]
  have e3 : bits .xor .u64 (B : Int) (IntKind.u64.wrap ((B : Int) * 131072)) = (C : Int) := by
    rw [IntKind.wrap_u64, show ((B : Int) * 131072 % 18446744073709551616) = ((B * 131072 % 18446744073709551616 : Nat) : Int) by omega, bits_xor_u64_nat _ _ lB (by omega), hCC]
  have hv : Sort.xorNextN X = C := by unfold Sort.xorNextN; simp only []; rw [← hA, ← hB, ← hCC]
  rw [hv]
  have HC := Lib.hid hC
  have c0 : w.cell? ⟨s, 0, none⟩ = some (.int .u64 (X : Int)) := hC.cell 0
  have f0 := hC.frozen 0
  have hl := hC.lt
  clear hA hB hCC hv hC
  go_enter Try.func131, Try.ntmps131
  go_upto_region 1 with (fail)
  refine ord_reads [0, 1, 2, 3, 4, 5, 6, 7, 8] [.h [9]] (by kernel_rfl) (fun _ _ d _ _ h => by cases d <;> exact h) (by kernel_rfl) ?_
  dsimp only [pick, List.filterMap, List.getElem?_cons_zero, List.getElem?_cons_succ]
  (repeat (go_big_quiet_step (fail))); refine wpQuiet_nil ?_
  rintro _ ⟨m1, rfl⟩
  with_reducible refine part_hard ?_
  dsimp only [pick, List.filterMap, List.getElem?_cons_zero, List.getElem?_cons_succ]
  go_wp2
  with_reducible refine segs_end ?_
  with_reducible refine part_nil ?_
  obtain ⟨w1, hw1⟩ : ∃ w1, (w.drewN m1).setCell ⟨s, 0, none⟩ (.int .u64 (A : Int)) = w1 := ⟨_, rfl⟩
  have hC1 : CB w1 s 176 #[.int .u64 (A : Int)] := by rw [← hw1]; exact (HC.out.drewN m1).set 0 _
  have HCh1 : Hid (Ch (At s) w w1) := by show Ch _ _ _; rw [← hw1]; exact ((Ch.refl _ _).drewN m1).set1 0 _
  have HC1 := Lib.hid hC1
  have c1 : w1.cell? ⟨s, 0, none⟩ = some (.int .u64 (A : Int)) := hC1.cell 0
  have f1 := hC1.frozen 0
  have hl1 := hC1.lt
  rw [hw1]
  clear hC1 hw1
  go_upto_region 2 with (fail)
  refine ord_reads [0, 1, 2, 3, 4, 5, 6, 7, 8] [.h [9]] (by kernel_rfl) (fun _ _ d _ _ h => by cases d <;> exact h) (by kernel_rfl) ?_
  dsimp only [pick, List.filterMap, List.getElem?_cons_zero, List.getElem?_cons_succ]
  (repeat (go_big_quiet_step (fail))); refine wpQuiet_nil ?_
  rintro _ ⟨m2, rfl⟩
  with_reducible refine part_hard ?_
  dsimp only [pick, List.filterMap, List.getElem?_cons_zero, List.getElem?_cons_succ]
  go_wp2
  with_reducible refine segs_end ?_
  with_reducible refine part_nil ?_
  obtain ⟨w2, hw2⟩ : ∃ w2, (w1.drewN m2).setCell ⟨s, 0, none⟩ (.int .u64 (B : Int)) = w2 := ⟨_, rfl⟩
  have hC2 : CB w2 s 176 #[.int .u64 (B : Int)] := by rw [← hw2]; exact (HC1.out.drewN m2).set 0 _
  have HCh2 : Hid (Ch (At s) w w2) := by show Ch _ _ _; rw [← hw2]; exact (HCh1.out.drewN m2).set1 0 _
  have HC2 := Lib.hid hC2
  have c2 : w2.cell? ⟨s, 0, none⟩ = some (.int .u64 (B : Int)) := hC2.cell 0
  have f2 := hC2.frozen 0
  have hl2 := hC2.lt
  rw [hw2]
  clear hC2 hw2
  go_upto_region 3 with (fail)
  refine ord_reads [0, 1, 2, 3, 4, 5, 6, 7, 8] [.h [9]] (by kernel_rfl) (fun _ _ d _ _ h => by cases d <;> exact h) (by kernel_rfl) ?_
  dsimp only [pick, List.filterMap, List.getElem?_cons_zero, List.getElem?_cons_succ]
  (repeat (go_big_quiet_step (fail))); refine wpQuiet_nil ?_
  rintro _ ⟨m3, rfl⟩
  with_reducible refine part_hard ?_
  dsimp only [pick, List.filterMap, List.getElem?_cons_zero, List.getElem?_cons_succ]
  go_wp2
  with_reducible refine segs_end ?_
  with_reducible refine part_nil ?_
  go_wp2
  go_ret
  exact ⟨rfl, (HC2.out.drewN m3).set 0 _, (HCh2.out.drewN m3).set1 0 _⟩

/-- The slice, and the random number in a block of its own. -/
def BkA (w : World) (g off n c : Nat) (d : Array Int) (s Y : Nat) (wr : World) : Prop := SoA w g off n c d wr ∧ CB wr s 176 #[.int .u64 (Y : Int)] ∧ w.heap.size ≤ s ∧ ¬ s = g
section
variable {w wr w' : World} {g off n c i j s Y Z : Nat} {d : Array Int}
theorem BkA.next (h : BkA w g off n c d s Y wr) (hC : CB w' s 176 #[.int .u64 (Z : Int)]) (hh : Ch (At s) wr w') : BkA w g off n c d s Z w' :=
  ⟨⟨h.1.1.keep (fun b hb => hh.block b (h.1.1.lt hb) (fun he => h.2.2.2 ((show b = s from he).symm.trans (by simpa [OwnB, eq_comm] using hb)))), h.1.2.1, h.1.2.2.1.trans hh (fun b hb hl => by have h1 : b = s := hb; have := h.2.2.1; omega), (bsz_keep (hh.block g h.1.lt (fun he => h.2.2.2 (show g = s from he).symm))).trans h.1.2.2.2⟩, hC, h.2.2⟩
theorem BkA.swap (h : BkA w g off n c d s Y wr) (m : Nat) (hi : i < n) (hj : j < n) : BkA w g off n c (Sort.swp d i j) s Y (((wr.drewN m).setCell ⟨g, off + i, none⟩ (.int .u64 d[j]!)).setCell ⟨g, off + j, none⟩ (.int .u64 d[i]!)) :=
  ⟨(h.1.drewN m).swap hi hj, ((h.2.1.drewN m).far (p := ⟨g, off + i, none⟩) h.2.2.2 _).far (p := ⟨g, off + j, none⟩) h.2.2.2 _, h.2.2⟩
end
def brkRest (a L M : Nat) (x : Nat) : Nat → UInt64 × Array Int → Array Int
  | 0, st => st.2
  | k + 1, st => brkRest a L M (x + 1) k (Sort.breakStep a L M st x)
theorem brk_eq (d : Array Int) (a b L : Nat) (hL : b - a = L) (h8 : 8 ≤ L) : Sort.breakPatterns d a b = brkRest a L (1 <<< Sort.bitsLen L) (a + L / 4 * 2 - 1) 3 (UInt64.ofNat L, d) := by
  unfold Sort.breakPatterns
  simp only [hL]
  rw [if_pos h8]
  rfl
theorem brk_step (a L M x : Nat) (r : UInt64) (ys : Array Int) (O : Nat) (hO : (Sort.xorNext r).toNat &&& (M - 1) = O) : Sort.breakStep a L M (r, ys) x = (Sort.xorNext r, Sort.swp ys x (a + if O ≥ L then O - L else O)) := by
  unfold Sort.breakStep
  simp only [hO]
set_option maxRecDepth 100000 in
set_option maxHeartbeats 4000000 in
theorem breakU (w0 w : World) (g off n c a b : Nat) (d0 : Array Int) (h8 : a + 8 ≤ b) (hL : b - a < 256) (hbn : b ≤ n) (hm : n ≤ 1000000) (hS : SoA w0 g off n c d0 w) :
    Calls Try.prog 122 #[.slice (some ⟨g, off, none⟩) n c, .int .i64 (a : Int), .int .i64 (b : Int)] w (SoP w0 g off n c (Sort.breakPatterns d0 a b)) := by
  obtain ⟨L, hL1⟩ : ∃ L, b - a = L := ⟨_, rfl⟩
  obtain ⟨D, hD⟩ : ∃ D, Sort.breakPatterns d0 a b = D := ⟨_, rfl⟩
  rw [hD]
  rw [brk_eq d0 a b L hL1 (by omega)] at hD
  have HNP := Lib.hid (fun w => nextPow_x w L (by omega))
  have hM2 := Sort.two_pow_bitsLen_le (n := L) (by omega)
  have hM1 := Sort.lt_two_pow_bitsLen L
  rw [← Nat.one_shiftLeft] at hM1 hM2
  obtain ⟨M, hM⟩ : ∃ M, 1 <<< Sort.bitsLen L = M := ⟨_, rfl⟩
  rw [hM] at hD HNP hM1 hM2
  obtain ⟨f, hf⟩ : ∃ q, L / 4 = q := ⟨_, rfl⟩
  obtain ⟨f2, hf2⟩ : ∃ q, f * 2 = q := ⟨_, rfl⟩
  obtain ⟨x0, hx0⟩ : ∃ x, a + f2 - 1 = x := ⟨_, rfl⟩
  rw [hf, hf2, hx0] at hD
  have HD := Lib.hid hD
  have e1 : IntKind.i64.wrap ((b : Int) - (a : Int)) = (L : Int) := by rw [IntWalk.i64_in _ (by omega)]; omega
  have e2 : (L : Int).tdiv 4 = (f : Int) := by rw [Int.tdiv_eq_ediv_of_nonneg (by omega)]; omega
  have e3 : IntKind.i64.wrap (f : Int) = (f : Int) := by rw [IntWalk.i64_in _ (by omega)]
  have e4 : IntKind.i64.wrap ((f : Int) * 2) = (f2 : Int) := by rw [IntWalk.i64_in _ (by omega)]; omega
  have e5 : IntKind.i64.wrap ((a : Int) + (f2 : Int)) = (a : Int) + (f2 : Int) := by rw [IntWalk.i64_in _ (by omega)]
  have e6 : IntKind.i64.wrap ((a : Int) + (f2 : Int) - 1) = (x0 : Int) := by rw [IntWalk.i64_in _ (by omega)]; omega
  have e7 : IntKind.i64.wrap ((a : Int) + (f2 : Int) + 1) = (a : Int) + (f2 : Int) + 1 := by rw [IntWalk.i64_in _ (by omega)]
  have e8 : IntKind.u64.wrap (L : Int) = (L : Int) := IntWalk.u64_in _ (by omega)
  have e9 : IntKind.u64.wrap ((M : Int) - 1) = ((M - 1 : Nat) : Int) := by rw [IntWalk.u64_in _ (by omega)]; omega
  have l8 : (8 : Int) ≤ (L : Int) := by omega
  have hs := hS.2.2.1.size
  have hsg := hS.lt
  have HI0 : Hid (BkA w0 g off n c d0 w.heap.size (UInt64.ofNat L).toNat (w.alloc (.cells #[.int .u64 (L : Int)] 176))) := by
    have hh : (UInt64.ofNat L).toNat = L := by simp; omega
    rw [hh]
    exact ⟨hS.bl (bl_alloc (Below.refl _ _) _), CB.new w 176 #[.int .u64 (L : Int)], hs, by omega⟩
  have k1 : a + f2 ≤ x0 + 1 := by omega
  have k2 : x0 + 1 ≤ a + f2 := by omega
  have k3 : 2 * f2 ≤ L := by omega
  have k4 : L ≤ 2 * f2 + 6 := by omega
  have k5 : a + L ≤ b := by omega
  have k6 : L < 256 := by omega
  obtain ⟨s, hss⟩ : ∃ s, w.heap.size = s := ⟨_, rfl⟩
  rw [hss] at HI0
  clear hD hM hS hf hf2 hx0 hL hsg hs hL1
  go_enter Try.func122, Try.ntmps122
  go_upto_region 3 with (fail)
  obtain ⟨W, hW⟩ : ∃ W, w.alloc (.cells #[.int .u64 (L : Int)] 176) = W := ⟨_, rfl⟩
  rw [hW] at HI0 ⊢
  clear hss hW
  go_wp2_with (go_at_call 130; refine (HNP.out _).mono ?_; rintro e w' ⟨rfl, rfl⟩)
  go_loopw [9, 10, 26, 27, 28, 29, 30, 31, 32, 33, 34, 35, 36, 37, 38, 39, 40, 41, 42, 43, 44, 45, 46, 47, 48, 49, 50, 51, 52, 53, 54, 55, 56, 57, 58, 59, 60, 61, 62, 63, 64] (fun i _ _ _ _ _ _ _ _ _ _ _ _ _ _ _ _ _ _ _ _ _ _ _ _ _ _ _ _ _ _ _ _ _ _ _ _ _ _ _ _ wr => ∃ (k x : Nat) (r : UInt64) (ys : Array Int), k ≤ 3 ∧ x + k = x0 + 3 ∧ i = .int .i64 (x : Int) ∧ BkA w0 g off n c ys s r.toNat wr ∧ True ∧ brkRest a L M x k (r, ys) = D) (fun i _ _ _ _ _ _ _ _ _ _ _ _ _ _ _ _ _ _ _ _ _ _ _ _ _ _ _ _ _ _ _ _ _ _ _ _ _ _ _ _ _ => x0 + 3 - (intOf i).toNat)
  case atStart => exact ⟨3, x0, _, d0, by omega, by omega, rfl, HI0.out, trivial, HD.out⟩
  case round =>
    clear HI0 HD HNP
    obtain ⟨k, x, r, ys, hk, hxk, rfl, hI, -, hSo⟩ := hrel
    have HI := Lib.hid hI
    have HSO := Lib.hid hSo
    clear hI hSo
    obtain ⟨x1, hx1⟩ : ∃ z, x + 1 = z := ⟨_, rfl⟩
    have HX1 := Lib.hid hx1
    have e10 : IntKind.i64.wrap ((x : Int) + 1) = (x1 : Int) := by rw [IntWalk.i64_in _ (by omega)]; omega
    cases k with
    | zero =>
      have hend : ¬ (x : Int) ≤ (a : Int) + (f2 : Int) + 1 := by omega
      go_wp2
      go_end0
      exact ⟨rfl, by have h := HSO.out; rw [brkRest] at h; rw [← h]; exact HI.out.1⟩
    | succ q =>
      have hend : (x : Int) ≤ (a : Int) + (f2 : Int) + 1 := by omega
      obtain ⟨Y, hY⟩ : ∃ Y, Sort.xorNextN r.toNat = Y := ⟨_, rfl⟩
      have hYl : Y < 18446744073709551616 := by rw [← hY]; exact Sort.xorNextN_lt _ r.toNat_lt
      obtain ⟨O, hO⟩ : ∃ O, (Sort.xorNext r).toNat &&& (M - 1) = O := ⟨_, rfl⟩
      have hOM : O ≤ M - 1 := by rw [← hO]; exact Nat.and_le_right
      have HO := Lib.hid hO
      have hxn : (Sort.xorNext r).toNat = Y := by rw [Sort.xorNext_toNat, hY]
      have e11 : bits .and .u64 (Y : Int) ((M - 1 : Nat) : Int) = (O : Int) := by
        rw [bits_and_u64_nat _ _ hYl (by omega), ← hxn, hO]
      have e12 : IntKind.i64.wrap (O : Int) = (O : Int) := by rw [IntWalk.i64_in _ (by omega)]
      have HC := Lib.hid (xorNext_x wr s r.toNat r.toNat_lt HI.out.2.1)
      have HYN := Lib.hid hxn
      rw [hY] at HC
      obtain ⟨M1, hM1'⟩ : ∃ z, M - 1 = z := ⟨_, rfl⟩
      have k7 : O < 2 * L := by omega
      rw [hM1'] at e9 e11
      clear hY hO hxn hx1 hM1'
      go_upto_region 8 with (go_at_call 131; refine HC.out.mono ?_; rintro e wq ⟨rfl, hC1, hC2⟩; have HB2 := Lib.hid (HI.out.next hC1 hC2); clear hC1 hC2)
      have HN := Lib.hid HB2.out.1
      by_cases hge : L ≤ O
      · have hge' : (L : Int) ≤ (O : Int) := by omega
        obtain ⟨O2, hO2⟩ : ∃ z, O - L = z := ⟨_, rfl⟩
        have e13 : IntKind.i64.wrap ((O : Int) - (L : Int)) = (O2 : Int) := by rw [IntWalk.i64_in _ (by omega)]; omega
        rw [← HYN.out] at HB2
        obtain ⟨p, hp⟩ : ∃ p, a + O2 = p := ⟨_, rfl⟩
        have v1 : IntKind.i64.wrap ((a : Int) + (O2 : Int)) = (p : Int) := by rw [IntWalk.i64_in _ (by omega)]; omega
        have hpn : p < n := by omega
        have hxnn : x < n := by omega
        have u0 := HN.out.word (i := x) (by omega)
        have u1 := HN.out.word (i := p) hpn
        have hgl := HN.out.lt
        have fz := HN.out.1.unfrozen
        obtain ⟨y0, hy0⟩ : ∃ z, ys[x]! = z := ⟨_, rfl⟩
        obtain ⟨y1, hy1⟩ : ∃ z, ys[p]! = z := ⟨_, rfl⟩
        have HSW : Hid (∀ m, BkA w0 g off n c (Sort.swp ys x p) s (Sort.xorNext r).toNat (((wq.drewN m).setCell ⟨g, off + x, none⟩ (.int .u64 y1)).setCell ⟨g, off + p, none⟩ (.int .u64 y0))) := by
          intro m
          have h2 := HB2.out.swap m (i := x) (j := p) (by omega) (by omega)
          rwa [hy0, hy1] at h2
        rw [hy0] at u0
        rw [hy1] at u1
        have HGO : Hid (brkRest a L M (x + 1) q (Sort.xorNext r, Sort.swp ys x p) = D) := by
          have h := HSO.out
          rw [brkRest, brk_step a L M x r ys O HO.out] at h
          rw [if_pos hge, hO2] at h
          rw [← hp]; exact h
        have HY := Lib.hid (hy0.symm.trans (congrArg (fun z => ys[z]!) (rfl : x = x)))
        have i0 : (x : Int) < (n : Int) := by omega
        have i1 : (p : Int) < (n : Int) := by omega
        have z0 : (0 : Int) ≤ (x : Int) := by omega
        have z1 : (0 : Int) ≤ (p : Int) := by omega
        have HE : Hid (x = p → y0 = y1) := fun he => by rw [← hy0, ← hy1, he]
        clear hp hy0 hy1 HY
        by_cases hpe : x = p
        · obtain rfl : y0 = y1 := HE.out hpe
          subst hpe
          clear u1
          go_upto_region 10 with (fail)
          refine ord_reads [] [.p [0, 1, 2, 3, 4, 5, 6, 7, 8, 9, 10, 12, 13, 14], .q [11, 15, 16], .h [17, 18, 19]] (by kernel_rfl) (fun _ _ d _ _ h => by cases d <;> exact h) (by kernel_rfl) ?_
          (dsimp only [pick, List.filterMap, List.getElem?_cons_zero, List.getElem?_cons_succ]; refine wpQuiet_nil ?_; rintro _ ⟨nq1, rfl⟩; with_reducible refine part_pure ?_; dsimp only [pick, List.filterMap, List.getElem?_cons_zero, List.getElem?_cons_succ]; (repeat (first | (refine pure_ex rfl ?_; apply Exists.intro; apply And.intro; (intro w; go_simp; rfl); simp only [Act.put, List.setIfInBounds_toArray, List.set_cons_succ, List.set_cons_zero]) | (refine pure_skip rfl ?_; simp only [Act.put, List.setIfInBounds_toArray, List.set_cons_succ, List.set_cons_zero]))); refine pure_nil ?_; with_reducible refine part_reads ?_; dsimp only [pick, List.filterMap, List.getElem?_cons_zero, List.getElem?_cons_succ]; (repeat (go_big_quiet_step (fail))); refine wpQuiet_nil ?_; rintro _ ⟨nq2, rfl⟩; with_reducible refine part_hard ?_; dsimp only [pick, List.filterMap, List.getElem?_cons_zero, List.getElem?_cons_succ]; go_wp2; with_reducible refine segs_end ?_; with_reducible refine part_nil ?_; go_wp2)
          exact ⟨⟨q, x1, _, _, by omega, by have := HX1.out; omega, rfl, HSW.out _, trivial, by rw [← HX1.out]; exact HGO.out⟩, by have := HX1.out; simp [intOf] <;> omega⟩
        · have hpe' : ¬ p = x := by omega
          go_upto_region 10 with (fail)
          refine ord_reads [] [.p [0, 1, 2, 3, 4, 5, 6, 7, 8, 9, 10, 12, 13, 14], .q [11, 15, 16], .h [17, 18, 19]] (by kernel_rfl) (fun _ _ d _ _ h => by cases d <;> exact h) (by kernel_rfl) ?_
          (dsimp only [pick, List.filterMap, List.getElem?_cons_zero, List.getElem?_cons_succ]; refine wpQuiet_nil ?_; rintro _ ⟨nq1, rfl⟩; with_reducible refine part_pure ?_; dsimp only [pick, List.filterMap, List.getElem?_cons_zero, List.getElem?_cons_succ]; (repeat (first | (refine pure_ex rfl ?_; apply Exists.intro; apply And.intro; (intro w; go_simp; rfl); simp only [Act.put, List.setIfInBounds_toArray, List.set_cons_succ, List.set_cons_zero]) | (refine pure_skip rfl ?_; simp only [Act.put, List.setIfInBounds_toArray, List.set_cons_succ, List.set_cons_zero]))); refine pure_nil ?_; with_reducible refine part_reads ?_; dsimp only [pick, List.filterMap, List.getElem?_cons_zero, List.getElem?_cons_succ]; (repeat (go_big_quiet_step (fail))); refine wpQuiet_nil ?_; rintro _ ⟨nq2, rfl⟩; with_reducible refine part_hard ?_; dsimp only [pick, List.filterMap, List.getElem?_cons_zero, List.getElem?_cons_succ]; go_wp2; with_reducible refine segs_end ?_; with_reducible refine part_nil ?_; go_wp2)
          exact ⟨⟨q, x1, _, _, by omega, by have := HX1.out; omega, rfl, HSW.out _, trivial, by rw [← HX1.out]; exact HGO.out⟩, by have := HX1.out; simp [intOf] <;> omega⟩
      · have hge' : ¬ (L : Int) ≤ (O : Int) := by omega
        rw [← HYN.out] at HB2
        obtain ⟨p, hp⟩ : ∃ p, a + O = p := ⟨_, rfl⟩
        have v1 : IntKind.i64.wrap ((a : Int) + (O : Int)) = (p : Int) := by rw [IntWalk.i64_in _ (by omega)]; omega
        have hpn : p < n := by omega
        have hxnn : x < n := by omega
        have u0 := HN.out.word (i := x) (by omega)
        have u1 := HN.out.word (i := p) hpn
        have hgl := HN.out.lt
        have fz := HN.out.1.unfrozen
        obtain ⟨y0, hy0⟩ : ∃ z, ys[x]! = z := ⟨_, rfl⟩
        obtain ⟨y1, hy1⟩ : ∃ z, ys[p]! = z := ⟨_, rfl⟩
        have HSW : Hid (∀ m, BkA w0 g off n c (Sort.swp ys x p) s (Sort.xorNext r).toNat (((wq.drewN m).setCell ⟨g, off + x, none⟩ (.int .u64 y1)).setCell ⟨g, off + p, none⟩ (.int .u64 y0))) := by
          intro m
          have h2 := HB2.out.swap m (i := x) (j := p) (by omega) (by omega)
          rwa [hy0, hy1] at h2
        rw [hy0] at u0
        rw [hy1] at u1
        have HGO : Hid (brkRest a L M (x + 1) q (Sort.xorNext r, Sort.swp ys x p) = D) := by
          have h := HSO.out
          rw [brkRest, brk_step a L M x r ys O HO.out] at h
          rw [if_neg hge] at h
          rw [← hp]; exact h
        have HY := Lib.hid (hy0.symm.trans (congrArg (fun z => ys[z]!) (rfl : x = x)))
        have i0 : (x : Int) < (n : Int) := by omega
        have i1 : (p : Int) < (n : Int) := by omega
        have z0 : (0 : Int) ≤ (x : Int) := by omega
        have z1 : (0 : Int) ≤ (p : Int) := by omega
        have HE : Hid (x = p → y0 = y1) := fun he => by rw [← hy0, ← hy1, he]
        clear hp hy0 hy1 HY
        by_cases hpe : x = p
        · obtain rfl : y0 = y1 := HE.out hpe
          subst hpe
          clear u1
          go_upto_region 10 with (fail)
          refine ord_reads [] [.p [0, 1, 2, 3, 4, 5, 6, 7, 8, 9, 10, 12, 13, 14], .q [11, 15, 16], .h [17, 18, 19]] (by kernel_rfl) (fun _ _ d _ _ h => by cases d <;> exact h) (by kernel_rfl) ?_
          (dsimp only [pick, List.filterMap, List.getElem?_cons_zero, List.getElem?_cons_succ]; refine wpQuiet_nil ?_; rintro _ ⟨nq1, rfl⟩; with_reducible refine part_pure ?_; dsimp only [pick, List.filterMap, List.getElem?_cons_zero, List.getElem?_cons_succ]; (repeat (first | (refine pure_ex rfl ?_; apply Exists.intro; apply And.intro; (intro w; go_simp; rfl); simp only [Act.put, List.setIfInBounds_toArray, List.set_cons_succ, List.set_cons_zero]) | (refine pure_skip rfl ?_; simp only [Act.put, List.setIfInBounds_toArray, List.set_cons_succ, List.set_cons_zero]))); refine pure_nil ?_; with_reducible refine part_reads ?_; dsimp only [pick, List.filterMap, List.getElem?_cons_zero, List.getElem?_cons_succ]; (repeat (go_big_quiet_step (fail))); refine wpQuiet_nil ?_; rintro _ ⟨nq2, rfl⟩; with_reducible refine part_hard ?_; dsimp only [pick, List.filterMap, List.getElem?_cons_zero, List.getElem?_cons_succ]; go_wp2; with_reducible refine segs_end ?_; with_reducible refine part_nil ?_; go_wp2)
          exact ⟨⟨q, x1, _, _, by omega, by have := HX1.out; omega, rfl, HSW.out _, trivial, by rw [← HX1.out]; exact HGO.out⟩, by have := HX1.out; simp [intOf] <;> omega⟩
        · have hpe' : ¬ p = x := by omega
          go_upto_region 10 with (fail)
          refine ord_reads [] [.p [0, 1, 2, 3, 4, 5, 6, 7, 8, 9, 10, 12, 13, 14], .q [11, 15, 16], .h [17, 18, 19]] (by kernel_rfl) (fun _ _ d _ _ h => by cases d <;> exact h) (by kernel_rfl) ?_
          (dsimp only [pick, List.filterMap, List.getElem?_cons_zero, List.getElem?_cons_succ]; refine wpQuiet_nil ?_; rintro _ ⟨nq1, rfl⟩; with_reducible refine part_pure ?_; dsimp only [pick, List.filterMap, List.getElem?_cons_zero, List.getElem?_cons_succ]; (repeat (first | (refine pure_ex rfl ?_; apply Exists.intro; apply And.intro; (intro w; go_simp; rfl); simp only [Act.put, List.setIfInBounds_toArray, List.set_cons_succ, List.set_cons_zero]) | (refine pure_skip rfl ?_; simp only [Act.put, List.setIfInBounds_toArray, List.set_cons_succ, List.set_cons_zero]))); refine pure_nil ?_; with_reducible refine part_reads ?_; dsimp only [pick, List.filterMap, List.getElem?_cons_zero, List.getElem?_cons_succ]; (repeat (go_big_quiet_step (fail))); refine wpQuiet_nil ?_; rintro _ ⟨nq2, rfl⟩; with_reducible refine part_hard ?_; dsimp only [pick, List.filterMap, List.getElem?_cons_zero, List.getElem?_cons_succ]; go_wp2; with_reducible refine segs_end ?_; with_reducible refine part_nil ?_; go_wp2)
          exact ⟨⟨q, x1, _, _, by omega, by have := HX1.out; omega, rfl, HSW.out _, trivial, by rw [← HX1.out]; exact HGO.out⟩, by have := HX1.out; simp [intOf] <;> omega⟩
end Go.Proofs.Ytngkhligjkcbmaa

namespace Go.Proofs.Ytngkhligjkcbmaa
open Go.RowKit
set_option linter.unusedVariables false
set_option linter.unusedSimpArgs false

theorem scanUp_c {p : Int → Bool} {d : Array Int} {j i : Nat} {C : Bool} (h : (decide (i ≤ j) && p d[i]!) = C) : Sort.scanUp p d j i = if C = true then Sort.scanUp p d j (i + 1) else i := by
  rw [Sort.scanUp, h]
theorem scanDown_c {p : Int → Bool} {d : Array Int} {j i : Nat} {C : Bool} (h : (decide (i ≤ j) && p d[j]!) = C) : Sort.scanDown p d i j = if C = true then Sort.scanDown p d i (j - 1) else j := by
  cases j with
  | zero => simp [Sort.scanDown]
  | succ q => rw [Sort.scanDown, h]; rfl
theorem partEq_end {lt : Int → Int → Bool} {a i j i2 j2 : Nat} {d : Array Int} (h1 : Sort.scanUp (fun x => !lt d[a]! x) d j i = i2) (h2 : Sort.scanDown (fun x => lt d[a]! x) d i2 j = j2) (h : i2 > j2) : Sort.partEqLoop lt a i j d = (i2, d) := by
  rw [Sort.partEqLoop]
  simp only [h1, h2]
  rw [if_pos h]
theorem partEq_go {lt : Int → Int → Bool} {a i j i2 j2 : Nat} {d : Array Int} (h1 : Sort.scanUp (fun x => !lt d[a]! x) d j i = i2) (h2 : Sort.scanDown (fun x => lt d[a]! x) d i2 j = j2) (h : ¬ i2 > j2) (hi : i ≤ i2) (hj : j2 ≤ j) : Sort.partEqLoop lt a i j d = Sort.partEqLoop lt a (i2 + 1) (j2 - 1) (Sort.swp d i2 j2) := by
  rw [Sort.partEqLoop]
  simp only [h1, h2]
  rw [if_neg h, dif_pos (by omega)]
theorem part_end {lt : Int → Int → Bool} {a i j i2 j2 : Nat} {d : Array Int} (h1 : Sort.scanUp (fun x => lt x d[a]!) d j i = i2) (h2 : Sort.scanDown (fun x => !lt x d[a]!) d i2 j = j2) (h : i2 > j2) : Sort.partLoop lt a i j d = (j2, d) := by
  rw [Sort.partLoop]
  simp only [h1, h2]
  rw [if_pos h]
theorem part_go {lt : Int → Int → Bool} {a i j i2 j2 : Nat} {d : Array Int} (h1 : Sort.scanUp (fun x => lt x d[a]!) d j i = i2) (h2 : Sort.scanDown (fun x => !lt x d[a]!) d i2 j = j2) (h : ¬ i2 > j2) (hi : i ≤ i2) (hj : j2 ≤ j) : Sort.partLoop lt a i j d = Sort.partLoop lt a (i2 + 1) (j2 - 1) (Sort.swp d i2 j2) := by
  rw [Sort.partLoop]
  simp only [h1, h2]
  rw [if_neg h, dif_pos (by omega)]
def PeP (w : World) (g off n c : Nat) (r : Nat × Array Int) (e : Ending) (w' : World) : Prop := e = .returned (.int .i64 (r.1 : Int)) ∧ SoA w g off n c r.2 w'
set_option maxRecDepth 100000 in
set_option maxHeartbeats 8000000 in
theorem partEqU (w0 w : World) (g off n c a b pv : Nat) (d0 : Array Int) (hab : a < b) (hp1 : a ≤ pv) (hp2 : pv < b) (hbn : b ≤ n) (hm : n ≤ 1000000) (hS : SoA w0 g off n c d0 w) :
    Calls Try.prog 127 #[.slice (some ⟨g, off, none⟩) n c, .int .i64 (a : Int), .int .i64 (b : Int), .int .i64 (pv : Int)] w (PeP w0 g off n c (Sort.partitionEqual Sort.ltInt d0 a b pv)) := by
  have HI := Lib.hid hS
  obtain ⟨D, hD⟩ : ∃ D, Sort.partitionEqual Sort.ltInt d0 a b pv = D := ⟨_, rfl⟩
  rw [hD]
  rw [Sort.partitionEqual] at hD
  have HD := Lib.hid hD
  have hgl := hS.lt
  have fz := hS.1.unfrozen
  obtain ⟨a1, ha1⟩ : ∃ z, a + 1 = z := ⟨_, rfl⟩
  obtain ⟨b1, hb1⟩ : ∃ z, b - 1 = z := ⟨_, rfl⟩
  rw [ha1, hb1] at HD
  have e1 : IntKind.i64.wrap ((a : Int) + 1) = (a1 : Int) := by rw [IntWalk.i64_in _ (by omega)]; omega
  have e2 : IntKind.i64.wrap ((b : Int) - 1) = (b1 : Int) := by rw [IntWalk.i64_in _ (by omega)]; omega
  have k1 : a < a1 := by omega
  have k2 : a1 ≤ a + 1 := by omega
  have k3 : b1 < b := by omega
  have k4 : b ≤ b1 + 1 := by omega
  clear hS hD ha1 hb1
  go_enter Try.func127, Try.ntmps127
  go_upto_region 1 with (fail)
  go_cut [] from 11 (fun wx => SoA w0 g off n c (Sort.swp d0 a pv) wx)
  case first =>
    have u0 := HI.out.word (i := a) (by omega)
    have u1 := HI.out.word (i := pv) (by omega)
    obtain ⟨y0, hy0⟩ : ∃ z, d0[a]! = z := ⟨_, rfl⟩
    obtain ⟨y1, hy1⟩ : ∃ z, d0[pv]! = z := ⟨_, rfl⟩
    have HSW : Hid (∀ m, SoA w0 g off n c (Sort.swp d0 a pv) (((w.drewN m).setCell ⟨g, off + a, none⟩ (.int .u64 y1)).setCell ⟨g, off + pv, none⟩ (.int .u64 y0))) := by
      intro m
      have h2 := (HI.out.drewN m).swap (i := a) (j := pv) (by omega) (by omega)
      rwa [hy0, hy1] at h2
    rw [hy0] at u0
    rw [hy1] at u1
    have i0 : (a : Int) < (n : Int) := by omega
    have i1 : (pv : Int) < (n : Int) := by omega
    have z0 : (0 : Int) ≤ (a : Int) := by omega
    have z1 : (0 : Int) ≤ (pv : Int) := by omega
    have HEQ : Hid (a = pv → y0 = y1) := fun he => by rw [← hy0, ← hy1, he]
    clear hy0 hy1
    by_cases hpe : a = pv
    · obtain rfl : y0 = y1 := HEQ.out hpe
      clear u1
      subst hpe
      refine ord_reads [] [.p [0, 1, 2, 3, 4, 5, 6, 8, 9, 10], .q [7, 11, 12], .h [13, 14, 15]] (by kernel_rfl) (fun _ _ d _ _ h => by cases d <;> exact h) (by kernel_rfl) ?_
      (dsimp only [pick, List.filterMap, List.getElem?_cons_zero, List.getElem?_cons_succ]; refine wpQuiet_nil ?_; rintro _ ⟨nq1, rfl⟩; with_reducible refine part_pure ?_; dsimp only [pick, List.filterMap, List.getElem?_cons_zero, List.getElem?_cons_succ]; (repeat (first | (refine pure_ex rfl ?_; apply Exists.intro; apply And.intro; (intro w; go_simp; rfl); simp only [Act.put, List.setIfInBounds_toArray, List.set_cons_succ, List.set_cons_zero]) | (refine pure_skip rfl ?_; simp only [Act.put, List.setIfInBounds_toArray, List.set_cons_succ, List.set_cons_zero]))); refine pure_nil ?_; with_reducible refine part_reads ?_; dsimp only [pick, List.filterMap, List.getElem?_cons_zero, List.getElem?_cons_succ]; (repeat (go_big_quiet_step (fail))); refine wpQuiet_nil ?_; rintro _ ⟨nq2, rfl⟩; with_reducible refine part_hard ?_; dsimp only [pick, List.filterMap, List.getElem?_cons_zero, List.getElem?_cons_succ]; go_wp2; with_reducible refine segs_end ?_; with_reducible refine part_nil ?_; go_wp2)
      go_meet
      case rel => exact HSW.out _
    · have hpe' : ¬ pv = a := by omega
      refine ord_reads [] [.p [0, 1, 2, 3, 4, 5, 6, 8, 9, 10], .q [7, 11, 12], .h [13, 14, 15]] (by kernel_rfl) (fun _ _ d _ _ h => by cases d <;> exact h) (by kernel_rfl) ?_
      (dsimp only [pick, List.filterMap, List.getElem?_cons_zero, List.getElem?_cons_succ]; refine wpQuiet_nil ?_; rintro _ ⟨nq1, rfl⟩; with_reducible refine part_pure ?_; dsimp only [pick, List.filterMap, List.getElem?_cons_zero, List.getElem?_cons_succ]; (repeat (first | (refine pure_ex rfl ?_; apply Exists.intro; apply And.intro; (intro w; go_simp; rfl); simp only [Act.put, List.setIfInBounds_toArray, List.set_cons_succ, List.set_cons_zero]) | (refine pure_skip rfl ?_; simp only [Act.put, List.setIfInBounds_toArray, List.set_cons_succ, List.set_cons_zero]))); refine pure_nil ?_; with_reducible refine part_reads ?_; dsimp only [pick, List.filterMap, List.getElem?_cons_zero, List.getElem?_cons_succ]; (repeat (go_big_quiet_step (fail))); refine wpQuiet_nil ?_; rintro _ ⟨nq2, rfl⟩; with_reducible refine part_hard ?_; dsimp only [pick, List.filterMap, List.getElem?_cons_zero, List.getElem?_cons_succ]; go_wp2; with_reducible refine segs_end ?_; with_reducible refine part_nil ?_; go_wp2)
      go_meet
      case rel => exact HSW.out _
  case rest =>
    have hI : SoA w0 g off n c (Sort.swp d0 a pv) wc := hcut
    clear HI hcut
    have HI := Lib.hid hI
    clear hI
    obtain ⟨ys, hys⟩ : ∃ z, Sort.swp d0 a pv = z := ⟨_, rfl⟩
    rw [hys] at HD HI
    clear hys
    go_wp2
    go_loopw [9, 10, 29, 30, 31, 32, 33, 34, 35, 36, 37, 38, 39, 40, 41, 42, 43, 44, 45, 46, 47, 48, 49, 50, 51, 52, 53, 54, 55, 56, 57, 58, 59, 60, 61, 62, 63, 64, 65, 66, 67, 68, 69, 70, 71, 72, 73, 74, 75, 76, 77, 78, 79, 80, 81, 82] (fun i j _ _ _ _ _ _ _ _ _ _ _ _ _ _ _ _ _ _ _ _ _ _ _ _ _ _ _ _ _ _ _ _ _ _ _ _ _ _ _ _ _ _ _ _ _ _ _ _ _ _ _ _ _ _ wr => ∃ (k l : Nat) (ys : Array Int), a < k ∧ k ≤ b ∧ a ≤ l ∧ l < b ∧ k ≤ l + 2 ∧ i = .int .i64 (k : Int) ∧ j = .int .i64 (l : Int) ∧ SoA w0 g off n c ys wr ∧ Sort.partEqLoop Sort.ltInt a k l ys = D) (fun i j _ _ _ _ _ _ _ _ _ _ _ _ _ _ _ _ _ _ _ _ _ _ _ _ _ _ _ _ _ _ _ _ _ _ _ _ _ _ _ _ _ _ _ _ _ _ _ _ _ _ _ _ _ _ _ => (intOf j + 1 - intOf i).toNat)
    case atStart => exact ⟨a1, b1, ys, k1, by omega, by omega, k3, by omega, rfl, rfl, HI.out, HD.out⟩
    case round =>
      clear HI HD
      obtain ⟨k, l, ys, hk1, hk2, hl1, hl2, hk3, rfl, rfl, hI, hSo⟩ := hrel
      have HI := Lib.hid hI
      have HSO := Lib.hid hSo
      clear hI hSo
      go_wp2
      obtain ⟨I2, hI2⟩ : ∃ z, Sort.scanUp (fun x => !Sort.ltInt ys[a]! x) ys l k = z := ⟨_, rfl⟩
      have HI2 := Lib.hid hI2
      obtain ⟨k0, hk0⟩ : ∃ z, z = k := ⟨_, rfl⟩
      have hkk : k0 ≤ k := by omega
      have hak0 : a < k0 := by omega
      have HK0 := Lib.hid hk0
      clear hI2 hk0
      go_loopw [9, 29, 30, 31, 32, 33, 34, 35, 36, 37, 38, 39, 40, 41, 42, 43, 44, 45] (fun i _ _ _ _ _ _ _ _ _ _ _ _ _ _ _ _ _ wr => ∃ k, k0 ≤ k ∧ k ≤ l + 2 ∧ i = .int .i64 (k : Int) ∧ SoA w0 g off n c ys wr ∧ Sort.scanUp (fun x => !Sort.ltInt ys[a]! x) ys l k = I2) (fun i _ _ _ _ _ _ _ _ _ _ _ _ _ _ _ _ _ _ => ((l : Int) + 1 - intOf i).toNat)
      case atStart => exact ⟨k, hkk, by omega, rfl, HI.out, HI2.out⟩
      case round =>
        clear HI
        obtain ⟨k, hk0, hkl, rfl, hI, hE⟩ := hrel
        have HI := Lib.hid hI
        have HE := Lib.hid hE
        have hgl := hI.lt
        have fz := hI.1.unfrozen
        clear hI hE
        obtain ⟨x1, hx1⟩ : ∃ z, k + 1 = z := ⟨_, rfl⟩
        have e10 : k ≤ l → IntKind.i64.wrap ((k : Int) + 1) = (x1 : Int) := fun _ => by rw [IntWalk.i64_in _ (by omega)]; omega
        have HX1 := Lib.hid hx1
        clear hx1
        obtain ⟨C, hC⟩ : ∃ C : Bool, (decide (k ≤ l) && (fun x => !Sort.ltInt ys[a]! x) ys[k]!) = C := ⟨_, rfl⟩
        have HC := Lib.hid hC
        have HE := Lib.hid ((scanUp_c HC.out).symm.trans HE.out)
        go_upto_region 3 with (fail)
        go_cut [43] from 29 to 45 (fun s wx => s = .bool C ∧ SoA w0 g off n c ys wx)
        case first =>
          by_cases hle : k ≤ l
          · have hd2 : decide ((k : Int) ≤ (l : Int)) = true := decide_eq_true (by omega)
            have u0 := HI.out.word (i := a) (by omega)
            have u1 := HI.out.word (i := k) (by omega)
            obtain ⟨ya, hya⟩ : ∃ z, ys[a]! = z := ⟨_, rfl⟩
            obtain ⟨yx, hyx⟩ : ∃ z, ys[k]! = z := ⟨_, rfl⟩
            rw [hya] at u0 hC
            rw [hyx] at u1 hC
            have i0 : (a : Int) < (n : Int) := by omega
            have i1 : (k : Int) < (n : Int) := by omega
            have z0 : (0 : Int) ≤ (a : Int) := by omega
            have z1 : (0 : Int) ≤ (k : Int) := by omega
            by_cases hsw : ya < yx
            · have hds : decide (ya < yx) = true := decide_eq_true hsw
              have HCt : Hid (C = false) := by show _ = _; rw [← hC, decide_eq_true hle]; simp [Sort.ltInt]; omega
              clear hya hyx hC
              refine wp_region_quiet_lit (by kernel_rfl) (by kernel_rfl) ?_
              repeat (go_big_quiet_step ((go_at_call 126; exact q_same (lessU _ _ _))))
              refine wpQuiet_nil ?_
              rintro _ ⟨nr, rfl⟩
              go_wp2
              go_meet
              case rel => exact ⟨by rw [HCt.out], HI.out.drewN nr⟩
            · have hds : decide (ya < yx) = false := decide_eq_false hsw
              have HCt : Hid (C = true) := by show _ = _; rw [← hC, decide_eq_true hle]; simp [Sort.ltInt]; omega
              clear hya hyx hC
              refine wp_region_quiet_lit (by kernel_rfl) (by kernel_rfl) ?_
              repeat (go_big_quiet_step ((go_at_call 126; exact q_same (lessU _ _ _))))
              refine wpQuiet_nil ?_
              rintro _ ⟨nr, rfl⟩
              go_wp2
              go_meet
              case rel => exact ⟨by rw [HCt.out], HI.out.drewN nr⟩
          · have hd2 : decide ((k : Int) ≤ (l : Int)) = false := decide_eq_false (by omega)
            have HCt : Hid (C = false) := by show _ = _; rw [← hC, decide_eq_false hle]; rfl
            clear hC
            refine wp_region_quiet_lit (by kernel_rfl) (by kernel_rfl) ?_
            repeat (go_big_quiet_step (fail))
            refine wpQuiet_nil ?_
            rintro _ ⟨nr, rfl⟩
            go_wp2
            go_meet
            case rel => exact ⟨by rw [HCt.out], HI.out.drewN nr⟩
        case rest =>
          clear HI
          obtain ⟨rfl, hI⟩ := hcut
          have HI := Lib.hid hI
          have hgl := hI.lt
          have fz := hI.1.unfrozen
          clear hI
          cases C with
          | true =>
            have hle : k ≤ l := by have h := HC.out; simp at h; exact h.1
            have e11 := e10 hle
            have HEt := Lib.hid HE.out
            clear hC
            go_wp2
            go_roundw
            case rel => exact ⟨x1, by have := HX1.out; omega, by have := HX1.out; omega, rfl, HI.out, by have h := HE.out; rw [if_pos rfl, HX1.out] at h; exact h⟩
            case measure => have := HX1.out; simp [intOf] <;> omega
          | false =>
            have HE := Lib.hid (show k = I2 from by have h := HE.out; rw [if_neg (by decide)] at h; exact h)
            clear hC e10
            have HU := Lib.hid HE.out
            go_wp2
            obtain ⟨J2, hJ2⟩ : ∃ z, Sort.scanDown (fun x => Sort.ltInt ys[a]! x) ys k l = z := ⟨_, rfl⟩
            have HJ2 := Lib.hid hJ2
            obtain ⟨l0, hl0⟩ : ∃ z, z = l := ⟨_, rfl⟩
            have hll : l ≤ l0 := by omega
            have hlb0 : l0 < b := by omega
            have HL0 := Lib.hid hl0
            clear hJ2 hl0
            go_loopw [10, 46, 47, 48, 49, 50, 51, 52, 53, 54, 55, 56, 57, 58, 59, 60, 61] (fun j _ _ _ _ _ _ _ _ _ _ _ _ _ _ _ _ wr => ∃ l, a ≤ l ∧ l ≤ l0 ∧ k ≤ l + 2 ∧ j = .int .i64 (l : Int) ∧ SoA w0 g off n c ys wr ∧ Sort.scanDown (fun x => Sort.ltInt ys[a]! x) ys k l = J2) (fun j _ _ _ _ _ _ _ _ _ _ _ _ _ _ _ _ _ => (intOf j).toNat)
            case atStart => exact ⟨l, by omega, hll, by omega, rfl, HI.out, HJ2.out⟩
            case round =>
              clear HI
              obtain ⟨l, hal, hll, hkl, rfl, hI, hE⟩ := hrel
              have HI := Lib.hid hI
              have HE := Lib.hid hE
              have hgl := hI.lt
              have fz := hI.1.unfrozen
              clear hI hE
              obtain ⟨x1, hx1⟩ : ∃ z, l - 1 = z := ⟨_, rfl⟩
              have e10 : k ≤ l → IntKind.i64.wrap ((l : Int) - 1) = (x1 : Int) := fun _ => by rw [IntWalk.i64_in _ (by omega)]; omega
              have HX1 := Lib.hid hx1
              clear hx1
              obtain ⟨C, hC⟩ : ∃ C : Bool, (decide (k ≤ l) && (fun x => Sort.ltInt ys[a]! x) ys[l]!) = C := ⟨_, rfl⟩
              have HC := Lib.hid hC
              have HE := Lib.hid ((scanDown_c HC.out).symm.trans HE.out)
              go_upto_region 5 with (fail)
              go_cut [59] from 46 to 61 (fun s wx => s = .bool C ∧ SoA w0 g off n c ys wx)
              case first =>
                by_cases hle : k ≤ l
                · have hd2 : decide ((k : Int) ≤ (l : Int)) = true := decide_eq_true (by omega)
                  have u0 := HI.out.word (i := a) (by omega)
                  have u1 := HI.out.word (i := l) (by omega)
                  obtain ⟨ya, hya⟩ : ∃ z, ys[a]! = z := ⟨_, rfl⟩
                  obtain ⟨yx, hyx⟩ : ∃ z, ys[l]! = z := ⟨_, rfl⟩
                  rw [hya] at u0 hC
                  rw [hyx] at u1 hC
                  have i0 : (a : Int) < (n : Int) := by omega
                  have i1 : (l : Int) < (n : Int) := by omega
                  have z0 : (0 : Int) ≤ (a : Int) := by omega
                  have z1 : (0 : Int) ≤ (l : Int) := by omega
                  by_cases hsw : ya < yx
                  · have hds : decide (ya < yx) = true := decide_eq_true hsw
                    have HCt : Hid (C = true) := by show _ = _; rw [← hC, decide_eq_true hle]; simp [Sort.ltInt]; omega
                    clear hya hyx hC
                    refine wp_region_quiet_lit (by kernel_rfl) (by kernel_rfl) ?_
                    repeat (go_big_quiet_step ((go_at_call 126; exact q_same (lessU _ _ _))))
                    refine wpQuiet_nil ?_
                    rintro _ ⟨nr, rfl⟩
                    go_wp2
                    go_meet
                    case rel => exact ⟨by rw [HCt.out], HI.out.drewN nr⟩
                  · have hds : decide (ya < yx) = false := decide_eq_false hsw
                    have HCt : Hid (C = false) := by show _ = _; rw [← hC, decide_eq_true hle]; simp [Sort.ltInt]; omega
                    clear hya hyx hC
                    refine wp_region_quiet_lit (by kernel_rfl) (by kernel_rfl) ?_
                    repeat (go_big_quiet_step ((go_at_call 126; exact q_same (lessU _ _ _))))
                    refine wpQuiet_nil ?_
                    rintro _ ⟨nr, rfl⟩
                    go_wp2
                    go_meet
                    case rel => exact ⟨by rw [HCt.out], HI.out.drewN nr⟩
                · have hd2 : decide ((k : Int) ≤ (l : Int)) = false := decide_eq_false (by omega)
                  have HCt : Hid (C = false) := by show _ = _; rw [← hC, decide_eq_false hle]; rfl
                  clear hC
                  refine wp_region_quiet_lit (by kernel_rfl) (by kernel_rfl) ?_
                  repeat (go_big_quiet_step (fail))
                  refine wpQuiet_nil ?_
                  rintro _ ⟨nr, rfl⟩
                  go_wp2
                  go_meet
                  case rel => exact ⟨by rw [HCt.out], HI.out.drewN nr⟩
              case rest =>
                clear HI
                obtain ⟨rfl, hI⟩ := hcut
                have HI := Lib.hid hI
                have hgl := hI.lt
                have fz := hI.1.unfrozen
                clear hI
                cases C with
                | true =>
                  have hle : k ≤ l := by have h := HC.out; simp at h; exact h.1
                  have e11 := e10 hle
                  have HEt := Lib.hid HE.out
                  clear hC
                  go_wp2
                  go_roundw
                  case rel => exact ⟨x1, by have := HX1.out; omega, by have := HX1.out; omega, by have := HX1.out; omega, rfl, HI.out, by have h := HE.out; rw [if_pos rfl, HX1.out] at h; exact h⟩
                  case measure => have := HX1.out; simp [intOf] <;> omega
                | false =>
                  have HE := Lib.hid (show l = J2 from by have h := HE.out; rw [if_neg (by decide)] at h; exact h)
                  clear hC e10
                  have HH1 := HI2.out
                  rw [← HU.out] at HH1
                  have HH2 := HJ2.out
                  rw [← HE.out] at HH2
                  have HA := Lib.hid HH1
                  have HB := Lib.hid HH2
                  have hlle := HL0.out
                  have hkge := HK0.out
                  clear HH1 HH2
                  by_cases hgt : k > l
                  · have hgt' : (l : Int) < (k : Int) := by omega
                    have HF := Lib.hid ((partEq_end (lt := Sort.ltInt) HA.out HB.out hgt).symm.trans HSO.out)
                    go_wp2
                    refine bodyPost_ret (v := .int .i64 (k : Int)) (by simp [results, Try.results127, go_sem]) rfl ?_
                    rw [← HF.out]
                    exact ⟨rfl, HI.out⟩
                  · have hgt' : ¬ (l : Int) < (k : Int) := by omega
                    have hgt2 : (k : Int) ≤ (l : Int) := by omega
                    have HF := Lib.hid ((partEq_go (lt := Sort.ltInt) HA.out HB.out hgt (by omega) (by omega)).symm.trans HSO.out)
                    obtain ⟨kk, hkk1⟩ : ∃ z, k + 1 = z := ⟨_, rfl⟩
                    obtain ⟨l2, hl2x⟩ : ∃ z, l - 1 = z := ⟨_, rfl⟩
                    have e20 : IntKind.i64.wrap ((k : Int) + 1) = (kk : Int) := by rw [IntWalk.i64_in _ (by omega)]; omega
                    have e21 : IntKind.i64.wrap ((l : Int) - 1) = (l2 : Int) := by rw [IntWalk.i64_in _ (by omega)]; omega
                    rw [hkk1, hl2x] at HF
                    have b1 : kk ≤ k + 1 := by omega
                    have b2 : k + 1 ≤ kk := by omega
                    have b3 : l ≤ l2 + 1 := by omega
                    have b4 : l2 + 1 ≤ l := by omega
                    clear hkk1 hl2x
                    have u0 := HI.out.word (i := k) (by omega)
                    have u1 := HI.out.word (i := l) (by omega)
                    obtain ⟨y0, hy0⟩ : ∃ z, ys[k]! = z := ⟨_, rfl⟩
                    obtain ⟨y1, hy1⟩ : ∃ z, ys[l]! = z := ⟨_, rfl⟩
                    obtain ⟨wx, hwx⟩ : ∃ z, wc = z := ⟨_, rfl⟩
                    have HSW : Hid (∀ m, SoA w0 g off n c (Sort.swp ys k l) (((wc.drewN m).setCell ⟨g, off + k, none⟩ (.int .u64 y1)).setCell ⟨g, off + l, none⟩ (.int .u64 y0))) := by
                      intro m
                      have h2 := (HI.out.drewN m).swap (i := k) (j := l) (by omega) (by omega)
                      rwa [hy0, hy1] at h2
                    rw [hy0] at u0
                    rw [hy1] at u1
                    have i0 : (k : Int) < (n : Int) := by omega
                    have i1 : (l : Int) < (n : Int) := by omega
                    have z0 : (0 : Int) ≤ (k : Int) := by omega
                    have z1 : (0 : Int) ≤ (l : Int) := by omega
                    have HEQ : Hid (k = l → y0 = y1) := fun he => by rw [← hy0, ← hy1, he]
                    clear hy0 hy1 hwx
                    by_cases hpe : k = l
                    · obtain rfl : y0 = y1 := HEQ.out hpe
                      clear u1
                      subst hpe
                      go_upto_region 8 with (fail)
                      refine ord_reads [] [.p [0, 1, 2, 3, 4, 5, 6, 8, 9, 10], .q [7, 11, 12], .h [13, 14, 15]] (by kernel_rfl) (fun _ _ d _ _ h => by cases d <;> exact h) (by kernel_rfl) ?_
                      (dsimp only [pick, List.filterMap, List.getElem?_cons_zero, List.getElem?_cons_succ]; refine wpQuiet_nil ?_; rintro _ ⟨nq1, rfl⟩; with_reducible refine part_pure ?_; dsimp only [pick, List.filterMap, List.getElem?_cons_zero, List.getElem?_cons_succ]; (repeat (first | (refine pure_ex rfl ?_; apply Exists.intro; apply And.intro; (intro w; go_simp; rfl); simp only [Act.put, List.setIfInBounds_toArray, List.set_cons_succ, List.set_cons_zero]) | (refine pure_skip rfl ?_; simp only [Act.put, List.setIfInBounds_toArray, List.set_cons_succ, List.set_cons_zero]))); refine pure_nil ?_; with_reducible refine part_reads ?_; dsimp only [pick, List.filterMap, List.getElem?_cons_zero, List.getElem?_cons_succ]; (repeat (go_big_quiet_step (fail))); refine wpQuiet_nil ?_; rintro _ ⟨nq2, rfl⟩; with_reducible refine part_hard ?_; dsimp only [pick, List.filterMap, List.getElem?_cons_zero, List.getElem?_cons_succ]; go_wp2; with_reducible refine segs_end ?_; with_reducible refine part_nil ?_; go_wp2)
                      go_roundw
                      case rel => exact ⟨kk, l2, _, by omega, by omega, by omega, by omega, by omega, rfl, rfl, HSW.out _, HF.out⟩
                      case measure => simp [intOf] <;> omega
                    · have hpe' : ¬ l = k := by omega
                      go_upto_region 8 with (fail)
                      refine ord_reads [] [.p [0, 1, 2, 3, 4, 5, 6, 8, 9, 10], .q [7, 11, 12], .h [13, 14, 15]] (by kernel_rfl) (fun _ _ d _ _ h => by cases d <;> exact h) (by kernel_rfl) ?_
                      (dsimp only [pick, List.filterMap, List.getElem?_cons_zero, List.getElem?_cons_succ]; refine wpQuiet_nil ?_; rintro _ ⟨nq1, rfl⟩; with_reducible refine part_pure ?_; dsimp only [pick, List.filterMap, List.getElem?_cons_zero, List.getElem?_cons_succ]; (repeat (first | (refine pure_ex rfl ?_; apply Exists.intro; apply And.intro; (intro w; go_simp; rfl); simp only [Act.put, List.setIfInBounds_toArray, List.set_cons_succ, List.set_cons_zero]) | (refine pure_skip rfl ?_; simp only [Act.put, List.setIfInBounds_toArray, List.set_cons_succ, List.set_cons_zero]))); refine pure_nil ?_; with_reducible refine part_reads ?_; dsimp only [pick, List.filterMap, List.getElem?_cons_zero, List.getElem?_cons_succ]; (repeat (go_big_quiet_step (fail))); refine wpQuiet_nil ?_; rintro _ ⟨nq2, rfl⟩; with_reducible refine part_hard ?_; dsimp only [pick, List.filterMap, List.getElem?_cons_zero, List.getElem?_cons_succ]; go_wp2; with_reducible refine segs_end ?_; with_reducible refine part_nil ?_; go_wp2)
                      go_roundw
                      case rel => exact ⟨kk, l2, _, by omega, by omega, by omega, by omega, by omega, rfl, rfl, HSW.out _, HF.out⟩
                      case measure => simp [intOf] <;> omega
end Go.Proofs.Ytngkhligjkcbmaa
