/- Writes of an overlay and the law's awake (merged). -/
import Derived.Shelf.SlSortCmp.WholeK
import Derived.Test.YtngkhligjkcbmaaProg
import Derived.Test.YtngkhligjkcbmaaKo
import Derived.Shelf.SlSortCmp.NoneTotal
namespace Go.Proofs.Ytngkhligjkcbmaa
open Go.Shelf
def sortW_ren : Go.Shelf.Ren := ⟨fun | 6 => 80 | 15 => 101 | 14 => 100 | 28 => 118 | 29 => 119 | 20 => 110 | 21 => 111 | 22 => 112 | 23 => 113 | 24 => 114 | 25 => 115 | 26 => 116 | 27 => 117 | 46 => 129 | 47 => 130 | 48 => 131 | 49 => 132 | 50 => 133 | 57 => 137 | n => n, fun | 22 => 28 | 24 => 34 | 25 => 134 | 3 => 3 | 39 => 150 | 0 => 0 | 53 => 168 | 55 => 30 | 4 => 4 | 46 => 162 | 45 => 161 | 50 => 117 | 5 => 5 | 9 => 9 | 66 => 176 | 70 => 179 | 76 => 183 | 77 => 184 | n => n, fun | n => n⟩
theorem sortW : Go.Proofs.SlLaysF0.n6 Try.prog sortW_ren := {
  mixed := by kernel_rfl
  f6 := ⟨Try.f80.name, by decide, Try.func80.trans (congrArg some (by kernel_rfl))⟩
  f14 := ⟨Try.f100.name, by decide, Try.func100.trans (congrArg some (by kernel_rfl))⟩
  f15 := Try.func101.trans (congrArg some (by kernel_rfl))
  f20 := ⟨Try.f110.name, by decide, Try.func110.trans (congrArg some (by kernel_rfl))⟩
  f21 := ⟨Try.f111.name, by decide, Try.func111.trans (congrArg some (by kernel_rfl))⟩
  f22 := ⟨Try.f112.name, by decide, Try.func112.trans (congrArg some (by kernel_rfl))⟩
  f23 := ⟨Try.f113.name, by decide, Try.func113.trans (congrArg some (by kernel_rfl))⟩
  f24 := ⟨Try.f114.name, by decide, Try.func114.trans (congrArg some (by kernel_rfl))⟩
  f25 := ⟨Try.f115.name, by decide, Try.func115.trans (congrArg some (by kernel_rfl))⟩
  f26 := ⟨Try.f116.name, by decide, Try.func116.trans (congrArg some (by kernel_rfl))⟩
  f27 := ⟨Try.f117.name, by decide, Try.func117.trans (congrArg some (by kernel_rfl))⟩
  f28 := Try.func118.trans (congrArg some (by kernel_rfl))
  f29 := Try.func119.trans (congrArg some (by kernel_rfl))
  f46 := ⟨Try.f129.name, by decide, Try.func129.trans (congrArg some (by kernel_rfl))⟩
  f47 := Try.func130.trans (congrArg some (by kernel_rfl))
  f48 := Try.func131.trans (congrArg some (by kernel_rfl))
  f49 := ⟨Try.f132.name, by decide, Try.func132.trans (congrArg some (by kernel_rfl))⟩
  f50 := ⟨Try.f133.name, by decide, Try.func133.trans (congrArg some (by kernel_rfl))⟩
  f57 := ⟨Try.f137.name, by decide, Try.func137.trans (congrArg some (by kernel_rfl))⟩
  t0 := Try.underlying0
  a0 := Try.isAgg0
  z0 := Try.sizeOf0
  v0 := Try.zeroValue0
  t3 := Try.underlying3
  a3 := Try.isAgg3
  z3 := Try.sizeOf3
  v3 := Try.zeroValue3
  t4 := Try.underlying4
  a4 := Try.isAgg4
  z4 := Try.sizeOf4
  v4 := Try.zeroValue4
  t5 := Try.underlying5
  a5 := Try.isAgg5
  z5 := Try.sizeOf5
  v5 := Try.zeroValue5
  t9 := Try.underlying9
  a9 := Try.isAgg9
  z9 := Try.sizeOf9
  v9 := Try.zeroValue9
  t22 := Try.underlying28
  a22 := Try.isAgg28
  z22 := Try.sizeOf28
  v22 := Try.zeroValue28
  t25 := Try.underlying134
  a25 := Try.isAgg134
  z25 := Try.sizeOf134
  v25 := Try.zeroValue134
  t39 := Try.underlying150
  a39 := Try.isAgg150
  z39 := Try.sizeOf150
  v39 := Try.zeroValue150
  t45 := Try.underlying161
  a45 := Try.isAgg161
  z45 := Try.sizeOf161
  v45 := Try.zeroValue161
  t46 := Try.underlying162
  a46 := Try.isAgg162
  z46 := Try.sizeOf162
  v46 := Try.zeroValue162
  t50 := Try.underlying117
  a50 := Try.isAgg117
  z50 := Try.sizeOf117
  v50 := Try.zeroValue117
  t53 := Try.underlying168
  a53 := Try.isAgg168
  z53 := Try.sizeOf168
  v53 := Try.zeroValue168
  t55 := Try.underlying30
  a55 := Try.isAgg30
  z55 := Try.sizeOf30
  v55 := Try.zeroValue30
  t66 := Try.underlying176
  a66 := Try.isAgg176
  z66 := Try.sizeOf176
  v66 := Try.zeroValue176
  t70 := Try.underlying179
  a70 := Try.isAgg179
  z70 := Try.sizeOf179
  v70 := Try.zeroValue179
  t76 := Try.underlying183
  a76 := Try.isAgg183
  z76 := Try.sizeOf183
  v76 := Try.zeroValue183
  t77 := Try.underlying184
  a77 := Try.isAgg184
  z77 := Try.sizeOf184
  v77 := Try.zeroValue184 }
end Go.Proofs.Ytngkhligjkcbmaa

namespace Go.Proofs.Ytngkhligjkcbmaa
open Go.RowKit
set_option linter.unusedVariables false

/-- A slice of writes that can be read. -/
def WrRd (w : World) (A : Option Addr) (ws : List (Int × Int)) : Prop := ∀ k (h : k < ws.length), ∃ g off, A = some ⟨g, off, none⟩ ∧ g < w.heap.size ∧
  w.cell? ⟨g, off + k * 2, none⟩ = some (.int .u64 ws[k].1) ∧ w.cell? ⟨g, off + k * 2 + 1, none⟩ = some (.int .u64 ws[k].2)
theorem WrRd.keep {w w' : World} {A : Option Addr} {ws : List (Int × Int)} (h : WrRd w A ws) (hb : ∀ b, OwnB A b → b < w.heap.size → w'.heap[b]? = w.heap[b]?) (hs : w.heap.size ≤ w'.heap.size) : WrRd w' A ws := by
  intro k hk
  obtain ⟨g, off, hA, hg, c1, c2⟩ := h k hk
  have e := hb g (by rw [hA]; simp [OwnB]) hg
  exact ⟨g, off, hA, by omega, (World.cell?_of_block (w := w) (a := ⟨g, off + k * 2, none⟩) e).trans c1, (World.cell?_of_block (w := w) (a := ⟨g, off + k * 2 + 1, none⟩) e).trans c2⟩
theorem WrRd.below {w w' : World} {A : Option Addr} {ws : List (Int × Int)} (h : WrRd w A ws) (hb : Below w.heap.size w w') : WrRd w' A ws := h.keep (fun b _ hl => hb.block b hl) hb.size
def encW (x : Int × Int) : List Value := [.int .u64 x.1, .int .u64 x.2]
def cfW (x y : Int × Int) : Int := Lib.compareInt x.1 y.1

set_option maxHeartbeats 400000 in
theorem wrCmp (x y : Int × Int) (W : World) : Calls Try.prog 81 #[.agg #[.int .u64 x.1, .int .u64 x.2], .agg #[.int .u64 y.1, .int .u64 y.2]] W fun e w' => e = .returned (.int .i64 (cfW x y)) ∧ ∃ q os', w' = Go.Sort.grow (W.drewN q) os' := by
  have hc := fun W => cmpU_any W x.1 y.1
  change ∀ W, Calls _ _ _ W fun e w' => e = .returned (.int .i64 (cfW x y)) ∧ W = w' at hc
  generalize cfW x y = r at hc ⊢
  go_enter Try.func81, Try.ntmps81
  go_wp2_with (go_at_call 82; refine (hc _).mono ?_; rintro e w' ⟨rfl, rfl⟩)
  go_ret
  exact ⟨rfl, 0, _, by rw [Go.Sort.alloc_eq_grow, Go.Sort.alloc_eq_grow, Go.Sort.grow_grow]; rfl⟩
theorem ltW (x y : Int × Int) : ltOf cfW x y = decide (x.1 < y.1) := by
  unfold ltOf cfW Lib.compareInt
  by_cases h1 : x.1 < y.1
  · simp [h1]
  · by_cases h2 : y.1 < x.1 <;> simp [h1, h2]
theorem swoW : Go.Sort.SWO (ltOf cfW) where
  irrefl x := by rw [ltW]; simp
  trans x y z h1 h2 := by rw [ltW] at *; simp at *; omega
  ntrans x y z h1 h2 := by rw [ltW] at *; simp at *; omega

theorem holds_wr {w : World} {g off n c : Nat} {ss : List (Int × Int)} (h : Sl 34 2 w (some ⟨g, off, none⟩) n c (wcells ss)) (hn : ss.length = n) : Go.Sort.HoldsK encW 2 w g off ss.toArray := by
  intro t ht
  have ht' : t < ss.length * 2 := by simpa using ht
  rw [Go.Sort.get_flatK _ _ _ _ (by simpa using ht')]
  have hk : t / 2 < ss.length := by omega
  obtain ⟨e1, e2⟩ := wcells_get ss (t / 2) hk
  have c1 := h.cells _ rfl _ _ e1
  have c2 := h.cells _ rfl _ _ e2
  have h1 : ∀ j, (⟨g, off, none⟩ : Addr).add j = ⟨g, off + j, none⟩ := by intro j; unfold Addr.add; split <;> simp_all
  rw [h1] at c1 c2
  have hg : (ss.toArray)[t / 2]! = ss[t / 2] := by simp [hk]
  have hfz : w.frozen? ⟨g, off + t, none⟩ = false := by
    rcases h.2 with ⟨hx, _⟩ | ⟨g', o', cur, hA, hC, _⟩
    · cases hx
    · have : g = g' := by cases hA; rfl
      subst this
      exact hC.frozen _
  refine ⟨?_, hfz⟩
  rw [hg]
  rcases Nat.mod_two_eq_zero_or_one t with hm | hm
  · rw [hm, show off + t = off + 2 * (t / 2) by omega]
    simpa [encW] using c1
  · rw [hm, show off + t = off + (2 * (t / 2) + 1) by omega]
    simpa [encW] using c2
theorem wrRd_of_holds {w : World} {g off : Nat} {d : Array (Int × Int)} (h : Go.Sort.HoldsK encW 2 w g off d) (hg : g < w.heap.size) : WrRd w (some ⟨g, off, none⟩) d.toList := by
  intro k hk
  have hk' : k < d.size := by simpa using hk
  have h0 := (h (k * 2) (by simp; omega)).1
  have h1 := (h (k * 2 + 1) (by simp; omega)).1
  rw [Go.Sort.get_flatK _ _ _ _ (by omega)] at h0 h1
  have e0 : k * 2 / 2 = k := by omega
  have e1 : (k * 2 + 1) / 2 = k := by omega
  have e2 : k * 2 % 2 = 0 := by omega
  have e3 : (k * 2 + 1) % 2 = 1 := by omega
  have hd : d[k]! = d[k] := by simp [hk']
  rw [e0, e2, hd] at h0
  rw [e1, e3, hd] at h1
  refine ⟨g, off, rfl, hg, ?_, ?_⟩
  · simpa [encW] using h0
  · simpa [encW, Nat.add_assoc] using h1
theorem ch_sortWorld {w : World} {g off n : Nat} {d : Array (Int × Int)} {os : Array Obj} : Ch (At g) w (sortWorldK encW 2 w g off n d os) := by
  refine ⟨rfl, rfl, rfl, ?_, fun b hb hS => ?_⟩
  · exact size_sortWorldK_c encW 2 w g off n d os
  · have hne : g ≠ b := fun h => hS h.symm
    unfold sortWorldK Go.Sort.grow Go.Sort.putRowK Go.Sort.putRow Go.Sort.mapBlock Go.Sort.ahead
    simp only
    rw [Array.getElem?_append_left (by simpa using hb), Array.getElem?_modify, if_neg hne]

set_option maxHeartbeats 1000000 in
theorem sortW_ok (w : World) (g off n c : Nat) (ss : List (Int × Int)) (hn : ss.length = n) (hS : Sl 34 2 w (some ⟨g, off, none⟩) n c (wcells ss)) (hb : n ≤ 1000000) :
    Calls Try.prog 80 #[.slice (some ⟨g, off, none⟩) n c, .func (.func 81) #[] #[]] w fun e w' => e = .returned (.tuple #[]) ∧ ∃ ws : List (Int × Int), ws.Perm ss ∧ (ws.Pairwise fun a b => a.1 ≤ b.1) ∧ WrRd w' (some ⟨g, off, none⟩) ws ∧ Ch (At g) w w' := by
  have eg : ∀ args w, (callFunc 81 args).run Try.prog w = .ok (.enter 81 args) w := enters_of Try.func81 (by kernel_rfl) rfl
  have hgl : g < w.heap.size := by
    rcases hS.2 with ⟨hx, _⟩ | ⟨g', o', cur, hA, hC, _⟩
    · cases hx
    · have : g = g' := by cases hA; rfl
      subst this
      exact hC.lt
  have hH := holds_wr hS hn
  have hsz : ss.toArray.size = n := by simpa using hn
  have hcon := AnyQ.slices_SortFunc sortW 2 Try.isAgg34 Try.sizeOf34 encW (fun _ => rfl) (fun x v hv => by simp [encW] at hv; rcases hv with rfl | rfl <;> rfl) cfW swoW 81 #[] g off c ss.toArray w eg (fun _ _ _ _ x y => wrCmp x y _) hH hgl (by rw [hsz]; omega)
  rw [hsz] at hcon
  change Calls Try.prog 80 _ _ _ at hcon
  refine hcon.mono ?_
  rintro e w' ⟨rfl, d', m, os, hp, hs, rfl⟩
  obtain ⟨p1, _, p3⟩ := hp
  have hd : d'.size = n := by rw [p1]; exact hsz
  have hx1 : d'.extract 0 n = d' := by rw [← hd]; simp
  have hx2 : ss.toArray.extract 0 n = ss.toArray := by rw [← hsz]; simp
  rw [hx1, hx2] at p3
  refine ⟨rfl, d'.toList, p3, ?_, ?_, ch_sortWorld⟩
  · rw [List.pairwise_iff_getElem]
    intro i j hi hj hij
    have hi' : i < d'.size := by simpa using hi
    have hj' : j < d'.size := by simpa using hj
    have := hs i j (Nat.zero_le _) hij (by rw [← hd]; exact hj')
    rw [ltW] at this
    have hdi : d'[i]! = d'[i] := by simp [hi']
    have hdj : d'[j]! = d'[j] := by simp [hj']
    rw [hdi, hdj] at this
    simp at this ⊢
    omega
  · exact wrRd_of_holds (holdsK_sortWorldK_c encW 2 w g off ss.toArray d' m os hH hgl p1) (Nat.lt_of_lt_of_le hgl (size_sortWorldK_c encW 2 w g off m d' os))
end Go.Proofs.Ytngkhligjkcbmaa

namespace Go.Proofs.Ytngkhligjkcbmaa
open Go.RowKit
set_option linter.unusedVariables false

/-- What was collected of a map so far. -/
structure Coll (nt : Int → Option Int) (left : Lit → Bool) (ss : List (Int × Int)) : Prop where
  nd : (ss.map (·.1)).Nodup
  mem : ∀ p ∈ ss, nt p.1 = some p.2 ∧ left (.int .u64 p.1) = false
  all : ∀ x, (Lit.int .u64 x).wf = true → ∀ c, nt x = some c → left (.int .u64 x) = true ∨ (x, c) ∈ ss
theorem Coll.step {nt : Int → Option Int} {left : Lit → Bool} {ss : List (Int × Int)} (h : Coll nt left ss) {x c : Int} (hl : left (.int .u64 x) = true) (hc : nt x = some c) : Coll nt (fun z => left z && !z.sameKey (.int .u64 x)) (ss ++ [(x, c)]) := by
  have hn : ∀ p ∈ ss, p.1 ≠ x := fun p hp he => by have := (h.mem p hp).2; rw [he, hl] at this; cases this
  refine ⟨?_, fun p hp => ?_, fun y hy d hd => ?_⟩
  · rw [List.map_append, List.nodup_append]
    refine ⟨h.nd, by simp, fun a ha b hb => ?_⟩
    obtain ⟨p, hp, rfl⟩ := List.mem_map.1 ha
    simp at hb
    subst hb
    exact hn p hp
  · rcases List.mem_append.1 hp with hp | hp
    · exact ⟨(h.mem p hp).1, by rw [(h.mem p hp).2]; rfl⟩
    · simp at hp
      subst hp
      exact ⟨hc, by simp [Lit.sameKey]⟩
  · rcases h.all y hy d hd with h1 | h1
    · by_cases he : y = x
      · subst he
        rw [hc] at hd
        injection hd with hd
        subst hd
        exact .inr (by simp)
      · exact .inl (by simp [h1, Lit.sameKey, he])
    · exact .inr (List.mem_append_left _ h1)
/-- The buffered words, by increasing offsets. -/
structure Sorted (nt : Int → Option Int) (ws : List (Int × Int)) : Prop where
  asc : ws.Pairwise fun a b => a.1 < b.1
  mem : ∀ p ∈ ws, nt p.1 = some p.2
  all : ∀ x, (Lit.int .u64 x).wf = true → ∀ c, nt x = some c → (x, c) ∈ ws
theorem Coll.sorted {nt : Int → Option Int} {left : Lit → Bool} {ss ws : List (Int × Int)} (h : Coll nt left ss) (h0 : ∀ kl, left kl = false) (hp : ws.Perm ss) (hs : ws.Pairwise fun a b => a.1 ≤ b.1) : Sorted nt ws := by
  have hnd : (ws.map (·.1)).Nodup := (hp.map _).nodup_iff.2 h.nd
  refine ⟨?_, fun p hm => (h.mem p (hp.mem_iff.1 hm)).1, fun x hx c hc => ?_⟩
  · have h2 : ws.Pairwise fun a b => a.1 ≠ b.1 := List.pairwise_map.1 hnd
    exact (hs.and h2).imp fun ⟨a, b⟩ => by omega
  · rcases h.all x hx c hc with h1 | h1
    · rw [h0] at h1; cases h1
    · exact hp.mem_iff.2 h1
def WritesPost (w : World) (nt : Int → Option Int) (e : Ending) (w' : World) : Prop :=
  ∃ (A : Option Addr) (n c : Nat) (ws : List (Int × Int)), e = .returned (.slice A n c) ∧ ws.length = n ∧ n ≤ c ∧ c ≤ 9223372036854775807 ∧ WrRd w' A ws ∧ Sorted nt ws ∧ (∀ b, OwnB A b → w.heap.size ≤ b) ∧ Below w.heap.size w w'
/-- The loop's invariant. -/
def WInv (w : World) (mb r n : Nat) (D : DataW Unit) (nt : Int → Option Int) (left : Lit → Bool) (cnt : Nat) (A : Option Addr) (m c : Nat) (ss : List (Int × Int)) (wr : World) : Prop :=
  wr.ranges Try.prog 30 (plainElem Try.prog 30) mb r n D left cnt ∧ ss.length = m ∧ Sl 34 2 wr A m c (wcells ss) ∧ Coll nt left ss ∧ m + cnt ≤ Maps.size D ∧ (∀ b, OwnB A b → w.heap.size < b) ∧ Below w.heap.size w wr

set_option maxRecDepth 100000 in
set_option maxHeartbeats 4000000 in
theorem ovWrites {F : Nat → Prop} {o : Nat} {B : Value} {S : OvS} (w : World) (h : OV F o B w S) (hlog : S.log.length < 1000000) :
    Calls Try.prog 45 #[.pointer (some ⟨o, 0, none⟩)] w (WritesPost w (lastV S.log)) := by
  obtain ⟨h0, hl⟩ := h.base
  obtain ⟨hF, mb, la, lc, ma, mc, h2, _⟩ := h
  have c1 : w.cell? ⟨o, 1, none⟩ = some (.map (some mb)) := h2.ov.cell_some rfl
  obtain ⟨D, hown, hD⟩ := h2.mp
  have hsz : Maps.size D ≤ S.log.length := hown.size_le
  have HO := Lib.hid hown
  have HD := Lib.hid hD
  have hml := hown.lt
  obtain ⟨n, hn⟩ : ∃ n, S.log.length = n := ⟨_, rfl⟩
  obtain ⟨nt, hnt⟩ : ∃ nt, lastV S.log = nt := ⟨_, rfl⟩
  rw [hn] at HO hlog hsz
  rw [hnt] at HD ⊢
  clear hF h2 hown hD hn hnt h0
  go_enter Try.func45, Try.ntmps45
  go_wp2_with (first | (at_range; refine wpList_range_own _ rfl _ 107 rfl 30 30 keyedU under_words _ mb n D rfl HO.out ?_; intro w0 hrg0 hg0 hs0) | go_in)
  go_frame
  have hI0 : WInv w mb w.heap.size n D nt (Maps.has D) (Maps.size D) none 0 0 [] w0 := by
    refine ⟨hrg0, rfl, Sl.nil, ⟨by simp, by simp, fun x hx c hc => .inl ?_⟩, by omega, by simp [OwnB], ⟨hg0.os, hg0.tape, hg0.output, hg0.size, fun b hb => hg0.block b hb (by simp)⟩⟩
    rw [(HD.out x hx).1, hc]; rfl
  have HI0 := Lib.hid hI0
  obtain ⟨r, hr⟩ : ∃ r, w.heap.size = r := ⟨_, rfl⟩
  have HR := Lib.hid hr
  rw [hr] at HI0 ⊢
  clear hrg0 hg0 hs0 hI0 c1 hl HO hr
  go_loopw [3, 4, 5, 13, 14, 15, 16, 17, 18, 19, 20, 21, 22, 23] (fun ws _ _ _ _ _ _ _ _ _ _ _ _ _ wr => ∃ left cnt A m c ss, ws = .slice A m c ∧ WInv w mb r n D nt left cnt A m c ss wr) (fun ws _ _ _ _ _ _ _ _ _ _ _ _ _ wr => wr.rangeLeft mb r)
  case atStart => exact ⟨_, _, none, 0, 0, [], rfl, HI0.out⟩
  case round =>
    clear HI0
    obtain ⟨left, cnt, A, m, c, ss, rfl, hrg, hm, hS, hC, hcnt, hA, hB⟩ := hrel
    have HRG := Lib.hid hrg
    have HM := Lib.hid hm
    have HS := Lib.hid hS
    have HC := Lib.hid hC
    have HA := Lib.hid hA
    have HB := Lib.hid hB
    have HLE := Lib.hid hrg.left_eq
    clear hrg hm hS hC hA hB
    go_wp2_with (first | (at_next; refine wpList_next_ranges_ii _ rfl _ rfl 30 30 .u64 .u64 keyedU Try.underlying30 Try.underlying30 mb _ _ _ _ _ rfl HRG.out ?_ ?_) | go_in)
    · intro hc0 hl0
      have HL0 := Lib.hid hl0
      clear hl0 hc0
      have hAc : m ≤ c ∧ c ≤ 9223372036854775807 := by
        rcases HS.out.2 with ⟨_, h1, h3⟩ | ⟨_, _, _, _, _, y1, y2, _⟩
        · exact ⟨by omega, by omega⟩
        · exact ⟨y1, by unfold maxLen at y2; omega⟩
      have HAC := Lib.hid hAc
      clear hAc
      by_cases hm0 : m = 0
      · subst hm0
        have hss : ss = [] := List.eq_nil_of_length_eq_zero HM.out
        have hcon := AnyF.slices_SortFunc_none sortW A c (.func (.func 81) #[] #[]) wr
        change Calls Try.prog 80 _ _ _ at hcon
        have HCON := Lib.hid hcon
        clear hcon
        go_wp2_with (go_at_call 80; refine HCON.out.mono ?_; rintro e w' ⟨rfl, rfl⟩)
        go_ret
        refine ⟨A, 0, c, [], rfl, rfl, by omega, HAC.out.2, fun k hk => by simp at hk, ?_, fun b hb => Nat.le_of_lt (HA.out b hb), HB.out⟩
        have := HC.out
        rw [hss] at this
        exact this.sorted HL0.out (List.Perm.refl _) List.Pairwise.nil
      · obtain ⟨g, off, hA', hg, _⟩ := HS.out.at_ (j := 0) (by have := HS.out.1; omega)
        subst hA'
        have HCON := Lib.hid (sortW_ok wr g off m c ss HM.out HS.out (by omega))

        go_wp2_with (go_at_call 80; refine HCON.out.mono ?_; rintro e w' ⟨rfl, ws, hp, hs, hrd, hch⟩; have HP := Lib.hid hp; have HSS := Lib.hid hs; have HRD := Lib.hid hrd; have HCH := Lib.hid hch; clear hp hs hrd hch)
        go_ret
        have hgw : w.heap.size ≤ g := Nat.le_of_lt (HA.out g (by simp [OwnB]))
        refine ⟨some ⟨g, off, none⟩, m, c, ws, rfl, by rw [HP.out.length_eq]; exact HM.out, HAC.out.1, HAC.out.2, HRD.out, HC.out.sorted HL0.out HP.out HSS.out, fun b hb => Nat.le_of_lt (HA.out b hb), ?_⟩
        exact bl_ch HB.out HCH.out (fun b hb => by rw [show b = g from hb]; exact hgw)
    · intro x v w2 cnt2 hwx hwv hlx hat hrg2 hlt2 hg2 hs2 hen
      have hmb : m ≤ 1000000 := by omega
      have hnt : nt x = some v := by
        have h1 := Maps.has_true_of_atKey hat
        rw [(HD.out x hwx).1] at h1
        obtain ⟨v', hv'⟩ := Option.isSome_iff_exists.1 h1
        have h2 := (HD.out x hwx).2 v' hv' .nil
        rw [hat .nil] at h2
        injection h2 with h2
        injection h2 with _ h2
        rw [hv', h2]
      have hgb : ∀ b, b ≠ r → w2.heap[b]? = wr.heap[b]? := fun b hb => by
        by_cases hbl : b < wr.heap.size
        · exact hg2.block b hbl (fun h => hb (by cases h; rfl))
        · rw [Array.getElem?_eq_none (by omega), Array.getElem?_eq_none (by omega)]
      have HS2 : Hid (Sl 34 2 w2 A m c (wcells ss)) := HS.out.keep (fun b hb => hgb b (by have := HA.out b hb; rw [HR.out] at this; omega))
      have HNT := Lib.hid hnt
      have HRG2 := Lib.hid hrg2
      have HG2 := Lib.hid hg2
      have HGB := Lib.hid hgb
      have HLX := Lib.hid hlx
      have HS2z := Lib.hid hs2
      clear hnt hrg2 hg2 hgb hlx hat hs2 hwx hwv
      go_wp2_with (first
        | (at_builtin; refine wpList_append_sl rfl (.tmp 18) (.tmp 22) 28 rfl 34 (.agg #[.int .u64 0, .int .u64 0]) 2 16 rfl (by omega) Try.underlying28 info_write (by omega) A m c (wcells ss) ⟨w2.heap.size, 0, none⟩ 1 1 [.int .u64 x, .int .u64 v] rfl rfl (HS2.out.keep (fun b hb => Below.heap_alloc _ _ b (HS2.out.lt hb))) rfl (by omega) (cells_two w2 34 _ _) (by simp; exact ⟨rfl, rfl⟩) (by omega) ?_; intro A2 c2' w3 HO2 HC2 HW2 HN2)
        | go_in)
      have hrl := HRG.out.lt
      have hz2 := HS2z.out
      have hr2 := HR.out
      have hw3 : ∀ b, b ≤ r → b < w2.heap.size → w3.heap[b]? = w2.heap[b]? := fun b hb hl => (HC2.out.block b (by simp; omega) (fun h => by have := HA.out b h; omega)).trans (Below.heap_alloc _ _ b hl)
      have hbr : Below w.heap.size w w2 := HB.out.trans ⟨HG2.out.os, HG2.out.tape, HG2.out.output, HG2.out.size, fun b hb => HGB.out b (by omega)⟩
      have hrg3 := ranges_keep HRG2.out (hw3 mb (by omega) (by have := HB.out.size; omega)) (hw3 r (Nat.le_refl _) (by omega))
      refine ⟨⟨_, _, A2, m + 1, c2', ss ++ [(x, v)], rfl, hrg3, by simp [HM.out], ?_, HC.out.step HLX.out HNT.out, by omega, ?_, ?_⟩, ?_⟩
      · have e1 : wcells (ss ++ [(x, v)]) = wcells ss ++ [.int .u64 x, .int .u64 v] := by simp [wcells]
        rw [e1]; exact HO2.out
      · intro b hb
        rcases HW2.out b hb with h | h
        · exact HA.out b h
        · rw [h]; simp; have := HB.out.size; omega
      · exact bl_ch (bl_alloc hbr _) HC2.out (fun b hb => Nat.le_of_lt (HA.out b hb))
      · rw [hrg3.left_eq, HLE.out]; exact hlt2
end Go.Proofs.Ytngkhligjkcbmaa

namespace Go.Proofs.Ytngkhligjkcbmaa
open Go.RowKit
set_option linter.unusedVariables false

theorem asc_eq : ∀ (l1 l2 : List (Int × Int)), (l1.Pairwise fun a b => a.1 < b.1) → (l2.Pairwise fun a b => a.1 < b.1) → (∀ p, p ∈ l1 ↔ p ∈ l2) → l1 = l2
  | [], [], _, _, _ => rfl
  | [], b :: t, _, _, h => by have := (h b).2 (by simp); simp at this
  | a :: s, [], _, _, h => by have := (h a).1 (by simp); simp at this
  | a :: s, b :: t, h1, h2, h => by
    obtain ⟨a1, a2⟩ := List.pairwise_cons.1 h1
    obtain ⟨b1, b2⟩ := List.pairwise_cons.1 h2
    have hab : a = b := by
      rcases List.mem_cons.1 ((h a).1 (by simp)) with e | e
      · exact e
      · rcases List.mem_cons.1 ((h b).2 (by simp)) with e' | e'
        · exact e'.symm
        · have := b1 a e
          have := a1 b e'
          omega
    subst hab
    congr 1
    refine asc_eq s t a2 b2 (fun p => ?_)
    constructor
    · intro hp
      rcases List.mem_cons.1 ((h p).1 (List.mem_cons_of_mem _ hp)) with e | e
      · subst e; have := a1 p hp; omega
      · exact e
    · intro hp
      rcases List.mem_cons.1 ((h p).2 (List.mem_cons_of_mem _ hp)) with e | e
      · subst e; have := b1 p hp; omega
      · exact e
/-- The sorted words are those of a list in order. -/
theorem Sorted.eq {nt : Int → Option Int} {ws vs : List (Int × Int)} (h : Sorted nt ws) (hv : vs.Pairwise fun a b => a.1 < b.1) (hm : ∀ p ∈ vs, nt p.1 = some p.2 ∧ (Lit.int .u64 p.1).wf = true) (ha : ∀ x c, nt x = some c → (x, c) ∈ vs) : ws = vs :=
  asc_eq ws vs h.asc hv (fun p => ⟨fun hp => ha _ _ (h.mem p hp), fun hp => h.all p.1 (hm p hp).2 p.2 (hm p hp).1⟩)

section
variable {F : Nat → Prop} {o T n : Nat} {xs : List Int} {S : OvS}
theorem ovStoreZ (w : World) (h : OV F o (bT T) w S) (hB : BaseM T n xs w) (off : Int) (k : Nat) (hoff : off = 8 * (k : Int)) (v : Int) (hk : k < 8 * n) (hn : n ≤ 4096) (hv : 0 ≤ v ∧ v < 18446744073709551616) (hlog : S.log.length < 1000000) :
    Calls Try.prog 24 #[.pointer (some ⟨o, 0, none⟩), .int .u64 off, .int .u64 v] w fun e w' => e = .returned (.tuple #[]) ∧ OV F o (bT T) w' (S.put off v) ∧ Ch F w w' := by
  subst hoff; exact ovStore w h hB k v hk hn hv hlog
theorem ovLoadZ (w : World) (h : OV F o (bT T) w S) (hB : BaseM T n xs w) (off : Int) (k : Nat) (hoff : off = 8 * (k : Int)) (v : Int) (hk : xs[k]? = some v) (hk2 : k < 1000000) :
    Calls Try.prog 40 #[.pointer (some ⟨o, 0, none⟩), .int .u64 off] w fun e w' => e = .returned (.int .u64 ((lastV S.log off).getD v)) ∧ w = w' := by
  subst hoff; exact ovLoad w h hB k v hk hk2
theorem baseLoadZ {w : World} (hB : BaseM T n xs w) (off : Int) (k : Nat) (hoff : off = 8 * (k : Int)) (v : Int) (hk : xs[k]? = some v) : Calls Try.prog 54 #[.pointer (some ⟨T, 0, none⟩), .int .u64 off] w fun e w' => e = .returned (.int .u64 v) ∧ w = w' := by
  subst hoff; exact hB.load w (Below.refl _ _) k v hk
end

def a1S : OvS := ⟨[(0, 5)], [], 0, false⟩
def a2S : OvS := ⟨[(0, 5)], [(0, 1)], 1, false⟩
def a3S : OvS := ⟨[(0, 5), (0, 6)], [(0, 1)], 1, false⟩
def a4S : OvS := ⟨[(0, 5), (0, 6), (8, 7)], [(0, 1)], 1, false⟩
theorem a1_eq : (⟨[], [], 0, false⟩ : OvS).put 0 5 = a1S := rfl
theorem a2_eq : a1S.mark = a2S ∧ a1S.markN = 0 := by refine ⟨?_, rfl⟩; simp [OvS.mark, OvS.hit, a1S, a2S]; decide +kernel
theorem a3_eq : a2S.put 0 6 = a3S := rfl
theorem a4_eq : a3S.put 8 7 = a4S := rfl
theorem a5_eq : a4S.roll 0 = some a2S := rfl
theorem nt4 (x : Int) : lastV a4S.log x = if x = 8 then some 7 else if x = 0 then some 6 else none := by
  simp only [lastV, a4S, List.foldl]
  by_cases h8 : x = 8
  · subst h8; rfl
  · have h8' : ¬ (8 : Int) = x := fun h => h8 h.symm
    by_cases h0 : x = 0
    · subst h0; rfl
    · have h0' : ¬ (0 : Int) = x := fun h => h0 h.symm
      simp [h8, h8', h0, h0']
theorem nt2 (x : Int) : lastV a2S.log x = if x = 0 then some 5 else none := by
  simp only [lastV, a2S, List.foldl]
  by_cases h0 : x = 0
  · subst h0; rfl
  · have h0' : ¬ (0 : Int) = x := fun h => h0 h.symm
    simp [h0, h0']
theorem ws4 {ws : List (Int × Int)} (h : Sorted (lastV a4S.log) ws) : ws.length = 2 := by
  have := h.eq (vs := [(0, 6), (8, 7)]) (by simp) (fun p hp => by simp at hp; rcases hp with rfl | rfl <;> exact ⟨by rw [nt4]; rfl, by decide⟩) (fun x c hc => by
    rw [nt4] at hc
    split at hc
    · rename_i h; injection hc with hc; subst h; subst hc; simp
    · split at hc
      · rename_i h; injection hc with hc; subst h; subst hc; simp
      · cases hc)
  rw [this]; rfl
theorem ws2 {ws : List (Int × Int)} (h : Sorted (lastV a2S.log) ws) : ws.length = 1 := by
  have := h.eq (vs := [(0, 5)]) (by simp) (fun p hp => by simp at hp; subst hp; exact ⟨by rw [nt2]; rfl, by decide⟩) (fun x c hc => by
    rw [nt2] at hc
    split at hc
    · rename_i h; injection hc with hc; subst h; subst hc; simp
    · cases hc)
  rw [this]; rfl
theorem frW1 : ∃ v, frW[1]? = some v ∧ (v != 7) = true := ⟨_, rfl, by decide +kernel⟩
theorem frW0 : ∃ v, frW[0]? = some v := ⟨_, rfl⟩
theorem pst56 : persistP 56 2 = [(2, 0, 0), (2, 64, 0), (3, 0, 0)] := by decide +kernel

set_option maxRecDepth 100000 in
set_option maxHeartbeats 4000000 in
theorem awake10_ok (w : World) : Calls Try.prog 11 #[] w fun e w' => e = .returned (.bool true) ∧ Below w.heap.size w w' := by
  have HFR := Lib.hid (fresh_ok w)
  have HPS : Hid (∀ W, Calls Try.prog 59 #[.int .u64 56, .int .i64 2] W (StoPost W [(2, 0, 0), (2, 64, 0), (3, 0, 0)])) := fun W => by
    have := memPersist W 56 2 (by omega) (by omega)
    rwa [pst56] at this
  go_enter Try.func11, Try.ntmps11
  go_upto_region 7 with (first
    | (go_at_call 20; refine HFR.out.mono ?_; rintro e w1 ⟨d, L, rfl, hD, hb, hf⟩; have HD := Lib.hid hD; have HB1 := Lib.hid hb; have HF1 := Lib.hid hf; clear hD hb hf)
    | (go_at_call 59; refine (HPS.out _).mono ?_; rintro e w2 ⟨A, c, rfl, hS, hb, hO⟩; have HB2 := Lib.hid hb; obtain ⟨g, off, hA, hgl, k1, k2, k3⟩ := hS.ins (k := 1) (by decide); obtain ⟨g', off', hA', hgl', j1, j2, j3⟩ := hS.ins (k := 2) (by decide); subst hA; cases hA'; clear hb hS hO))
  have hDV : DV (fun b => w.heap.size ≤ b) d L.t w1 (newS frW 4) := ⟨fun b hb => by have := HB1.out.size; omega, L, rfl, HD.out, HF1.out⟩
  have hBM := (baseM hDV (new_on frW 4 frW_length) 0 (by omega)).below HB2.out
  have HBM := Lib.hid hBM
  have HB02 : Hid (Below w.heap.size w w2) := HB1.out.trans (HB2.out.mono HB1.out.size)
  have HT0 := Lib.hid (fun W (hW : Below w2.heap.size w2 W) => thread0 ((HD.out.below HB2.out).below hW))
  obtain ⟨T, hT⟩ : ∃ T, L.t 0 = T := ⟨_, rfl⟩
  rw [hT] at HBM HT0
  clear hDV hBM hgl k1 k2 k3 hgl' j1 j2 j3 hT
  have HOV := Lib.hid (fun W => ovOver W T)
  unfold bT at HOV
  go_upto_region 8 with (first
    | (go_at_call 22; refine (HT0.out _ (Below.refl _ _)).mono ?_; rintro e w' ⟨rfl, rfl⟩)
    | (go_at_call 21; refine (HOV.out _).mono ?_; rintro e w3 ⟨o, rfl, hO, hb⟩; have HO3 : Hid (OV (fun b => w2.heap.size ≤ b) o (bT T) w3 ⟨[], [], 0, false⟩) := hO; have HB3 := Lib.hid hb; clear hO hb))
  have HS := Lib.hid (ovStoreZ w3 HO3.out (HBM.out.below HB3.out) 0 0 rfl 5 (by omega) (by omega) (by omega) (by simp))
  rw [a1_eq] at HS
  go_upto_region 9 with (go_at_call 24; refine HS.out.mono ?_; rintro e w4 ⟨rfl, hO, hc⟩; have HO4 := Lib.hid hO; have HB4 : Hid (Below w2.heap.size w2 w4) := HB3.out.trans ((hc.to_below HB3.out.size (fun b hb => hb)).mono (Nat.le_refl _)); clear hO hc)
  clear HS HO3 HB3
  have HS := Lib.hid (ovMark w4 HO4.out (by simp [a1S]) (by simp [a1S]))
  rw [a2_eq.1, a2_eq.2] at HS
  go_upto_region 10 with (go_at_call 26; refine HS.out.mono ?_; rintro e w5 ⟨rfl, hO, hc⟩; have HO5 := Lib.hid hO; have HB5 : Hid (Below w2.heap.size w2 w5) := HB4.out.trans ((hc.to_below HB4.out.size (fun b hb => hb)).mono (Nat.le_refl _)); clear hO hc)
  clear HS HO4 HB4
  have HS := Lib.hid (ovStoreZ w5 HO5.out (HBM.out.below HB5.out) 0 0 rfl 6 (by omega) (by omega) (by omega) (by simp [a2S]))
  rw [a3_eq] at HS
  go_upto_region 11 with (go_at_call 24; refine HS.out.mono ?_; rintro e w6 ⟨rfl, hO, hc⟩; have HO6 := Lib.hid hO; have HB6 : Hid (Below w2.heap.size w2 w6) := HB5.out.trans ((hc.to_below HB5.out.size (fun b hb => hb)).mono (Nat.le_refl _)); clear hO hc)
  clear HS HO5 HB5
  have HS := Lib.hid (ovStoreZ w6 HO6.out (HBM.out.below HB6.out) 8 1 rfl 7 (by omega) (by omega) (by omega) (by simp [a3S]))
  rw [a4_eq] at HS
  go_upto_region 12 with (go_at_call 24; refine HS.out.mono ?_; rintro e w7 ⟨rfl, hO, hc⟩; have HO7 := Lib.hid hO; have HB7 : Hid (Below w2.heap.size w2 w7) := HB6.out.trans ((hc.to_below HB6.out.size (fun b hb => hb)).mono (Nat.le_refl _)); clear hO hc)
  clear HS HO6 HB6
  have HW1 := Lib.hid (ovWrites w7 HO7.out (by simp [a4S]))
  have HRB := Lib.hid (fun W (hW : Below w7.heap.size w7 W) => ovRollback_ok W (HO7.out.below hW) (by simp [a4S]) (by simp [a4S]) (by simp [Asc, a4S]) (by simp [a4S]) (fun p hp => by simp [a4S] at hp; rcases hp with rfl | rfl | rfl <;> simp) 0 a5_eq)
  obtain ⟨v0, hv0⟩ := frW0
  obtain ⟨v1, hv1, hv7⟩ := frW1
  have HV0 := Lib.hid hv0
  have HV1 := Lib.hid hv1
  clear hv0 hv1
  go_wp2_with (first
    | (go_at_call 45; (with_reducible refine HW1.out.mono ?_); rintro e w8 ⟨A1, n1, c1, ws1, rfl, hl1, _, _, _, hs1, _, hb8⟩; have e1 := ws4 hs1; rw [hl1] at e1; subst e1; have HB8 := Lib.hid hb8; clear hl1 hs1 hb8)
    | (go_at_call 27; refine (HRB.out _ HB8.out).mono ?_; rintro e w9 ⟨rfl, hO, hc⟩; have HO9 := Lib.hid hO; have HB9 : Hid (Below w2.heap.size w2 w9) := (HB7.out.trans (HB8.out.mono HB7.out.size)).trans ((hc.to_below (Nat.le_trans HB7.out.size HB8.out.size) (fun b hb => hb)).mono (Nat.le_refl _)); have HL9 : Hid (Calls Try.prog 40 #[.pointer (some ⟨o, 0, none⟩), .int .u64 0] w9 fun e w' => e = .returned (.int .u64 5) ∧ w9 = w') := (ovLoadZ w9 HO9.out (HBM.out.below HB9.out) 0 0 rfl v0 HV0.out (by omega)); have HW9 := Lib.hid (ovWrites w9 HO9.out (by simp [a2S])); clear hO hc)
    | (go_at_call 40; refine HL9.out.mono ?_; rintro e w' ⟨rfl, rfl⟩)
    | (go_at_call 45; (with_reducible refine HW9.out.mono ?_); rintro e w10 ⟨A2, n2, c2, ws2', rfl, hl2, _, _, _, hs2, _, hb10⟩; have e2 := ws2 hs2; rw [hl2] at e2; subst e2; have HB10 : Hid (Below w2.heap.size w2 w10) := HB9.out.trans (hb10.mono HB9.out.size); have HL10 := Lib.hid (baseLoadZ (HBM.out.below HB10.out) 8 1 rfl v1 HV1.out); clear hl2 hs2 hb10)
    | (go_at_call 22; refine (HT0.out _ HB10.out).mono ?_; rintro e w' ⟨rfl, rfl⟩)
    | (go_at_call 54; refine HL10.out.mono ?_; rintro e w' ⟨rfl, rfl⟩))
  go_ret
  exact ⟨rfl, HB02.out.trans (HB10.out.mono HB02.out.size)⟩
end Go.Proofs.Ytngkhligjkcbmaa
