/- Contracts of record.Seal, record.Open and crc.Burst. -/
import Derived.Test.YtlbgmoijepknbaaDoorCrcD
namespace Go.Proofs.YtlbgmoijepknbaaDoor
open Go.RowKit
set_option linter.unusedVariables false

theorem wpList_append_sl {P : Program} {w : World} {ops : Array Oper} {rest : List Oper} {o : Oper} {a : Act} {Q : Exit → Act → World → Prop} (hgd : o.guard = none) (s x : Operand) (t : TypeId)
    (ho : o.op = .call { callee := .builtin .append, args := #[s, x], argTypes := #[t, t] }) (e : TypeId) (zv : Value) (size by_ : Nat) (hzs : zv.cells.size = size) (hsz : 0 < size) (ht : P.underlying t = some (.slice e)) (hinfo : (P.info? e).map (fun i => (i.zero, i.size, i.bytes)) = some (some zv, size, by_)) (hby : by_ ≤ 64)
    (A : Option Addr) (n c : Nat) (xs : List Value) (ad : Addr) (m d : Nat) (ys : List Value) (hse : a.eval s = .slice A n c) (hxe : a.eval x = .slice (some ad) m d) (hown : Sl e size w A n c xs) (hm : ys.length = m * size) (hm0 : 0 < m) (hr : ∀ j u, ys[j]? = some u → w.cell? (ad.add j) = some u) (hf : ∀ u ∈ ys, u.oneCell' = true)
    (hbound : n + m ≤ 1000000000)
    (h : ∀ A' c' w', Hid (Sl e size w' A' (n + m) c' (xs ++ ys)) → Hid (Ch (OwnB A) w w') → Hid (∀ b, OwnB A' b → OwnB A b ∨ b = w.heap.size) → Hid (c < n + m → A' = some ⟨w.heap.size, 0, none⟩) → wpList P ops Q rest (a.put o.dst (.slice A' (n + m) c')) w') : wpList P ops Q (o :: rest) a w := by
  refine wpList_plain hgd fun K hK => ?_
  obtain ⟨A', c', w', hrun, h1, h2, h3, h4⟩ := run_append_sl (P := P) w t o.type e zv size by_ hzs hsz ht hinfo hby A n c xs hown ad m d ys hm hm0 hr hf hbound
  unfold Oper.wp execOp
  simp only [ho, resolve, invoke, builtin, Sem.run_bind, Sem.run_pure, Result.andThen_ok, List.map_toArray, List.map_cons, List.map_nil, hse, hxe, hrun]
  exact hK _ _ (h A' c' w' h1 h2 h3 h4)
theorem cells_one (w : World) (e : TypeId) (a : Value) : ∀ (j : Nat) (u : Value), [a][j]? = some u → (w.alloc (.cells #[a] e)).cell? ((⟨w.heap.size, 0, none⟩ : Addr).add j) = some u := by
  intro j u hu
  have h1 : (⟨w.heap.size, 0, none⟩ : Addr).add j = ⟨w.heap.size, j, none⟩ := by unfold Addr.add; split <;> simp_all
  rw [h1, (CB.new w e #[a]).cell j]
  simpa using hu

def SealPost (w : World) (n : Nat) (xs : List Int) (e : Ending) (w' : World) : Prop :=
  ∃ g c', e = .returned (.slice (some ⟨g, 0, none⟩) (n + 1) c') ∧ Rd .u64 w' (some ⟨g, 0, none⟩) (xs ++ [sumI xs]) ∧ w.heap.size ≤ g ∧ g < w'.heap.size ∧ n + 1 ≤ c' ∧ Below w.heap.size w w'

set_option maxRecDepth 100000 in
set_option maxHeartbeats 1000000 in
theorem rcSeal (w : World) (hT : Tab w) (A : Option Addr) (n c : Nat) (xs : List Int) (hn : xs.length = n) (hb : n ≤ 1000) (hA : A = none → c = 0) (hR : Rd .u64 w A xs) (hF : Fits xs) :
    Calls Tryd.prog 5 #[.slice A n c] w (SealPost w n xs) := by
  have HR := Lib.hid hR
  have HT := Lib.hid hT
  have HF := Lib.hid hF
  have HN := Lib.hid hn
  have HA := Lib.hid hA
  have hs := sumI_range hF
  have hsw : IntKind.u64.wrap (sumI xs) = sumI xs := IntWalk.u64_in _ (by omega)
  clear hR hT hF hn hA
  go_enter Tryd.func5, Tryd.ntmps5
  go_wp2_with (first
    | (go_at_call 17; refine (cloneA _ A n c xs HN.out (by omega) HA.out HR.out).mono ?_; rintro e w1 ⟨A1, c1, rfl, hO, hz, hc, hb1⟩; obtain ⟨x1, rfl⟩ := bx_of hb1; have HO := Lib.hid hO; have HZ := Lib.hid hz; have HC := Lib.hid hc; clear hO hz hc hb1)
    | (go_at_call 16; refine (clipU _ A1 n c1 HC.out HZ.out (fun p hp => by rcases HO.out.cases with ⟨h, _⟩ | ⟨g, cur, h, _⟩ <;> (rw [h] at hp; first | (cases hp; done) | (injection hp with hp; rw [← hp])))).mono ?_; rintro e w' ⟨rfl, rfl⟩)
    | (go_at_call 7; refine (crcWords _ (HT.out.bx x1) A n c xs HN.out hb (HR.out.below x1.below) HF.out).mono ?_; rintro e w' ⟨rfl, rfl⟩)
    | (at_builtin; refine wpList_append_sl rfl (.tmp 5) (.tmp 9) 22 rfl 27 (.int .u64 0) 1 8 rfl (by omega) Tryd.underlying22 info_u64 (by omega) A1 n n (xs.map (Value.int .u64)) ⟨x1.w.heap.size, 0, none⟩ 1 1 [.int .u64 (sumI xs)] rfl rfl ((sl_of_own HO.out HN.out HZ.out).ch (S := fun _ => False) (Ch.of_below (bl_alloc (Below.refl _ _) _)) (fun _ _ h => h)) rfl (by omega) (cells_one _ _ _) (by intro u hu; rw [List.mem_singleton.1 hu]; rfl) (by omega) ?_; intro A2 c2 w2 HO2 HC2 HW2 HG2))
  go_ret
  have hA2 := HG2.out (by omega)
  subst hA2
  have h1 := HO2.out
  rw [show (xs.map (Value.int .u64) ++ [Value.int .u64 (sumI xs)]) = (xs ++ [sumI xs]).map (Value.int .u64) by simp] at h1
  refine ⟨_, c2, rfl, h1.rdM, by have := x1.size; simp; omega, h1.lt (by simp [OwnB]), ?_, bl_ch (bl_alloc (bl_bx (Below.refl _ _) x1) _) HC2.out (fun b hb => (HO.out.lt hb).1)⟩
  rcases h1.2 with ⟨h, _⟩ | ⟨g, off, cur, h, _, h2, _⟩
  · cases h
  · exact h2

def OpenPost (w : World) (m : Nat) (us : List Int) (e : Ending) (w' : World) : Prop :=
  (∃ A' c', e = .returned (.tuple #[.slice A' m c', .int .i64 0]) ∧ Rd .u64 w' A' us) ∧ Below w.heap.size w w'
def openBad : Ending := .returned (.tuple #[.slice none 0 0, .int .i64 10])

set_option maxHeartbeats 400000 in
theorem rcOpen_nil (w : World) (A : Option Addr) (c : Nat) :
    Calls Tryd.prog 8 #[.slice A 0 c] w fun e w' => e = openBad ∧ w = w' := by
  go_enter Tryd.func8, Tryd.ntmps8
  go_wp2
  go_ret2
  exact ⟨rfl, rfl⟩

set_option maxRecDepth 100000 in
set_option maxHeartbeats 1000000 in
theorem rcOpen_ok (w : World) (hT : Tab w) (g m n c : Nat) (us : List Int) (d : Int) (hm : us.length = m) (hn : n = m + 1) (hb : n ≤ 1000) (hc : n ≤ c) (hR : Rd .u64 w (some ⟨g, 0, none⟩) (us ++ [d])) (hF : Fits us) (hd : d = sumI us) :
    Calls Tryd.prog 8 #[.slice (some ⟨g, 0, none⟩) n c] w (OpenPost w m us) := by
  have hs := sumI_range hF
  have hsw : IntKind.u64.wrap (sumI us) = sumI us := IntWalk.u64_in _ (by omega)
  have HR1 : Hid (Rd .u64 w (some ⟨g, 0, none⟩) us) := by
    have := hR.take m
    rwa [List.take_left' hm] at this
  have hcell : w.cell? ⟨g, m, none⟩ = some (.int .u64 (sumI us)) := by
    obtain ⟨b, o, h1, _, h2⟩ := hR.at_ (i := m) (by simp; omega)
    injection h1 with h1
    injection h1 with h1 h1'
    subst h1 h1'
    rw [Nat.zero_add] at h2
    rw [h2, List.getElem_append_right (by omega)]
    simp [hm, hd]
  have hgl : g < w.heap.size := by
    obtain ⟨b, o, h1, h2, _⟩ := hR.at_ (i := m) (by simp; omega)
    injection h1 with h1
    injection h1 with h1 h1'
    rw [h1]; exact h2
  have HT := Lib.hid hT
  have HF := Lib.hid hF
  have HM := Lib.hid hm
  have hw1 : IntKind.i64.wrap ((n : Int) - 1) = (m : Int) := by rw [IntWalk.i64_in _ (by omega)]; omega
  have hlt1 : (m : Int) < (n : Int) := by omega
  have hlt2 : m < n := by omega
  have hmc : m ≤ c := by omega
  have hn0 : ¬ n = 0 := by omega
  clear hR hT hF hm hn
  go_enter Tryd.func8, Tryd.ntmps8
  go_wp2
  refine wp_region_bx (by kernel_rfl) (by kernel_rfl) ?_
  repeat (go_big_quiet_step ((go_at_call 7; exact bx_calle (crcWords _ (HT.out.below (by (repeat (first | with_reducible exact Below.refl _ _ | with_reducible refine bl_alloc ?_ _ | with_reducible refine bl_drew ?_ | with_reducible refine bl_drewN ?_ _ | with_reducible refine bl_bx ?_ _ | with_reducible exact BX.below _ | with_reducible refine bl_set ?_ (by first | (exact Nat.le_refl _) | (simp; done) | (simp; omega)) _ | assumption)))) _ m _ us HM.out (by omega) (HR1.out.below (by (repeat (first | with_reducible exact Below.refl _ _ | with_reducible refine bl_alloc ?_ _ | with_reducible refine bl_drew ?_ | with_reducible refine bl_drewN ?_ _ | with_reducible refine bl_bx ?_ _ | with_reducible exact BX.below _ | with_reducible refine bl_set ?_ (by first | (exact Nat.le_refl _) | (simp; done) | (simp; omega)) _ | assumption)))) HF.out))))
  refine wpQuiet_nil ?_
  rintro _ ⟨x, rfl⟩
  go_wp2_with (go_at_call 17; refine (cloneA _ _ m _ us HM.out (by omega) (fun h => by cases h) (HR1.out.below x.below)).mono ?_; rintro e w1 ⟨A1, c1, rfl, hO, hz, hcc, hb1⟩; obtain ⟨x1, rfl⟩ := bx_of hb1; have HO := Lib.hid hO; clear hO hz hcc hb1)
  go_ret2
  exact ⟨⟨A1, c1, rfl, HO.out.rd⟩, (by repeat (first | with_reducible exact Below.refl _ _ | with_reducible refine bl_alloc ?_ _ | with_reducible refine bl_drew ?_ | with_reducible refine bl_drewN ?_ _ | with_reducible refine bl_bx ?_ _ | with_reducible exact BX.below _ | with_reducible refine bl_set ?_ (by first | (exact Nat.le_refl _) | (simp; done) | (simp; omega)) _ | assumption))⟩

set_option maxRecDepth 100000 in
set_option maxHeartbeats 1000000 in
theorem rcOpen_bad (w : World) (hT : Tab w) (g m n c : Nat) (us : List Int) (d : Int) (hm : us.length = m) (hn : n = m + 1) (hb : n ≤ 1000) (hc : n ≤ c) (hR : Rd .u64 w (some ⟨g, 0, none⟩) (us ++ [d])) (hF : Fits us) (hd : d ≠ sumI us) :
    Calls Tryd.prog 8 #[.slice (some ⟨g, 0, none⟩) n c] w fun e w' => e = openBad ∧ Below w.heap.size w w' := by
  have hs := sumI_range hF
  have hsw : IntKind.u64.wrap (sumI us) = sumI us := IntWalk.u64_in _ (by omega)
  have HR1 : Hid (Rd .u64 w (some ⟨g, 0, none⟩) us) := by
    have := hR.take m
    rwa [List.take_left' hm] at this
  have hcell : w.cell? ⟨g, m, none⟩ = some (.int .u64 d) := by
    obtain ⟨b, o, h1, _, h2⟩ := hR.at_ (i := m) (by simp; omega)
    injection h1 with h1
    injection h1 with h1 h1'
    subst h1 h1'
    rw [Nat.zero_add] at h2
    rw [h2, List.getElem_append_right (by omega)]
    simp [hm]
  have hgl : g < w.heap.size := by
    obtain ⟨b, o, h1, h2, _⟩ := hR.at_ (i := m) (by simp; omega)
    injection h1 with h1
    injection h1 with h1 h1'
    rw [h1]; exact h2
  have HT := Lib.hid hT
  have HF := Lib.hid hF
  have HM := Lib.hid hm
  have hw1 : IntKind.i64.wrap ((n : Int) - 1) = (m : Int) := by rw [IntWalk.i64_in _ (by omega)]; omega
  have hlt1 : (m : Int) < (n : Int) := by omega
  have hlt2 : m < n := by omega
  have hmc : m ≤ c := by omega
  have hn0 : ¬ n = 0 := by omega
  have hne : (d != sumI us) = true := by simpa using hd
  clear hR hT hF hm hn
  go_enter Tryd.func8, Tryd.ntmps8
  go_wp2
  refine wp_region_bx (by kernel_rfl) (by kernel_rfl) ?_
  repeat (go_big_quiet_step ((go_at_call 7; exact bx_calle (crcWords _ (HT.out.below (by (repeat (first | with_reducible exact Below.refl _ _ | with_reducible refine bl_alloc ?_ _ | with_reducible refine bl_drew ?_ | with_reducible refine bl_drewN ?_ _ | with_reducible refine bl_bx ?_ _ | with_reducible exact BX.below _ | with_reducible refine bl_set ?_ (by first | (exact Nat.le_refl _) | (simp; done) | (simp; omega)) _ | assumption)))) _ m _ us HM.out (by omega) (HR1.out.below (by (repeat (first | with_reducible exact Below.refl _ _ | with_reducible refine bl_alloc ?_ _ | with_reducible refine bl_drew ?_ | with_reducible refine bl_drewN ?_ _ | with_reducible refine bl_bx ?_ _ | with_reducible exact BX.below _ | with_reducible refine bl_set ?_ (by first | (exact Nat.le_refl _) | (simp; done) | (simp; omega)) _ | assumption)))) HF.out))))
  refine wpQuiet_nil ?_
  rintro _ ⟨x, rfl⟩
  go_wp2
  go_ret2
  exact ⟨rfl, (by repeat (first | with_reducible exact Below.refl _ _ | with_reducible refine bl_alloc ?_ _ | with_reducible refine bl_drew ?_ | with_reducible refine bl_drewN ?_ _ | with_reducible refine bl_bx ?_ _ | with_reducible exact BX.below _ | with_reducible refine bl_set ?_ (by first | (exact Nat.le_refl _) | (simp; done) | (simp; omega)) _ | assumption))⟩
end Go.Proofs.YtlbgmoijepknbaaDoor
