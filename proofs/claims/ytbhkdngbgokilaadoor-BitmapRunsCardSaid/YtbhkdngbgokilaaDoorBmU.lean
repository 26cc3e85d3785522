/- The runs of set bits; contract of the reference's Runs. -/
import Derived.Test.YtbhkdngbgokilaaDoorBmQ
namespace Go.Proofs.YtbhkdngbgokilaaDoor
open Go.RowKit
set_option linter.unusedVariables false

def nxT (ws : List Int) (n k : Nat) : Option Nat := nextP (fun m => bitW ws m == true) (n - k) k
def nxF (ws : List Int) (n k : Nat) : Option Nat := nextP (fun m => bitW ws m == false) (n - k) k
def rl (ws : List Int) (n : Nat) : Nat → Nat → List (Int × Int)
  | 0, _ => []
  | f + 1, k => match nxT ws n k with
    | none => []
    | some i => ((i : Int), (((nxF ws n (i + 1)).getD n : Nat) : Int) - (i : Int)) :: rl ws n f ((nxF ws n (i + 1)).getD n)
theorem nxF_getD (ws : List Int) (n i : Nat) (hi : i < n) : i < (nxF ws n (i + 1)).getD n ∧ (nxF ws n (i + 1)).getD n ≤ n := by
  have := nextP_spec (fun m => bitW ws m == false) (n - (i + 1)) (i + 1)
  unfold nxF
  split at this
  · rename_i h; rw [h]; exact ⟨hi, Nat.le_refl _⟩
  · rename_i j h
    rw [h]
    exact ⟨by have := this.1; simp; omega, by have := this.2.1; simp; omega⟩
theorem rl_fuel (ws : List Int) (n : Nat) : ∀ f g k, n - k < f → n - k < g → rl ws n f k = rl ws n g k := by
  intro f
  induction f with
  | zero => intro g k h; omega
  | succ f ih =>
    intro g k h1 h2
    cases g with
    | zero => omega
    | succ g =>
      unfold rl
      have hs := nextP_spec (fun m => bitW ws m == true) (n - k) k
      cases hc : nxT ws n k with
      | none => rfl
      | some i =>
        unfold nxT at hc
        rw [hc] at hs
        obtain ⟨a, b, _, _⟩ := hs
        obtain ⟨c, d⟩ := nxF_getD ws n i (by omega)
        simp only
        rw [ih g _ (by omega) (by omega)]
/-- The runs from bit k on, of n bits. -/
def runsR (ws : List Int) (n k : Nat) : List (Int × Int) := rl ws n (n + 1) k
theorem runsR_none {ws : List Int} {n k : Nat} (h : nxT ws n k = none) : runsR ws n k = [] := by unfold runsR rl; rw [h]
theorem runsR_some {ws : List Int} {n k i : Nat} (h : nxT ws n k = some i) : i < n ∧ runsR ws n k = ((i : Int), (((nxF ws n (i + 1)).getD n : Nat) : Int) - (i : Int)) :: runsR ws n ((nxF ws n (i + 1)).getD n) := by
  have hs := nextP_spec (fun m => bitW ws m == true) (n - k) k
  have h' := h
  unfold nxT at h'
  rw [h'] at hs
  obtain ⟨a, b, _, _⟩ := hs
  obtain ⟨c, d⟩ := nxF_getD ws n i (by omega)
  refine ⟨by omega, ?_⟩
  have e1 : runsR ws n k = rl ws n (n + 1) k := rfl
  rw [e1]
  unfold rl
  rw [h]
  simp only
  rw [rl_fuel ws n n (n + 1) _ (by omega) (by omega)]
  rfl
theorem runsR_skip {ws : List Int} {n k : Nat} (h : n ≤ k ∨ bitW ws k = false) : runsR ws n k = runsR ws n (k + 1) := by
  have e : nxT ws n k = nxT ws n (k + 1) := by
    unfold nxT
    by_cases hk : n ≤ k
    · rw [show n - k = 0 by omega, show n - (k + 1) = 0 by omega]; rfl
    · have hb : bitW ws k = false := by rcases h with h | h; omega; exact h
      rw [show n - k = (n - (k + 1)) + 1 by omega]
      conv => lhs; unfold nextP
      simp [hb]
  cases hc : nxT ws n (k + 1) with
  | none => rw [runsR_none hc, runsR_none (e.trans hc)]
  | some i => rw [(runsR_some hc).2, (runsR_some (e.trans hc)).2]
theorem runsR_run {ws : List Int} {n k e : Nat} (hk : k < e) (he : e ≤ n) (hb : ∀ m, k ≤ m → m < e → bitW ws m = true) (hn : e < n → bitW ws e = false) : runsR ws n k = ((k : Int), (e : Int) - (k : Int)) :: runsR ws n e := by
  have h1 : nxT ws n k = some k := nextP_some _ _ _ _ (Nat.le_refl _) (by omega) (by simp [hb k (Nat.le_refl _) hk]) (fun m h1 h2 => by omega)
  have h2 : (nxF ws n (k + 1)).getD n = e := by
    by_cases h : e < n
    · have : nxF ws n (k + 1) = some e := nextP_some _ _ _ _ (by omega) (by omega) (by simp [hn h]) (fun m h3 h4 => by simp [hb m (by omega) h4])
      rw [this]; rfl
    · have : nxF ws n (k + 1) = none := nextP_none _ _ _ (fun m h3 h4 => by simp [hb m (by omega) (by omega)])
      rw [this]; simp; omega
  rw [(runsR_some h1).2, h2]
/-- Runs, one number after the other. -/
def flatR (l : List (Int × Int)) : List Int := l.flatMap fun p => [p.1, p.2]
theorem flatR_snoc (l : List (Int × Int)) (p : Int × Int) : flatR (l ++ [p]) = flatR l ++ [p.1, p.2] := by simp [flatR]
theorem flatR_length (l : List (Int × Int)) : (flatR l).length = 2 * l.length := by
  induction l with
  | nil => rfl
  | cons p l ih => simp only [flatR, List.flatMap_cons, List.length_append, List.length_cons, List.length_nil] at ih ⊢; omega
theorem flatR_at (l : List (Int × Int)) : ∀ (k : Nat) (h : k < l.length), (flatR l)[2 * k]? = some l[k].1 ∧ (flatR l)[2 * k + 1]? = some l[k].2 := by
  induction l with
  | nil => intro k h; simp at h
  | cons p l ih =>
    intro k h
    have e : flatR (p :: l) = p.1 :: p.2 :: flatR l := by simp [flatR]
    cases k with
    | zero => simp [e]
    | succ k =>
      have := ih k (by simpa using h)
      rw [e, show 2 * (k + 1) = 2 * k + 1 + 1 by omega]
      simpa using this
theorem runsR_le (ws : List Int) (n : Nat) : ∀ f k, (rl ws n f k).length ≤ f := by
  intro f
  induction f with
  | zero => intro k; exact Nat.le_refl _
  | succ f ih =>
    intro k
    unfold rl
    split
    · simp
    · have := ih ((nxF ws n (‹Nat› + 1)).getD n)
      simp only [List.length_cons]
      omega
/-- What the reference's Runs leaves. -/
def RefRunsPost (w : World) (L : List (Int × Int)) (e : Ending) (w' : World) : Prop :=
  ∃ A c, e = .returned (.slice A (2 * L.length) c) ∧ Rd .i64 w' A (flatR L) ∧ (∀ b, OwnB A b → w.heap.size ≤ b ∧ b < w'.heap.size) ∧ Below w.heap.size w w'
set_option maxRecDepth 100000 in
set_option maxHeartbeats 2000000 in
theorem refRuns20 (w : World) (A0 : Option Addr) (m c0 : Nat) (ws : List Int) (hm : ws.length = m) (hR0 : Rd .u64 w A0 ws) (hf : FitsB ws) (n : Nat) (hn : n ≤ 64 * m) (hn2 : n ≤ 512) :
    Calls Tryd.prog 26 #[.slice A0 m c0, .int .i64 n] w (RefRunsPost w (runsR ws n 0)) := by
  have HG := Lib.hid (fun (W : World) (hW : Below w.heap.size w W) (i : Int) => refGet20 W A0 m c0 ws hm (hR0.below hW) hf n hn hn2 i)
  clear hR0 hf
  go_enter Tryd.func26, Tryd.ntmps26
  go_wp2
  go_loopw [6, 5, 7, 8, 9, 10, 11, 12, 13, 14, 15, 16, 17, 18, 19, 20, 21, 22, 23, 24, 25, 26, 27, 28, 29, 30, 31, 32, 33] (fun i s _ _ _ _ _ _ _ _ _ _ _ _ _ _ _ _ _ _ _ _ _ _ _ _ _ _ _ wr => ∃ (k : Nat) (pre : List (Int × Int)) (A : Option Addr) (c : Nat), k ≤ n + 1 ∧ pre.length ≤ k ∧ i = .int .i64 k ∧ s = .slice A (2 * pre.length) c ∧ OwnI .i64 3 wr w.heap.size A c (flatR pre) ∧ pre ++ runsR ws n k = runsR ws n 0 ∧ Below w.heap.size w wr) (fun i _ _ _ _ _ _ _ _ _ _ _ _ _ _ _ _ _ _ _ _ _ _ _ _ _ _ _ _ _ => n + 1 - (intOf i).toNat)
  case atStart => exact ⟨0, [], none, 0, by omega, Nat.le_refl _, rfl, rfl, OwnI.nil, rfl, Below.refl _ _⟩
  case round =>
    obtain ⟨k, pre, A, c, hk, hpk, rfl, rfl, hO, hP, hB⟩ := hrel
    have HO := Lib.hid hO
    have HP := Lib.hid hP
    have HB := Lib.hid hB
    clear hO hP hB
    by_cases hlt : k < n
    · have hlt' : (k : Int) < (n : Int) := by omega
      have HK := Lib.hid (HG.out wr HB.out (k : Int))
      rw [getB_in hlt] at HK
      cases hb : bitW ws k with
      | false =>
        rw [hb] at HK
        have HS := Lib.hid (runsR_skip (n := n) (.inr hb))
        clear hb
        go_wp2_with (go_at_call 20; refine HK.out.mono ?_; rintro e w' ⟨rfl, rfl⟩)
        exact ⟨⟨k + 1, pre, A, c, by omega, by omega, by go_num, rfl, HO.out, by rw [← HS.out]; exact HP.out, HB.out⟩, by simp [intOf]; omega⟩
      | true =>
        rw [hb] at HK
        have HBK := Lib.hid hb
        clear hb
        obtain ⟨wk, rfl⟩ : ∃ wk, wk = wr := ⟨_, rfl⟩
        go_wp2_with (go_at_call 20; refine HK.out.mono ?_; rintro e w' ⟨rfl, rfl⟩)
        go_loopw [7, 18, 19, 20, 21, 22, 23, 24, 25] (fun j _ _ _ _ _ _ _ _ wr => ∃ q : Nat, k + q ≤ n ∧ j = .int .i64 q ∧ (∀ z, k ≤ z → z < k + q → bitW ws z = true) ∧ wr = wk) (fun j _ _ _ _ _ _ _ _ _ => n - (intOf j).toNat)
        case atStart => exact ⟨0, by omega, rfl, fun z h1 h2 => by omega, rfl⟩
        case round =>
          obtain ⟨q, hq, rfl, hon, rfl⟩ := hrel
          have HON := Lib.hid hon
          clear hon
          have HQ := Lib.hid (HG.out wr HB.out ((k : Int) + (q : Int)))
          by_cases hqn : k + q < n ∧ bitW ws (k + q) = true
          · have e1 : getB ws n ((k : Int) + (q : Int)) = true := by
              rw [show (k : Int) + (q : Int) = ((k + q : Nat) : Int) by omega, getB_in hqn.1]; exact hqn.2
            rw [e1] at HQ
            have HQN := Lib.hid hqn
            clear hqn e1
            go_wp2_with (go_at_call 20; refine HQ.out.mono ?_; rintro e w' ⟨rfl, rfl⟩)
            refine ⟨⟨q + 1, by have := HQN.out.1; omega, by go_num, fun z h1 h2 => ?_, by first | rfl | trivial⟩, by have := HQN.out.1; simp [intOf]; omega⟩
            by_cases hz : z = k + q
            · rw [hz]; exact HQN.out.2
            · exact HON.out z h1 (by omega)
          · have e1 : getB ws n ((k : Int) + (q : Int)) = false := by
              rw [show (k : Int) + (q : Int) = ((k + q : Nat) : Int) by omega]
              by_cases h : k + q < n
              · rw [getB_in h]; simpa using fun h2 => hqn ⟨h, h2⟩
              · unfold getB; rw [decide_eq_false (p := (((k + q : Nat) : Int)) < (n : Int)) (by omega)]; simp
            rw [e1] at HQ
            have hq0 : 0 < q := by
              rcases Nat.eq_zero_or_pos q with h | h
              · subst h; exact absurd ⟨hlt, HBK.out⟩ hqn
              · exact h
            have hend : k + q < n → bitW ws (k + q) = false := fun h => by simpa using fun h2 => hqn ⟨h, h2⟩
            have HR1 := Lib.hid (runsR_run (ws := ws) (n := n) (k := k) (e := k + q) (by omega) (by omega) HON.out hend)
            have HR2 := Lib.hid (runsR_skip (ws := ws) (n := n) (k := k + q) (by by_cases h : k + q < n; exact .inr (hend h); exact .inl (by omega)))
            have HLEN := Lib.hid (flatR_length pre)
            clear hqn e1 hend
            go_wp2_with (first
              | (go_at_call 20; refine HQ.out.mono ?_; rintro e w' ⟨rfl, rfl⟩)
              | (at_builtin; refine wpList_append_ints rfl (.tmp 26) (.tmp 29) 25 rfl 3 .i64 8 Tryd.underlying25 info_int20 (by omega) w.heap.size A c (flatR pre) (2 * pre.length) _ 2 2 [(k : Int), (q : Int)] rfl rfl HLEN.out (HO.out.alloc _) rfl (rd_lit [(k : Int), (q : Int)] rfl) (by rw [HLEN.out]; simp; omega) (by have := HB.out.size; simp; omega) ?_; intro A2 c2 w2 HO3 HC3 HW3))
            refine ⟨⟨k + q + 1, pre ++ [((k : Int), (q : Int))], A2, c2, by omega, by simp; omega, by go_num, by simp; omega, ?_, ?_, ?_⟩, by simp [intOf]; omega⟩
            · rw [flatR_snoc]; exact HO3.out
            · have h1 := HP.out
              rw [HR1.out, show ((k + q : Nat) : Int) - (k : Int) = (q : Int) by omega, HR2.out] at h1
              rw [← h1]; simp
            · exact bl_ch (bl_alloc HB.out _) HC3.out (fun b hb => (HO.out.lt hb).1)
    · have hlt' : ¬ (k : Int) < (n : Int) := by omega
      have HE : Hid (runsR ws n k = []) := runsR_none (nextP_none _ _ _ (fun z h1 h2 => by omega))
      go_wp2
      go_ret
      have h1 := HP.out
      rw [HE.out, List.append_nil] at h1
      refine ⟨A, c, by rw [← h1]; rfl, ?_, fun b hb => HO.out.lt hb, HB.out⟩
      rw [← h1]; exact HO.out.rd
end Go.Proofs.YtbhkdngbgokilaaDoor
