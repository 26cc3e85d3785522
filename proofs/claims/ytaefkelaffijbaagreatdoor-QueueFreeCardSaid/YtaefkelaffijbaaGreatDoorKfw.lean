/- The law QueueFree (merged). -/
import Derived.Test.YtaefkelaffijbaaGreatDoorKfk
import Derived.Test.YtaefkelaffijbaaGreatDoorKfo
import Derived.Test.YtaefkelaffijbaaGreatDoorKfx
import Derived.Deep.RegionHeld3
namespace Go.Proofs.YtaefkelaffijbaaGreatDoor
open Go.RowKit
set_option linter.unusedVariables false
set_option linter.unusedSimpArgs false
section
variable {W P n N T : Nat} {q0 : List Int} {σ σ' : PwS} {ms : List QM} {L L' : Nat → Int} {ord : List Nat} {i : Nat} {m : QM} {sum : List Int → Int} {at0 : Nat → Int} {xs : List Int}
theorem cntF_zero {p : Nat → QM → Bool} : ∀ {ms : List QM} {k : Nat}, (∀ i m, ms[i]? = some m → p (k + i) m = false) → cntF p ms k = 0
 | [], _, _ => rfl
 | m :: ms, k, h => by
   have h0 := h 0 m rfl
   rw [Nat.add_zero] at h0
   have ih := cntF_zero (p := p) (ms := ms) (k := k + 1) (fun i m hi => by rw [show k + 1 + i = k + (i + 1) by omega]; exact h (i + 1) m hi)
   unfold cntF at ih ⊢
   simp only [sumF]
   rw [h0, ih]; rfl
theorem cntF_le1 {p : Nat → QM → Bool} : ∀ {ms : List QM} {k : Nat}, (∀ i j mi mj, ms[i]? = some mi → ms[j]? = some mj → p (k + i) mi = true → p (k + j) mj = true → i = j) → cntF p ms k ≤ 1
 | [], _, _ => Nat.zero_le _
 | m :: ms, k, h => by
   by_cases hp : p k m = true
   · have hz := cntF_zero (p := p) (ms := ms) (k := k + 1) (fun i mi hi => by
      cases hx : p (k + 1 + i) mi with
      | false => rfl
      | true =>
        have := h 0 (i + 1) m mi rfl hi (by rwa [Nat.add_zero]) (by rwa [show k + (i + 1) = k + 1 + i by omega])
        omega)
     unfold cntF at hz ⊢
     simp only [sumF]
     rw [hz, if_pos hp]
     exact Nat.le_refl _
   · have ih := cntF_le1 (p := p) (ms := ms) (k := k + 1) (fun i j mi mj hi hj pi pj => by
      have := h (i + 1) (j + 1) mi mj hi hj (by rwa [show k + (i + 1) = k + 1 + i by omega]) (by rwa [show k + (j + 1) = k + 1 + j by omega])
      omega)
     unfold cntF at ih ⊢
     simp only [sumF]
     rw [if_neg hp]; omega
theorem wM_le (m : QM) : wM m ≤ 915 := by
 unfold wM
 cases m.ph with
 | rd s f c r => dsimp only; omega
 | _ => dsimp only; omega
open Classical in
/-- A call that is stepped alone has at most 12600 steps left. -/
theorem QW.solo (h : QW sum at0 n W P q0 σ ms N T xs L ord) (i : Nat) : ∃ lv : Nat → Bool, lv i = true ∧ LvOk σ ms lv ∧ phi (fun j => decide (j = i)) lv W P σ L ms ≤ 12600 := by
 have hinj := h.ls.inj'
 let lw : Nat → Bool := fun j => decide (∃ mj x, ms[j]? = some mj ∧ isChg mj = some x ∧ σ.cur = some x)
 refine ⟨fun j => decide (j = i) || lw j, by simp, fun j mj x hj hx hc => ?_, ?_⟩
 · show (decide (j = i) || lw j) = true
   rw [Bool.or_eq_true]
   right
   exact decide_eq_true ⟨mj, x, hj, hx, hc⟩
 · rw [phi_eq]
   have h1 : gSq σ (chgBl ms) ≤ 868 * (chgBl ms).length := by
    have hl : (chgBl ms).length ≤ 4 := by
     rw [length_chgBl ms 0]
     exact h.sb.th.cnt4 (fun i m hi hp => by
      obtain ⟨a, ha⟩ := Option.isSome_iff_exists.1 hp
      exact isChg_over ha)
    exact gSq_le h.inv hl
   have hl : (chgBl ms).length ≤ 4 := by
    rw [length_chgBl ms 0]
    exact h.sb.th.cnt4 (fun i m hi hp => by
     obtain ⟨a, ha⟩ := Option.isSome_iff_exists.1 hp
     exact isChg_over ha)
   have h2 : sumF (rM (fun j => decide (j = i)) (fun j => decide (j = i) || lw j) W P σ L) ms 0 ≤ sumF (fun j m => (if decide (j = i) = true then 5475 else 0) + (if lw j = true then 3648 else 0)) ms 0 := by
    refine sumF_le ms 0 (fun j m hj => ?_)
    simp only [Nat.zero_add]
    unfold rM
    have a1 := wM_le m
    have a2 := stM_le (W := W) (P := P) (L := L) (σ := σ) m
    have a3 := lvM_le (P := P) (σ := σ) m
    by_cases hji : j = i
    · simp only [hji, decide_true, Bool.true_or, if_true]
      omega
    · simp only [hji, decide_false, Bool.false_or, Bool.false_eq_true, if_false, Nat.zero_add]
      split <;> omega
   have h3 : sumF (fun j m => (if decide (j = i) = true then 5475 else 0) + (if lw j = true then 3648 else 0)) ms 0 ≤ 5475 * 1 + 3648 * 1 := by
    rw [sumF_add (fun j _ => if decide (j = i) = true then 5475 else 0) (fun j _ => if lw j = true then 3648 else 0)]
    rw [sumF_cnt (fun j _ => decide (j = i)) 5475 ms 0, sumF_cnt (fun j _ => lw j) 3648 ms 0]
    have b1 : cntF (fun j _ => decide (j = i)) ms 0 ≤ 1 := cntF_le1 (fun a b ma mb _ _ ha hb => by
     simp only [Nat.zero_add, decide_eq_true_eq] at ha hb
     omega)
    have b2 : cntF (fun j _ => lw j) ms 0 ≤ 1 := cntF_le1 (fun a b ma mb hma hmb ha hb => by
     simp only [Nat.zero_add] at ha hb
     obtain ⟨m1, x1, e1, e2, e3⟩ := of_decide_eq_true ha
     obtain ⟨m2, x2, d1, d2, d3⟩ := of_decide_eq_true hb
     rw [e3] at d3
     injection d3 with d3
     exact hinj a b m1 m2 x1 e1 d1 e2 (by rw [d2, d3]))
    omega
   omega
end
/-- Machines and their queue in memory. -/
structure FrM (κ : Nat → Nat) (p d q n lines P : Nat) (t : Nat → Nat) (q0 : List Int) (ms : List QM) (gs oz : List Nat) (Am : Option Addr) (cm : Nat) (bs : Nat → Option Nat) (w : World) (σ : PwS) (xs : List Int) (L : Nat → Int) (ord : List Nat) (N T : Nat) : Prop where
 qu : QuM κ p d q n lines P t bs w σ
 qw : QW sumI (atW 0) n 256 P q0 σ ms N T xs L ord
 bi : ∀ (i : Nat) (m : QM), ms[i]? = some m → m.ph.over = false → bs m.th = some (oz.getD i 0)
 bo : ∀ th, (∀ (i : Nat) (m : QM), ms[i]? = some m → m.ph.over = false → m.th ≠ th) → bs th = none
 mm : ∀ (i : Nat) (m : QM), ms[i]? = some m → MqM κ i p q t w (gs.getD i 0) (oz.getD i 0) m
 lg : gs.length = ms.length
 la : oz.length = ms.length
 sl : Sl 33 1 w Am ms.length cm (gs.map mpV)
 am : ∀ b, OwnB Am b → κ b = 3
section
variable {κ κ' : Nat → Nat} {p d q n lines P N T i : Nat} {t : Nat → Nat} {q0 : List Int} {ms : List QM} {gs oz : List Nat} {Am Am' : Option Addr} {cm c5 a gm : Nat} {bs : Nat → Option Nat} {w w' w1 w5 : World} {σ σ' : PwS} {xs xs' : List Int} {L L' : Nat → Int} {ord ord' : List Nat} {m m' : QM} {b0 : Bool} {val : Int} {k : RqK} {rl : Nat → List (Bool × Int × Int)} {now : Nat → Option Nat} {mu : Nat} {A : Nat → Option Addr} {cp : Nat → Nat}
theorem RqS.frM (h : RqS k rl now ms gs T mu w κ A cp oz Am cm bs σ xs L ord N) : FrM κ k.p k.d k.q k.n k.lines k.P k.t k.q0 ms gs oz Am cm bs w σ xs L ord N T :=
 ⟨h.mem.qu, h.qw, h.mem.bi, h.mem.bo, h.mem.mm, h.mem.lg, h.mem.la, h.mem.sl, fun b hb => (h.mem.bk.am b hb).1⟩
theorem FrM.bl (h : FrM κ p d q n lines P t q0 ms gs oz Am cm bs w σ xs L ord N T) (hB : Below w.heap.size w w') : FrM κ p d q n lines P t q0 ms gs oz Am cm bs w' σ xs L ord N T := by
 have hC : Ch (fun _ => False) w w' := Ch.of_below hB
 exact ⟨⟨h.qu.pm.bl0 hB, h.qu.hq.below hB, h.qu.kq, h.qu.tab.ch hC (fun hx => hx), h.qu.k0, h.qu.hn, h.qu.hP, h.qu.hn2⟩, h.qw, h.bi, h.bo, fun j mj hj => (h.mm j mj hj).ch hC (fun _ _ hx => hx.elim) (fun _ _ => rfl), h.lg, h.la, h.sl.keep (fun b hb => hB.block b (h.sl.lt hb)), h.am⟩
/-- What a step leaves. -/
def FsP (κ : Nat → Nat) (p d q n lines P : Nat) (t : Nat → Nat) (q0 : List Int) (ms : List QM) (gs oz : List Nat) (Am : Option Addr) (cm : Nat) (L : Nat → Int) (σ : PwS) (N T i : Nat) (w : World) (e : Ending) (w' : World) : Prop :=
 e = .returned (.tuple #[]) ∧ ∃ (m' : QM) (κ' : Nat → Nat) (bs' : Nat → Option Nat) (σ' : PwS) (xs' : List Int) (L' : Nat → Int) (ord' : List Nat), FrM κ' p d q n lines P t q0 (ms.set i m') gs oz Am cm bs' w' σ' xs' L' ord' (N + 1) (T + 1) ∧ (∀ b, b < w.heap.size → κ' b = κ b) ∧ Ch (fun b => κ b ≠ 1 ∧ κ b ≠ 3) w w' ∧
  ∀ lv : Nat → Bool, lv i = true → LvOk σ ms lv → LvOk σ' (ms.set i m') lv ∧ phi (fun j => decide (j = i)) lv 256 P σ' L' (ms.set i m') + 1 ≤ phi (fun j => decide (j = i)) lv 256 P σ L ms
theorem FrM.step (h : FrM κ p d q n lines P t q0 ms gs oz Am cm bs w σ xs L ord N T) (hN : N < 1000000) (hP : P < 1000000) (hi : ms[i]? = some m) (hov : m.ph.over = false) :
 Calls Tryz.prog 30 #[.pointer (some ⟨gs.getD i 0, 0, none⟩), .int .i64 (T : Int)] w (FsP κ p d q n lines P t q0 ms gs oz Am cm L σ N T i w) := by
 refine (mqStep h.qu h.qw hN hi (h.mm i m hi) (h.bi i m hi hov) hov).mono ?_
 rintro e w' ⟨bl, b1, b2, rfl, κ', hk, hPM, hM, hq, hC⟩
 obtain ⟨xs', L', ord', d1, d2⟩ := h.qw.step (reg30 (by have := h.qu.hn2; omega)) hN (by have := h.qu.hn2; omega) hP hi hov b1 b2
 refine ⟨rfl, _, κ', bsA (m.next T (qStep sumI (atW 0) 256 P σ m bl).2) bs, _, xs', L', ord', ?_, hk, hC.mono (fun b hb _ => by omega), fun lv h1 h2 => d2 _ lv (by simp) h1 h2⟩
 have hth : (m.next T (qStep sumI (atW 0) 256 P σ m bl).2).th = m.th := rfl
 generalize m.next T (qStep sumI (atW 0) 256 P σ m bl).2 = m' at hM hq d1 hth ⊢
 have hil := mem_ms_lt hi
 have hkk : ∀ {b : Nat} {ty : TypeId} {vs : Array Value}, CB w b ty vs → κ' b = κ b := fun {b ty vs} hb => hk b hb.lt
 have hset : ∀ (j : Nat) (mj : QM), (ms.set i m')[j]? = some mj → (j = i ∧ mj = m') ∨ (j ≠ i ∧ ms[j]? = some mj) := fun j mj hj => qget_cases hi hj
 have hone : ∀ (j : Nat) (mj : QM), ms[j]? = some mj → mj.ph.over = false → mj.th = m.th → j = i := fun j mj hj ho he => h.qw.sb.th.one j i mj m hj hi ho hov he
 have h0 : (0 : Nat) < w.heap.size := h.qu.tab.1
 refine ⟨⟨hPM, hq, by rw [hkk h.qu.hq]; exact h.qu.kq, h.qu.tab.ch hC (fun hx => by have := h.qu.k0; omega), by rw [hk 0 h0]; exact h.qu.k0, h.qu.hn, h.qu.hP, h.qu.hn2⟩, d1, fun j mj hj ho => ?_, fun th hall => ?_, fun j mj hj => ?_, by rw [List.length_set]; exact h.lg, by rw [List.length_set]; exact h.la, ?_, fun b hb => by rw [hk b (h.sl.lt hb)]; exact h.am b hb⟩
 · rcases hset j mj hj with ⟨e1, e2⟩ | ⟨e1, e2⟩
   · subst e1 e2
     unfold bsA
     rw [ho]
     simp only [Bool.false_eq_true, if_false]
     rw [hth]
     exact h.bi j m hi hov
   · have hb := h.bi j mj e2 ho
     unfold bsA
     split
     · have hne : mj.th ≠ m'.th := fun hx => e1 (hone j mj e2 ho (by rw [hx, hth]))
       exact (if_neg hne).trans hb
     · exact hb
 · unfold bsA
   have hot : ∀ (hx : m'.th ≠ th), bs th = none := fun hx => h.bo th (fun j mj hj ho => by
    by_cases hji : j = i
    · subst hji
      rw [hi] at hj
      injection hj with hj
      rw [← hj, ← hth]; exact hx
    · exact hall j mj (by rw [List.getElem?_set_ne (Ne.symm hji)]; exact hj) ho)
   split
   · rename_i hov'
     by_cases hx : th = m'.th
     · exact if_pos hx
     · exact (if_neg hx).trans (hot (Ne.symm hx))
   · rename_i hov'
     exact hot (hall i m' (List.getElem?_set_self hil) (by simpa using hov'))
 · rcases hset j mj hj with ⟨e1, e2⟩ | ⟨e1, e2⟩
   · rw [e1, e2]; exact hM
   · exact (h.mm j mj e2).ch hC (fun b _ hb => by omega) hk
 · rw [List.length_set]
   exact h.sl.keep (fun b hb => hC.block b (h.sl.lt hb) (fun hx => by have := h.am b hb; omega))
/-- A new machine, of thread 5. -/
theorem FrM.newc (h : FrM κ p d q n lines P t q0 ms gs oz Am cm bs w σ xs L ord N T) (hno : ∀ (i : Nat) (m : QM), ms[i]? = some m → m.th ≠ 5)
 (g1 : w.heap.size ≤ gm) (g2 : w.heap.size ≤ a) (g3 : a ≠ gm) (g4 : CB w1 gm 39 (mqc (qm0 b0 val 5) a)) (g5 : CB w1 a 106 (qocell0 q 5 b0 (if b0 then val % 1099511627776 else 0))) (g6 : CB w1 q 93 (qcells d p 2048 lines (fun i => if i = 5 then some a else bs i))) (g7 : Ch (At q) w w1)
 (hC5 : Ch (OwnB Am) w1 w5) (hSl : Sl 33 1 w5 Am' (ms.length + 1) c5 ((gs ++ [gm]).map mpV)) (hW : ∀ b, OwnB Am' b → OwnB Am b ∨ w1.heap.size ≤ b) :
 FrM (rolC κ w w5 ms.length gm a Am') p d q n lines P t q0 (ms ++ [qm0 b0 val 5]) (gs ++ [gm]) (oz ++ [a]) Am' c5 (fun i => if i = 5 then some a else bs i) w5 σ xs L ord N T := by
 have hs1 := g7.size
 have hgl1 := g4.lt
 have hal1 := g5.lt
 have hC : Ch (fun b => κ b = 2 ∨ κ b = 3) w w5 := (g7.mono (fun b hb _ => .inl (by rw [show b = q from hb]; exact h.qu.kq))).trans hC5 (fun b hb hl => .inr (h.am b hb))
 have hsz := hC.size
 have hsz5 := hC5.size
 have hAlt : ∀ b, OwnB Am b → b < w.heap.size := fun b hb => h.sl.lt hb
 have old : ∀ {b : Nat}, b < w.heap.size → rolC κ w w5 ms.length gm a Am' b = κ b := fun hb => rolC_old hb
 have kk : ∀ {b : Nat} {ty : TypeId} {vs : Array Value}, CB w b ty vs → rolC κ w w5 ms.length gm a Am' b = κ b := fun hb => old hb.lt
 have keep1 : ∀ {b : Nat} {ty : TypeId} {vs : Array Value}, CB w1 b ty vs → ¬ OwnB Am b → CB w5 b ty vs := fun {b ty vs} hb h2 => hb.keep (hC5.block b hb.lt h2)
 have nq : ¬ OwnB Am q := fun hx => by have := h.am q hx; have := h.qu.kq; omega
 have ngm : ¬ OwnB Am gm := fun hx => by have := hAlt gm hx; omega
 have na : ¬ OwnB Am a := fun hx => by have := hAlt a hx; omega
 have h00 : (0 : Nat) < w.heap.size := h.qu.tab.1
 have hrg : rolC κ w w5 ms.length gm a Am' gm = 2 * ms.length + 5 := by unfold rolC; rw [if_neg (by omega), if_pos rfl]
 have hra : rolC κ w w5 ms.length gm a Am' a = 2 * ms.length + 4 := by unfold rolC; rw [if_neg (by omega), if_neg g3, if_pos rfl]
 obtain ⟨m5, hm5⟩ : ∃ m5 : QM, m5 = (qm0 b0 val 5) := ⟨_, rfl⟩
 rw [← hm5] at g4 ⊢
 have e5 : m5.th = 5 := by rw [hm5]; rfl
 refine ⟨⟨?_, keep1 g6 nq, by rw [kk h.qu.hq]; exact h.qu.kq, h.qu.tab.ch hC (fun hx => by have := h.qu.k0; omega), by rw [old h00]; exact h.qu.k0, h.qu.hn, h.qu.hP, h.qu.hn2⟩, ?_, fun j mj hj ho => ?_, fun th hall => ?_, fun j mj hj => ?_, by simp [h.lg], by simp [h.la], by rw [List.length_append]; exact hSl, fun b hb => ?_⟩
 · refine (h.qu.pm.chQ hC (fun b _ hb => by omega)).less (fun b hb => ?_)
   by_cases hl : b < w.heap.size
   · left; rw [old hl] at hb; exact hb
   · right
     refine ⟨by omega, ?_⟩
     unfold rolC at hb
     rw [if_neg hl] at hb
     split at hb
     · rename_i hx; rw [hx]; omega
     · split at hb
       · rename_i hx; rw [hx]; omega
       · split at hb
         · rename_i hx; exact hSl.lt hx
         · split at hb
           · assumption
           · omega
 · refine h.qw.add (by rw [hm5]; rfl) (by rw [hm5]; show 0 ≤ val % 1099511627776 ∧ val % 1099511627776 < 1099511627776; omega) (.inr (.inr (.inr e5))) (fun j mj hj ho => ?_)
   rw [e5]; exact hno j mj hj
 · rcases snoc_cases hj with ⟨hl, e⟩ | ⟨hl, e⟩
   · rw [getD_snoc (by rw [h.la]; exact hl)]
     exact (if_neg (hno j mj e)).trans (h.bi j mj e ho)
   · rw [hl, ← h.la, getD_last, e, e5]
     exact if_pos rfl
 · have hne : th ≠ 5 := fun hx => (hall ms.length m5 (by simp) (by rw [hm5]; rfl)) (by rw [e5]; exact hx.symm)
   exact (if_neg hne).trans (h.bo th (fun j mj hj ho => hall j mj (by rw [List.getElem?_append_left (mem_ms_lt hj)]; exact hj) ho))
 · rcases snoc_cases hj with ⟨hl, e⟩ | ⟨hl, e⟩
   · rw [getD_snoc (by rw [h.lg]; exact hl), getD_snoc (by rw [h.la]; exact hl)]
     exact (h.mm j mj e).ch hC (fun b _ hb => by omega) (fun b hb => old hb)
   · subst e
     subst hl
     have e1 : (gs ++ [gm]).getD ms.length 0 = gm := by rw [← h.lg]; exact getD_last
     have e2 : (oz ++ [a]).getD ms.length 0 = a := by rw [← h.la]; exact getD_last
     rw [e1, e2]
     refine ⟨hrg, keep1 g4 ngm, hra, ?_⟩
     rw [hm5]
     cases b0 <;> exact keep1 g5 na
 · rcases hW b hb with h1 | h1
   · rw [old (hAlt b h1)]; exact h.am b h1
   · have hl := hSl.lt hb
     unfold rolC
     rw [if_neg (by omega), if_neg (by omega), if_neg (by omega)]
     exact if_pos hb
/-- All are over. -/
theorem FrM.rest (h : FrM κ p d q n lines P t q0 ms gs oz Am cm bs w σ xs L ord N T) (hall : ∀ (i : Nat) (m : QM), ms[i]? = some m → m.ph.over = true) :
 QRs (oneK κ) p d q n lines P t w (qSt P ms q0 ord) N σ xs L ∧ MsV (oneK κ) w Am cm ms := by
 have hq := h.qu
 have hbs : bs = fun _ => none := by
  funext th
  exact h.bo th (fun i m hi ho => by rw [hall i m hi] at ho; cases ho)
 rw [hbs] at hq
 refine ⟨⟨⟨hq.pm.less (fun b hb => oneK_ne hb), hq.hq, by rw [oneK_of (by rw [hq.kq]; omega)]; exact hq.kq, hq.tab, by rw [oneK_of (by rw [hq.k0]; omega)]; exact hq.k0, hq.hn, hq.hP, hq.hn2⟩, ⟨h.qw.inv, QLs.start h.qw.ls.ab (h.qw.ls.quiet hall), h.qw.sb.none hall⟩, fun b _ => oneK_le κ b⟩, ⟨gs, oz, h.sl, h.lg, fun b hb => oneK_big (by have := h.am b hb; omega), fun i m hi => ?_⟩⟩
 have hm := h.mm i m hi
 exact ⟨hm.cb, oneK_big (by have := hm.kg; omega)⟩
end
section
variable {W P n N T : Nat} {q0 : List Int} {σ : PwS} {ms : List QM} {L : Nat → Int} {ord : List Nat} {κ : Nat → Nat} {w : World} {A : Option Addr} {c : Nat}
theorem QLs.err (h : QLs W P q0 σ ms T L ord) (hall : ∀ (i : Nat) (m : QM), ms[i]? = some m → m.ph.over = true) {m : QM} (hm : m ∈ ms) : ∃ v e, m.ph = .fin v e ∧ (e = 0 ∨ e = 4 ∨ e = 5) := by
 obtain ⟨i, hi⟩ := List.mem_iff_getElem?.1 hm
 have hmem : i ∈ ord := (h.perm hall).mem_iff.2 (by rw [List.mem_range]; exact (List.getElem?_eq_some_iff.1 hi).1)
 obtain ⟨p, hp⟩ := List.getElem?_of_mem hmem
 refine ⟨_, _, h.fin hall hp hi, ?_⟩
 generalize qSt P ms q0 (ord.take p) = Q
 unfold qApp
 cases m.ins with
 | true => by_cases hc : P ≤ Q.length <;> simp [hc]
 | false => cases Q <;> simp
theorem MsV.maQ2 (h : MsV κ w A c ms) (herr : ∀ m ∈ ms, ∃ v e, m.ph = .fin v e ∧ (e = 0 ∨ e = 4 ∨ e = 5)) : MaQ w A ms.length (ms.map rqOf) := by
 obtain ⟨gs, oz, hS, hg, _, hm⟩ := h
 intro i hi
 have hg1 : ms[i]? = some ms[i] := List.getElem?_eq_getElem hi
 obtain ⟨v, e, hf, he⟩ := herr _ (List.getElem_mem hi)
 obtain ⟨hm2, _⟩ := hm i _ hg1
 obtain ⟨gS, oS, hA, hgl, hc⟩ := hS.at_ (j := i) (by simp [hg, hi])
 have hx : (gs.map mpV)[i]'(by simp [hg, hi]) = .pointer (some ⟨gs.getD i 0, 0, none⟩) := by
  rw [List.getElem_map, List.getD_eq_getElem?_getD, List.getElem?_eq_getElem (by rw [hg]; exact hi)]; rfl
 rw [hx] at hc
 have hq : rqOf ms[i] = ⟨ms[i].ins, ms[i].val, ms[i].bg, ms[i].en, true, v, e⟩ := by unfold rqOf; rw [hf]
 rw [rqOf_get hg1, hq]
 refine ⟨by show e ≠ 7; omega, gS, oS, gs.getD i 0, oz.getD i 0, hA, hgl, hc, ?_⟩
 have hmq : mqc ms[i] (oz.getD i 0) = #[.pointer (some ⟨oz.getD i 0, 0, none⟩), .bool ms[i].ins, .int .u64 ms[i].val, .int .i64 ms[i].bg, .int .i64 ms[i].en, .bool true, .int .u64 v, .int .i64 e, .bool true, .bool true] := by
  unfold mqc
  rw [hf]
  rfl
 rw [hmq] at hm2
 exact hm2
end
/-- Machines of which those from number j on are over. -/
def FrX (κ7 : Nat → Nat) (w7 : World) (p d q n lines P : Nat) (t : Nat → Nat) (q0 : List Int) (M : Nat) (gs oz : List Nat) (Am : Option Addr) (cm Nb j T : Nat) (wr : World) : Prop :=
 ∃ (κ : Nat → Nat) (ms : List QM) (bs : Nat → Option Nat) (σ : PwS) (xs : List Int) (L : Nat → Int) (ord : List Nat) (N : Nat), FrM κ p d q n lines P t q0 ms gs oz Am cm bs wr σ xs L ord N T ∧ ms.length = M ∧ (∀ (i : Nat) (m : QM), j ≤ i → ms[i]? = some m → m.ph.over = true) ∧ N ≤ Nb + 12600 * (M - j) ∧ T ≤ 1000 + 12600 * (M - j) ∧ (∀ b, b < w7.heap.size → κ b = κ7 b) ∧ Ch (fun b => κ7 b ≠ 1 ∧ κ7 b ≠ 3) w7 wr
/-- Machine i is being stepped. -/
def FrY (κ7 : Nat → Nat) (w7 : World) (p d q n lines P : Nat) (t : Nat → Nat) (q0 : List Int) (M : Nat) (gs oz : List Nat) (Am : Option Addr) (cm Nb i k T : Nat) (wr : World) : Prop :=
 ∃ (κ : Nat → Nat) (ms : List QM) (bs : Nat → Option Nat) (σ : PwS) (xs : List Int) (L : Nat → Int) (ord : List Nat) (N : Nat) (lv : Nat → Bool), FrM κ p d q n lines P t q0 ms gs oz Am cm bs wr σ xs L ord N T ∧ ms.length = M ∧ (∀ (j : Nat) (m : QM), i < j → ms[j]? = some m → m.ph.over = true) ∧ N ≤ Nb + 12600 * (M - (i + 1)) + k ∧ T ≤ 1000 + 12600 * (M - (i + 1)) + k ∧
  lv i = true ∧ LvOk σ ms lv ∧ phi (fun j => decide (j = i)) lv 256 P σ L ms + k ≤ 12600 ∧ (∀ b, b < w7.heap.size → κ b = κ7 b) ∧ Ch (fun b => κ7 b ≠ 1 ∧ κ7 b ≠ 3) w7 wr
section
variable {κ7 : Nat → Nat} {w7 wr : World} {p d q n lines P M i k T Nb cm : Nat} {t : Nat → Nat} {q0 : List Int} {gs oz : List Nat} {Am : Option Addr}
theorem FrX.start (h : FrX κ7 w7 p d q n lines P t q0 M gs oz Am cm Nb (i + 1) T wr) : FrY κ7 w7 p d q n lines P t q0 M gs oz Am cm Nb i 0 T wr := by
 obtain ⟨κ, ms, bs, σ, xs, L, ord, N, h1, h2, h3, h4, h5, h6, h7⟩ := h
 obtain ⟨lv, g1, g2, g3⟩ := h1.qw.solo i
 exact ⟨κ, ms, bs, σ, xs, L, ord, N, lv, h1, h2, fun j m hj hm => h3 j m hj hm, by omega, by omega, g1, g2, by omega, h6, h7⟩
/-- Where a machine is. -/
theorem FrM.at_ {κ : Nat → Nat} {ms : List QM} {bs : Nat → Option Nat} {σ : PwS} {xs : List Int} {L : Nat → Int} {ord : List Nat} {N : Nat} {m : QM} (h : FrM κ p d q n lines P t q0 ms gs oz Am cm bs wr σ xs L ord N T) (hi : ms[i]? = some m) :
 ∃ gS oS, Am = some ⟨gS, oS, none⟩ ∧ gS < wr.heap.size ∧ wr.cell? ⟨gS, oS + i, none⟩ = some (.pointer (some ⟨gs.getD i 0, 0, none⟩)) ∧ CB wr (gs.getD i 0) 39 (mqc m (oz.getD i 0)) := by
 have hil := mem_ms_lt hi
 obtain ⟨gS, oS, hA, hgl, hc⟩ := h.sl.at_ (j := i) (by rw [List.length_map, h.lg]; exact hil)
 have hx : (gs.map mpV)[i]'(by rw [List.length_map, h.lg]; exact hil) = .pointer (some ⟨gs.getD i 0, 0, none⟩) := by
  rw [List.getElem_map, List.getD_eq_getElem?_getD, List.getElem?_eq_getElem (by rw [h.lg]; exact hil)]; rfl
 rw [hx] at hc
 exact ⟨gS, oS, hA, hgl, hc, (h.mm i m hi).cb⟩
/-- It is over, or it can be stepped. -/
theorem FrY.cases (h : FrY κ7 w7 p d q n lines P t q0 M gs oz Am cm Nb i k T wr) (hi : i < M) (hM : M ≤ 8) (hNb : Nb ≤ 500000) (hP : P < 1000000) :
 (k ≤ 12600 ∧ T ≤ 200000) ∧ ∃ gS oS g, Am = some ⟨gS, oS, none⟩ ∧ gS < wr.heap.size ∧ wr.cell? ⟨gS, oS + i, none⟩ = some (.pointer (some ⟨g, 0, none⟩)) ∧ g < wr.heap.size ∧ ∃ b, wr.cell? ⟨g, 9, none⟩ = some (.bool b) ∧
   ((b = true ∧ FrX κ7 w7 p d q n lines P t q0 M gs oz Am cm Nb i T wr) ∨ (b = false ∧ k < 12600 ∧ Calls Tryz.prog 30 #[.pointer (some ⟨g, 0, none⟩), .int .i64 (T : Int)] wr fun e w' => e = .returned (.tuple #[]) ∧ FrY κ7 w7 p d q n lines P t q0 M gs oz Am cm Nb i (k + 1) (T + 1) w')) := by
 obtain ⟨κ, ms, bs, σ, xs, L, ord, N, lv, h1, h2, h3, h4, h5, h6, h7, h8, h9, h10⟩ := h
 have hg : ms[i]? = some (ms[i]'(by omega)) := List.getElem?_eq_getElem (by omega)
 obtain ⟨gS, oS, hA, hgl, hc, hcb⟩ := h1.at_ hg
 refine ⟨⟨by omega, by omega⟩, gS, oS, gs.getD i 0, hA, hgl, hc, hcb.lt, (ms[i]'(by omega)).ph.over, hcb.cell 9, ?_⟩
 cases hov : (ms[i]'(by omega)).ph.over with
 | true =>
   refine .inl ⟨rfl, κ, ms, bs, σ, xs, L, ord, N, h1, h2, fun j m hj hm => ?_, by omega, by omega, h9, h10⟩
   by_cases hji : j = i
   · subst hji
     rw [hg] at hm
     injection hm with hm
     rw [← hm]; exact hov
   · exact h3 j m (by omega) hm
 | false =>
   have hst := h1.step (by omega) hP hg hov
   have hpos := tM_pos (W := 256) (P := P) (st := fun j => decide (j = i)) (lv := lv) (i := i) (L := L) hov (by simp) h1.qw.inv (fun f c v a hx => by
    obtain ⟨o, o1, o2, _⟩ := h1.qw.sb.ch i _ f c v a hg hx
    exact ⟨o, o1, o2⟩)
   have hle := sumF_one (f := tM (fun j => decide (j = i)) lv 256 P σ L) (ms := ms) (j := i) 0 hg
   rw [Nat.zero_add] at hle
   have hphi : 1 ≤ phi (fun j => decide (j = i)) lv 256 P σ L ms := Nat.le_trans hpos hle
   refine .inr ⟨rfl, by omega, hst.mono ?_⟩
   rintro e w' ⟨rfl, m', κ', bs', σ', xs', L', ord', f1, f2, f3, f4⟩
   obtain ⟨f5, f6⟩ := f4 lv h6 h7
   have hs7 := h10.size
   refine ⟨rfl, κ', ms.set i m', bs', σ', xs', L', ord', N + 1, lv, f1, by rw [List.length_set]; exact h2, fun j m hj hm => ?_, by omega, by omega, h6, f5, by omega, fun b hb => by rw [f2 b (by omega)]; exact h9 b hb, h10.trans f3 (fun b hb hlt => by rw [← h9 b hlt]; exact hb)⟩
   rw [List.getElem?_set_ne (by omega)] at hm
   exact h3 j m hj hm
end
theorem FrM.later {κ : Nat → Nat} {p d q n lines P N T T' : Nat} {t : Nat → Nat} {q0 : List Int} {ms : List QM} {gs oz : List Nat} {Am : Option Addr} {cm : Nat} {bs : Nat → Option Nat} {w : World} {σ : PwS} {xs : List Int} {L : Nat → Int} {ord : List Nat} (h : FrM κ p d q n lines P t q0 ms gs oz Am cm bs w σ xs L ord N T) (hT : T ≤ T') : FrM κ p d q n lines P t q0 ms gs oz Am cm bs w σ xs L ord N T' :=
 ⟨h.qu, h.qw.later hT, h.bi, h.bo, h.mm, h.lg, h.la, h.sl, h.am⟩
theorem rdL {w w' : World} {k : IntKind} {A : Option Addr} {vs : List Int} {S : Nat → Prop} (h : Rd k w A vs) (hC : Ch S w w') (hS : ∀ b, OwnB A b → b < w.heap.size → ¬ S b) : Rd k w' A vs := by
 rcases h with h | ⟨b, off, h1, h2, h3⟩
 · exact .inl h
 · exact .inr ⟨b, off, h1, Nat.lt_of_lt_of_le h2 hC.size, fun i hi => (hC.cells b _ h2 (hS b (by rw [h1]; rfl) h2)).trans (h3 i hi)⟩
/-- What fill leaves, for blocks that are older. -/
def FqP (W1 : World) (p d q n lines P : Nat) (t : Nat → Nat) (N m : Nat) (e : Ending) (w4 : World) : Prop :=
 ∃ A4 c4, e = .returned (.tuple #[.slice A4 m c4, .bool true]) ∧ m ≤ c4 ∧ Rd .u64 w4 A4 (fillL m) ∧ ∃ (κ4 : Nat → Nat) (N4 : Nat) (σ4 : PwS) (xs4 : List Int) (L4 : Nat → Int), QRs κ4 p d q n lines P t w4 (fillL m) N4 σ4 xs4 L4 ∧ N4 ≤ N + 4559 * m ∧ (∀ b, OwnB A4 b → κ4 b = 1) ∧ (∀ b, b < W1.heap.size → κ4 b = 1) ∧ Below W1.heap.size W1 w4
theorem fillQ {W1 w2 W : World} {κ : Nat → Nat} {p d q n lines P N : Nat} {t : Nat → Nat} {σ : PwS} {xs : List Int} {L : Nat → Int} (hR : QRs κ p d q n lines P t w2 [] N σ xs L) (hb : Below W1.heap.size W1 w2) (hk : ∀ b, b < W1.heap.size → κ b = 1) (hW : Below w2.heap.size w2 W) (hl : lines < 1000) (m : Nat) (hm : m ≤ P) (hP : P ≤ 100) (hN : N + 4559 * P < 1000000) :
 Calls Tryz.prog 26 #[.pointer (some ⟨q, 0, none⟩), .int .i64 (m : Int)] W (FqP W1 p d q n lines P t N m) := by
 refine (ffill30 (hR.ch hW) hl m hm hP hN).mono ?_
 rintro e w4 ⟨A4, c4, rfl, κ4, N4, σ4, xs4, L4, hR4, hN4, hO4, hA4, hk4, hC4⟩
 have hmc := ownI_le hO4
 rw [length_fillL] at hmc
 have hs := hb.size
 have hsW := hW.size
 have hkW : ∀ b, b < W1.heap.size → rolN κ w2 W 1 b = 1 := fun b hlt => by rw [rolN_old (by omega)]; exact hk b hlt
 exact ⟨A4, c4, rfl, hmc, hO4.rd, κ4, N4, σ4, xs4, L4, hR4, hN4, hA4, fun b hlt => by rw [hk4 b (by omega)]; exact hkW b hlt, belK (hb.trans (hW.mono hs)) hkW hC4⟩
set_option maxRecDepth 100000 in
set_option maxHeartbeats 8000000 in
theorem law_QueueFree (w : World) (hT : Tab w) (z : Int) (hz : -9223372036854775808 ≤ z ∧ z < 9223372036854775808) (Ac : Option Addr) (len cap : Nat) (cs : List (Bool × Int × Int)) (hcs : IsCs w Ac len cap cs)
 (Ap : Option Addr) (np cp : Nat) (ps : List Int) (hps : ps.length = np) (hnp : np < 9223372036854775808) (hpd : Rd .i64 w Ap ps) (hpr : ∀ z ∈ ps, -9223372036854775808 ≤ z ∧ z < 9223372036854775808) (al : Int) :
 Calls Tryz.prog 8 #[.agg #[.int .i64 z, .slice Ac len cap], .slice Ap np cp, .int .i64 al] w fun e w' => e = .returned (.bool true) ∧ Below w.heap.size w w' := by
 have hb0 : Below w.heap.size w (w.alloc (.cells #[.int .i64 z, .slice Ac len cap] 70)) := bl_alloc (Below.refl _ _) _
 have HBE := Lib.hid (fBegin30 _ (hT.below hb0) 0 (by omega))
 have HAW := Lib.hid (fun (W : World) (hW : Below w.heap.size w W) => fawake30 W (hT.below hW))
 have HCS := Lib.hid hcs
 have HPS := Lib.hid (And.intro hps (And.intro hnp (And.intro hpd hpr)))
 have HZ := Lib.hid hz
 have HB0 := Lib.hid hb0
 have HCL : Hid ((w.alloc (.cells #[.int .i64 z, .slice Ac len cap] 70)).cell? ⟨w.heap.size, 0, none⟩ = some (.int .i64 z) ∧ (w.alloc (.cells #[.int .i64 z, .slice Ac len cap] 70)).cell? ⟨w.heap.size, 1, none⟩ = some (.slice Ac len cap) ∧ w.heap.size < (w.alloc (.cells #[.int .i64 z, .slice Ac len cap] 70)).heap.size) := ⟨(CB.new w 70 #[.int .i64 z, .slice Ac len cap]).cell 0, (CB.new w 70 #[.int .i64 z, .slice Ac len cap]).cell 1, by simp⟩
 clear hT hcs hps hnp hpd hpr hz hb0
 go_enter Tryz.func8, Tryz.ntmps8
 go_upto_region 4 with (first
  | (go_at_call 10; (with_reducible refine HBE.out.mono ?_); rintro e w1 ⟨d, p, q, n, lines, t, σ, N, xs, L, rfl, hl, hq1, hq2, hQ, hW, hN, hb1⟩; have HB1 := Lib.hid hb1; have HX := Lib.hid (And.intro hq1 (And.intro hQ (And.intro hW (And.intro hN hl)))); clear hl hq1 hq2 hQ hW hN hb1)
  | (go_at_call 11; refine (HAW.out _ (HB0.out.trans (HB1.out.mono HB0.out.size))).mono ?_; rintro e w2 ⟨rfl, hb2⟩; have HB2 := Lib.hid hb2; clear hb2))
 obtain ⟨κ, hR, hb, hk⟩ := begQ HX.out.1 HX.out.2.1 HX.out.2.2.1 HB1.out HB2.out
 have hN := HX.out.2.2.2.1
 have hl4 : lines = 4 := by have := HX.out.2.2.2.2; omega
 obtain ⟨P, hP⟩ : ∃ P, 8 * (lines - 1) = P := ⟨_, rfl⟩
 rw [hP] at hR
 have hP24 : P = 24 := by omega
 have hm0 := Int.emod_nonneg z (show (P : Int) + 1 ≠ 0 by omega)
 have hm1 := Int.emod_lt_of_pos z (show (0 : Int) < (P : Int) + 1 by omega)
 obtain ⟨m, hm⟩ : ∃ m : Nat, z % ((P : Int) + 1) = (m : Int) := ⟨(z % ((P : Int) + 1)).toNat, by omega⟩
 have hmP : m ≤ P := by omega
 obtain ⟨f0, hV0⟩ := hR.quV (by omega)
 have HCA : Hid (∀ W, Below w2.heap.size w2 W → Calls Tryz.prog 24 #[.pointer (some ⟨q, 0, none⟩)] W fun e w' => e = .returned (.int .i64 (P : Int)) ∧ W = w') := fun W hW => quCap (hV0.bl hW)
 have HMD : Hid (∀ W, Calls Tryz.prog 14 #[.int .i64 z, .int .i64 ((P : Int) + 1)] W fun r w' => r = .returned (.int .i64 (m : Int)) ∧ W = w') := fun W => by have := fmod30 W z HZ.out ((P : Int) + 1) (by omega); rw [hm] at this; exact this
 have HFL := Lib.hid (fun (W : World) (hW : Below w2.heap.size w2 W) => fillQ hR hb hk hW (by omega) m hmP (by omega) (by omega))
 have e1 : IntKind.i64.wrap ((P : Int) + 1) = (P : Int) + 1 := IntWalk.i64_in _ (by omega)
 have hlb : w.heap.size < w2.heap.size := Nat.lt_of_lt_of_le HCL.out.2.2 hb.size
 have x0 : w2.cell? ⟨w.heap.size, 0, none⟩ = some (.int .i64 z) := (hb.cell (p := ⟨w.heap.size, 0, none⟩) HCL.out.2.2).trans HCL.out.1
 have x1 : w2.cell? ⟨w.heap.size, 1, none⟩ = some (.slice Ac len cap) := (hb.cell (p := ⟨w.heap.size, 1, none⟩) HCL.out.2.2).trans HCL.out.2.1
 have HK := Lib.hid (And.intro hb (And.intro hk (And.intro hN (And.intro hP24 (And.intro hmP hl4)))))
 clear HX HB1 HB2 HBE HAW hR hb hk hN hl4 hP hm0 hm1 hm hmP hV0 hP24
 go_region_held3 (fun w' => w'.cell? ⟨w.heap.size, 0, none⟩ = some (.int .i64 z) ∧ w.heap.size < w'.heap.size)
  ((refine ⟨?_, ?_⟩ <;> first | assumption | (go_simp; done) | (simp; omega)))
  (first
    | (go_at_call 24; (with_reducible refine (HCA.out _ (by (repeat (first | with_reducible (first | exact Below.refl _ _ | refine bl_alloc ?_ _ | refine bl_drew ?_ | refine bl_drewN ?_ _ | refine bl_bx ?_ _ | exact BX.below _ | refine bl_set ?_ (by first | (exact Nat.le_refl _) | (simp; done) | (simp; omega)) _) | assumption)))).mono ?_); rintro e w' ⟨rfl, rfl⟩)
    | (go_at_call 14; (with_reducible refine (HMD.out _).mono ?_); rintro e w' ⟨rfl, rfl⟩)
    | (go_at_call 26; (with_reducible refine (HFL.out _ (by (repeat (first | with_reducible (first | exact Below.refl _ _ | refine bl_alloc ?_ _ | refine bl_drew ?_ | refine bl_drewN ?_ _ | refine bl_bx ?_ _ | exact BX.below _ | refine bl_set ?_ (by first | (exact Nat.le_refl _) | (simp; done) | (simp; omega)) _) | assumption)))).mono ?_); rintro e w4 ⟨A4, c4, rfl, hmc4, hr4, κ4, N4, σ4, xs4, L4, hR4, hN4, hA4, hk4, hb4⟩; have HF4 := Lib.hid (And.intro hmc4 (And.intro hr4 (And.intro hR4 (And.intro hN4 (And.intro hA4 hk4))))); have y0 : w4.cell? ⟨w.heap.size, 0, none⟩ = some (.int .i64 z) := (hb4.cell (p := ⟨w.heap.size, 0, none⟩) HCL.out.2.2).trans HCL.out.1; have y1 : w4.cell? ⟨w.heap.size, 1, none⟩ = some (.slice Ac len cap) := (hb4.cell (p := ⟨w.heap.size, 1, none⟩) HCL.out.2.2).trans HCL.out.2.1; have y9 : w.heap.size < w4.heap.size := Nat.lt_of_lt_of_le HCL.out.2.2 hb4.size; have HB4 := Lib.hid hb4; clear hmc4 hr4 hR4 hN4 hA4 hk4 hb4))
 obtain ⟨hmc4, hr4, hR4, hN4, hA4, hk4⟩ := HF4.out
 obtain ⟨_, _, hN, hP24, hmP, hl4⟩ := HK.out
 have hb4 : Below w.heap.size w w4 := HB0.out.trans (HB4.out.mono HB0.out.size)
 have hk4w : ∀ b, b < w.heap.size → κ4 b = 1 := fun b hlt => hk4 b (by have := HCL.out.2.2; omega)
 have hLF := HCS.out.lf (κ := κ4) hb4.size (fun b hlt => ⟨hk4w b hlt, hb4.block b hlt⟩)
 have hRp := HPS.out.2.2.1.below hb4
 have hct : (cs.take 7).length ≤ 7 := by rw [List.length_take]; omega
 have HRN : Hid (Calls Tryz.prog 12 #[.pointer (some ⟨q, 0, none⟩), .slice Ac len cap, .slice Ap np cp, .bool false] w4 (RunP30 κ4 p d q n lines P t (fillL m) cs (N4 + 4559 * (cs.take 7).length) w4 false)) := by
  refine frun30 hR4.qu hR4.k2 hR4.qw Ac len cap cs (by have := HCS.out.2.2.1; have := HCS.out.2.1; omega) hLF HCS.out.2.2.2.2 Ap np cp ps HPS.out.1 HPS.out.2.1 hRp (fun b hb hlt => ?_) HPS.out.2.2.2 false (Nat.le_refl _) (by omega) (by omega)
  rcases HPS.out.2.2.1 with h | ⟨b2, off, h1, h2, h3⟩
  · have := HPS.out.1; rw [h] at this; simp at this; omega
  · rw [h1] at hb
    have : b2 = b := by simpa [OwnB] using hb
    rw [← this]; exact hk4w b2 h2
 have HBd : Hid (N4 + 4559 * (cs.take 7).length ≤ 200000) := by show _ ≤ _; omega
 generalize N4 + 4559 * (cs.take 7).length = Bd at HRN HBd
 clear hmc4 hr4 hR4 hN4 hA4 hk4 hb4 hk4w hLF hRp hct hN hP24 hmP hl4 HCA HMD HFL
 go_upto_region 10 with (go_at_call 12; (with_reducible refine HRN.out.mono ?_); rintro e w5 ⟨bt, rl, now, ms, gs, T, mu, κ5, A5, cp5, oz, Am, cm, bs, σ5, xs5, L5, ord, N5, rfl, hS5, _, hT5⟩; have HS5 := Lib.hid hS5; have HT5 := Lib.hid (hT5 rfl); clear hS5 hT5)
 have hF := HS5.out.frM.later (T' := 1000) (by have := HT5.out; omega)
 have hml : ms.length ≤ 7 := by have := HS5.out.seven; omega
 have hno : ∀ (i : Nat) (m : QM), ms[i]? = some m → m.th ≠ 5 := fun i m hi => by have := (HS5.out.rn.thr i m hi).1; omega
 have hN5 : N5 ≤ 200000 := by have h9 : N5 + mu ≤ Bd := HS5.out.bd; have := HBd.out; omega
 have hbs5 : bs 5 = none := hF.bo 5 (fun i m hi _ => hno i m hi)
 obtain ⟨b0, hb0⟩ : ∃ b0, (al.tmod 2 == 0) = b0 := ⟨_, rfl⟩
 have HBG : Hid (Calls Tryz.prog 29 #[.pointer (some ⟨q, 0, none⟩), .agg #[.bool b0, .int .u64 7, .int .i64 0], .int .i64 5] w5 (BgP30 q d p lines 5 b0 7 bs w5)) := fbegin30 hF.qu.pm hF.qu.hq 5 (by omega) hbs5 (hF.qw.inv.on.err 5) b0 7 0 (by omega)
 have HF := Lib.hid hF
 have HNO := Lib.hid hno
 clear hF hno hbs5
 go_upto_region 13 with (go_at_call 29; (with_reducible refine HBG.out.mono ?_); rintro e w6 ⟨gm, a, rfl, y1, y2, y3, y4, y5, y6, y7⟩; have HY := Lib.hid (And.intro y1 (And.intro y2 (And.intro y3 (And.intro y4 (And.intro y5 (And.intro y6 y7)))))); clear y1 y2 y3 y4 y5 y6 y7)
 have HSL : Hid (Sl 33 1 w6 Am ms.length cm (gs.map mpV)) := HF.out.sl.keep (fun b hb => HY.out.2.2.2.2.2.2.block b (HF.out.sl.lt hb) (fun hx => by have h1 := HF.out.am b hb; have h2 := HF.out.qu.kq; rw [show b = q from hx] at h1; omega))
 go_upto_region 16 with (at_builtin; refine wpList_append_sl rfl (.tmp 63) (.tmp 65) 29 rfl 33 (.pointer none) 1 8 rfl (by omega) Tryz.underlying29 info_pM30 (by omega) Am ms.length cm (gs.map mpV) ⟨w6.heap.size, 0, none⟩ 1 1 [.pointer (some ⟨gm, 0, none⟩)] rfl rfl (HSL.out.keep (fun b hb => Below.heap_alloc _ _ _ (HSL.out.lt hb))) rfl (by omega) (cells_one17 w6 33 _) (by simp; rfl) (by omega) ?_; intro A7 c7 w7 HO7 HC7 HW7 HG7)
 have hC67 : Ch (OwnB Am) w6 w7 := (Ch.of_below (S := OwnB Am) (bl_alloc (Below.refl _ _) _)).trans HC7.out (fun b hb _ => hb)
 obtain ⟨y1, y2, y3, y4, y5, y6, y7⟩ := HY.out
 have hW7 : ∀ b, OwnB A7 b → OwnB Am b ∨ w6.heap.size ≤ b := fun b hb => by
  rcases HW7.out b hb with h | h
  · exact .inl h
  · right; rw [h]; simp
 have hF7 := HF.out.newc HNO.out y1 y2 y3 y4 y5 y6 y7 hC67 (by rw [List.map_append]; exact HO7.out) hW7
 obtain ⟨hmc4, hr4, hR4, hN4, hA4, hk4⟩ := HF4.out
 have hb4 : Below w.heap.size w w4 := HB0.out.trans (HB4.out.mono HB0.out.size)
 have hk4w : ∀ b, b < w.heap.size → κ4 b = 1 := fun b hlt => hk4 b (by have := HCL.out.2.2; omega)
 have hC45 : Ch (fun b => κ4 b = 0 ∨ κ4 b = 2) w4 w5 := HS5.out.ch
 have hold : ∀ b, b < w4.heap.size → κ5 b = κ4 b := HS5.out.old
 have hql := hR4.qu.hq.lt
 have hkq := hR4.qu.kq
 have hs4 := hb4.size
 have s45 := hC45.size
 have s56 := y7.size
 have s67 := hC67.size
 have hb5 : Below w.heap.size w w5 := belK hb4 hk4w hC45
 have hb6 : Below w.heap.size w w6 := bl_ch hb5 y7 (fun b hb => by
  rw [show b = q from hb]
  by_cases hlt : q < w.heap.size
  · have := hk4w q hlt; omega
  · omega)
 have hk5w : ∀ b, b < w.heap.size → κ5 b = 1 := fun b hlt => by rw [hold b (by omega)]; exact hk4w b hlt
 have hb7 : Below w.heap.size w w7 := bl_ch hb6 hC67 (fun b hb => by
  by_cases hlt : b < w.heap.size
  · have h1 := hk5w b hlt; have h2 := HF.out.am b hb; omega
  · omega)
 have hk7w : ∀ b, b < w.heap.size → rolC κ5 w5 w7 ms.length gm a A7 b = 1 := fun b hlt => by rw [rolC_old (by omega)]; exact hk5w b hlt
 have hr5 : Rd .u64 w5 A4 (fillL m) := rdK hr4 hA4 hC45
 have hr7 : Rd .u64 w7 A4 (fillL m) ∧ ∀ b, OwnB A4 b → b < w4.heap.size → rolC κ5 w5 w7 ms.length gm a A7 b = 1 := by
  refine ⟨?_, fun b hb hlt => by rw [rolC_old (by omega), hold b hlt]; exact hA4 b hb⟩
  rcases hr4 with h | ⟨b4, o4, h1, h2, h3⟩
  · exact .inl h
  · have hOb : OwnB A4 b4 := by rw [h1]; rfl
    have hq4 : ∀ b, OwnB A4 b → b = b4 := fun b hb => by
     rw [h1] at hb
     have : b4 = b := by simpa [OwnB] using hb
     omega
    refine rdL (rdL hr5 y7 (fun b hb _ hx => ?_)) hC67 (fun b hb _ hx => ?_)
    · have h4 := hA4 b hb; rw [show b = q from hx] at h4; omega
    · have h4 := hA4 b4 hOb; have h5 := hold b4 h2; have h6 := HF.out.am b hx; rw [hq4 b hb] at h6; omega
 have hM : (ms ++ [qm0 b0 7 5]).length = ms.length + 1 := by simp
 have HFX : Hid (FrX (rolC κ5 w5 w7 ms.length gm a A7) w7 p d q n lines P t (fillL m) (ms.length + 1) (gs ++ [gm]) (oz ++ [a]) A7 c7 N5 (ms.length + 1) 1000 w7) :=
  ⟨_, _, _, _, _, _, _, _, hF7, hM, fun i m hi hm => by have := (List.getElem?_eq_some_iff.1 hm).1; omega, by omega, by omega, fun b _ => rfl, Ch.refl _ _⟩
 have hA7 : Rd .u64 w7 A4 (fillL m) ∧ (fillL m = [] ∨ ∀ b, OwnB A4 b → rolC κ5 w5 w7 ms.length gm a A7 b = 1) := by
  refine ⟨hr7.1, ?_⟩
  rcases hr4 with h | ⟨b4, o4, h1, h2, h3⟩
  · exact .inl h
  · refine .inr (fun b hb => hr7.2 b hb ?_)
    rw [h1] at hb
    have : b4 = b := by simpa [OwnB] using hb
    omega
 have HA4 := Lib.hid (And.intro hA7 (And.intro hmc4 (And.intro hb7 hk7w)))
 have hP6 : P < 1000000 := by have := HK.out.2.2.2.1; omega
 have hM8 : ms.length + 1 ≤ 8 := by omega
 generalize rolC κ5 w5 w7 ms.length gm a A7 = κ7 at HFX HA4
 generalize gs ++ [gm] = gs7 at HFX
 generalize oz ++ [a] = oz7 at HFX
 obtain ⟨M, hMe⟩ : ∃ M, ms.length + 1 = M := ⟨_, rfl⟩
 have HME := Lib.hid hMe
 rw [hMe] at HFX hM8 ⊢
 clear hMe
 clear hC67 y1 y2 y3 y4 y5 y6 y7 hW7 hF7 hmc4 hr4 hR4 hN4 hA4 hk4 hb4 hk4w hC45 hold hql hkq hs4 s45 s56 s67 hb5 hb6 hk5w hb7 hk7w hr5 hr7 hM hA7 hml HO7 HC7 HW7 HG7 HY HSL HF HNO HS5 HT5 HBG HRN HF4 HB4 HB0 HBd HCL
 have e2 : IntKind.i64.wrap ((M : Int) - 1) = (M : Int) - 1 := IntWalk.i64_in _ (by omega)
 go_wp2
 go_loopw [16, 15, 6, 17, 70, 71, 72, 73, 74, 75, 76, 77, 78, 79, 80, 81, 82, 83, 84, 85, 86, 87, 88, 89, 90, 91, 92, 93, 94, 95, 96, 97, 98, 99, 100, 101, 102, 103] (fun i a _ _ _ _ _ _ _ _ _ _ _ _ _ _ _ _ _ _ _ _ _ _ _ _ _ _ _ _ _ _ _ _ _ _ _ _ wr => ∃ (j T : Nat), j ≤ M ∧ i = .int .i64 ((j : Int) - 1) ∧ a = .int .i64 (T : Int) ∧ FrX κ7 w7 p d q n lines P t (fillL m) M gs7 oz7 A7 c7 N5 j T wr) (fun i a _ _ _ _ _ _ _ _ _ _ _ _ _ _ _ _ _ _ _ _ _ _ _ _ _ _ _ _ _ _ _ _ _ _ _ _ _ => ((intOf i) + 1).toNat)
 case atStart => exact ⟨M, 1000, Nat.le_refl _, by rw [show ((M : Int) - 1) = (ms.length : Int) by have := HME.out; omega], rfl, HFX.out⟩
 case round =>
  clear HFX
  obtain ⟨j, T, hj, rfl, rfl, hX⟩ := hrel
  have HX := Lib.hid hX
  clear hX
  by_cases hlt : 0 < j
  · obtain ⟨i, rfl⟩ : ∃ i, j = i + 1 := ⟨j - 1, by omega⟩
    have hi : ((i + 1 : Nat) : Int) - 1 = (i : Int) := by omega
    have hge : (0 : Int) ≤ (i : Int) := by omega
    rw [hi]
    have HY0 := Lib.hid HX.out.start
    go_wp2
    go_loopw [17, 15, 74, 75, 76, 77, 78, 79, 80, 81, 82, 83, 84, 85, 86, 87, 88, 89, 90, 91, 92, 93, 94, 95] (fun k a _ _ _ _ _ _ _ _ _ _ _ _ _ _ _ _ _ _ _ _ _ _ wr => ∃ (k' T : Nat), k = .int .i64 (k' : Int) ∧ a = .int .i64 (T : Int) ∧ FrY κ7 w7 p d q n lines P t (fillL m) M gs7 oz7 A7 c7 N5 i k' T wr) (fun k a _ _ _ _ _ _ _ _ _ _ _ _ _ _ _ _ _ _ _ _ _ _ _ => 12600 - (intOf k).toNat)
    case atStart => exact ⟨0, T, rfl, rfl, HY0.out⟩
    case round =>
     clear HY0 HX
     obtain ⟨k', T', rfl, rfl, hY⟩ := hrel
     obtain ⟨⟨hk, hT9⟩, gS, oS, g, hA, hgS, hcS, hg, b, hc9, hcase⟩ := hY.cases (by omega) hM8 (by omega) hP6
     have hk2 : (k' : Int) < 20000 := by omega
     have hiM : (i : Int) < (M : Int) := by omega
     subst hA
     clear hY
     rcases hcase with ⟨rfl, hX2⟩ | ⟨rfl, hk3, hst⟩
     · have HX2 := Lib.hid hX2
       have e3 : IntKind.i64.wrap ((i : Int) - 1) = (i : Int) - 1 := IntWalk.i64_in _ (by omega)
       clear hX2
       go_wp2
       exact ⟨⟨i, T', by omega, by go_num, rfl, HX2.out⟩, by (simp [intOf]) <;> omega⟩
     · have HST := Lib.hid hst
       have e3 : IntKind.i64.wrap ((k' : Int) + 1) = (k' : Int) + 1 := IntWalk.i64_in _ (by omega)
       have e4 : IntKind.i64.wrap ((T' : Int) + 1) = (T' : Int) + 1 := IntWalk.i64_in _ (by omega)
       clear hst
       go_wp2_with (go_at_call 30; (with_reducible refine HST.out.mono ?_); rintro e w' ⟨rfl, hY2⟩; have HY2 := Lib.hid hY2; clear hY2)
       exact ⟨⟨k' + 1, T' + 1, by go_num, by go_num, HY2.out⟩, by simp [intOf]; omega⟩
  · obtain rfl : j = 0 := by omega
    obtain ⟨κ8, ms8, bs8, σ8, xs8, L8, ord8, N8, h1, h2, h3, _, _, _, h7⟩ := HX.out
    have hall : ∀ (i : Nat) (m : QM), ms8[i]? = some m → m.ph.over = true := fun i m hi => h3 i m (Nat.zero_le _) hi
    obtain ⟨hR8, hM8'⟩ := h1.rest hall
    have hMQ := hM8'.maQ2 (fun m hm => h1.qw.ls.err hall hm)
    have hexp := h1.qw.ls.explains
    rw [List.length_map, h2] at hexp
    rw [h2] at hMQ
    obtain ⟨⟨hr7, hA7⟩, hmc, hb7, hk7w⟩ := HA4.out
    obtain ⟨_, _, _, hP24, hmP, hl4⟩ := HK.out
    have hR4 : Rd .u64 wr A4 (fillL m) := by
     rcases hA7 with h | h
     · rw [h]; exact Rd.nil
     · exact rdL hr7 h7 (fun b hb _ hx => hx.1 (h b hb))
    have hbr : Below w.heap.size w wr := bl_ch hb7 h7 (fun b hb => by
     by_cases hlt : b < w.heap.size
     · exact absurd (hk7w b hlt) hb.1
     · omega)
    obtain ⟨f8, hV8⟩ := hR8.quV (by omega)
    have hle := hV8.ab.le
    generalize qSt P ms8 (fillL m) ord8 = qs at hV8 hle hexp
    have HCA : Hid (∀ W, Below wr.heap.size wr W → Calls Tryz.prog 24 #[.pointer (some ⟨q, 0, none⟩)] W fun e w' => e = .returned (.int .i64 (P : Int)) ∧ W = w') := fun W hW => quCap (hV8.bl hW)
    have HAL : Hid (∀ W, Below wr.heap.size wr W → Calls Tryz.prog 13 #[.pointer (some ⟨q, 0, none⟩)] W (AllP qs W)) := fun W hW => quAll (hV8.bl hW)
    have HBK : Hid (∀ W A c, Below wr.heap.size wr W → Rd .u64 W A qs → Calls Tryz.prog 25 #[.pointer (some ⟨q, 0, none⟩), .slice A qs.length c] W fun e w' => e = .returned (.bool true) ∧ Below W.heap.size W w') := fun W A c hW hr => fbooks30 (hV8.bl hW) A qs.length c rfl hr
    have HSE := Lib.hid (fseen30 wr A7 M c7 (ms8.map rqOf) (by rw [List.length_map]; exact h2) (by omega) hMQ)
    have HEX : Hid (∀ W A6 c6 A9 c9, Below wr.heap.size wr W → (0 < M → ∃ g off, A6 = some ⟨g, off, none⟩ ∧ RqP W g off M (ms8.map rqOf)) → Rd .u64 W A9 qs → Calls Tryz.prog 27 #[.slice A4 m c4, .int .i64 (P : Int), .slice A6 M c6, .slice A9 qs.length c9] W fun r w' => r = .returned (.bool true) ∧ Below W.heap.size W w') := fun W A6 c6 A9 c9 hW h6 h9 => by
     have := refExplains30 W P (by omega) A4 m c4 (fillL m) (length_fillL m) hmP hmc (hR4.below hW) A6 M c6 (ms8.map rqOf) (by rw [List.length_map]; exact h2) (by omega) h6 A9 qs.length c9 qs rfl (by omega) h9
     rw [hexp] at this
     exact this
    have HB5 := Lib.hid hbr
    clear h1 h2 h3 h7 hall hR8 hM8' hMQ hexp hr7 hA7 hmc hb7 hk7w hP24 hmP hl4 hR4 hbr hV8 hle HX HA4 HK HCS HPS HZ
    go_wp2_with (first
     | (go_at_call 24; (with_reducible refine (HCA.out _ (Below.refl _ _)).mono ?_); rintro e w' ⟨rfl, rfl⟩)
     | (go_at_call 28; (with_reducible refine HSE.out.mono ?_); rintro e w16 ⟨A6, c6, rfl, h6, hb6⟩; have HP6 := Lib.hid h6; have HB6 := Lib.hid hb6; clear h6 hb6)
     | (go_at_call 13; (with_reducible refine (HAL.out _ HB6.out).mono ?_); rintro e w17 ⟨A9, c9, rfl, hr9, hb9, _⟩; have HR9 := Lib.hid hr9; have HB67 := Lib.hid hb9; have HB7 : Hid (Below wr.heap.size wr w17) := HB6.out.trans (hb9.mono HB6.out.size); clear hr9 hb9)
     | (go_at_call 27; (with_reducible refine (HEX.out _ A6 c6 A9 c9 HB7.out (fun h0 => (by obtain ⟨g, off, h1, h2⟩ := HP6.out h0; exact ⟨g, off, h1, h2.bl HB67.out⟩)) HR9.out).mono ?_); rintro e w18 ⟨rfl, hb8⟩; have HB8 : Hid (Below wr.heap.size wr w18) := HB7.out.trans (hb8.mono HB7.out.size); clear hb8)
     | (go_at_call 13; (with_reducible refine (HAL.out _ HB8.out).mono ?_); rintro e w19 ⟨A10, c10, rfl, hr10, hb10, _⟩; have HR10 := Lib.hid hr10; have HB9 : Hid (Below wr.heap.size wr w19) := HB8.out.trans (hb10.mono HB8.out.size); clear hr10 hb10)
     | (go_at_call 25; (with_reducible refine (HBK.out _ A10 c10 HB9.out HR10.out).mono ?_); rintro e w20 ⟨rfl, hb11⟩; have HB10 : Hid (Below wr.heap.size wr w20) := HB9.out.trans (hb11.mono HB9.out.size); clear hb11))
    exact bodyPost_ret (v := .bool true) (by simp [results, Tryz.results8, go_sem]) rfl ⟨rfl, HB5.out.trans (HB10.out.mono HB5.out.size)⟩
end Go.Proofs.YtaefkelaffijbaaGreatDoor
