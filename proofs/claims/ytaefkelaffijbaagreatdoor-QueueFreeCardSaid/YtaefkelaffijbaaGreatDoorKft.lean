/- A run to its end; awake (merged). -/
import Derived.Test.YtaefkelaffijbaaGreatDoorRows
import Derived.Test.YtaefkelaffijbaaGreatDoorTie
import Derived.Test.YtaefkelaffijbaaGreatDoorKfs
import Derived.Lib.LaidTab
import Derived.LaidMore
import Derived.Test.YtaefkelaffijbaaGreatDoorKfa
import Derived.Test.YtaefkelaffijbaaGreatDoorKfp
import Derived.Test.YtaefkelaffijbaaGreatDoorKfo
import Derived.Test.YtaefkelaffijbaaGreatDoorKfk
import Derived.Test.YtaefkelaffijbaaGreatDoorKfq
namespace Go.Proofs.YtaefkelaffijbaaGreatDoor
open Go.RowKit
set_option linter.unusedVariables false
theorem gTab : Tryz.prog.globalNamed "bedrock/crc.nibbles" = some 0 := by kernel_rfl
theorem gTabT : (Tryz.prog.globals[0]?).map (·.type) = some 232 := by kernel_rfl
theorem tab_of_laid {W : World} (h : laidMetH Tryz.prog [("bedrock/crc.nibbles", Rows.laid_bedrock_crc_nibbles)] W) : Tab W := by
 rw [MakeChecks.laidMetH_plain _ _ _ (by kernel_rfl)] at h
 have h2 : laidMet Tryz.prog [("bedrock/crc.nibbles", Lib.tabData .u32 (nibT.map fun (n : Nat) => (n : Int)))] W := h
 have h3 := Lib.tabIs_of_head gTab gTabT Tryz.underlying232 Tryz.underlying206 (by kernel_rfl) (by kernel_rfl) h2
 have hc : ∀ j, j < 16 → W.cell? ⟨0, j, none⟩ = some (.int .u32 (nibT.getD j 0 : Nat)) := by
  intro j hj
  have := h3.cell gTab j (by simpa [nibT] using hj)
  rw [this]
  congr 2
  have hj' : j < nibT.length := hj
  simp [List.getD, hj']
 exact ⟨World.block_lt_of_cell? W _ (hc 0 (by decide)), hc⟩
/-- A slice of integers that came in: it is nil, or it leads to a row of numbers, each fitting its kind. -/
def IsRow (k : IntKind) (w : World) (a : Option Addr) (len cap : Nat) (zs : List Int) : Prop :=
 (a = none ∧ len = 0 ∧ cap = 0 ∧ zs = []) ∨
 ∃ x, a = some x ∧ len ≤ cap ∧ cap ≤ maxLen ∧ zs.length = cap ∧ (∀ i, i < zs.length → w.cell? (x.add i) = some (.int k (zs.getD i 0))) ∧ ∀ n ∈ zs, (Lit.int k n).wf = true

theorem isRow_rd {k : IntKind} {w : World} {a : Option Addr} {len cap : Nat} {zs : List Int} (h : IsRow k w a len cap zs) :
 ∃ xs : List Int, xs.length = len ∧ len ≤ cap ∧ cap ≤ 9223372036854775807 ∧ Rd k w a xs ∧ ∀ n ∈ xs, (Lit.int k n).wf = true := by
 rcases h with ⟨rfl, rfl, rfl, rfl⟩ | ⟨x, rfl, hl, hm, hz, hc, hw⟩
 · exact ⟨[], rfl, Nat.le_refl _, by omega, .inl rfl, by simp⟩
 · refine ⟨zs.take len, by simp; omega, hl, by unfold maxLen at hm; omega, ?_, fun n hn => hw n (List.mem_of_mem_take hn)⟩
   by_cases h0 : zs.length = 0
   · left
     have : zs = [] := List.eq_nil_of_length_eq_zero h0
     simp [this]
   · have h1 := hc 0 (by omega)
     have hx : x.add 0 = x := by simp [Addr.add]
     rw [hx] at h1
     have hlt := World.block_lt_of_cell? w x h1
     obtain ⟨b, off, sp⟩ := x
     have hsp : sp = none := by
      cases sp with
      | none => rfl
      | some s =>
        unfold World.cell? at h1
        split at h1 <;> simp at h1
     subst hsp
     refine .inr ⟨b, off, rfl, hlt, fun i hi => ?_⟩
     have hi' : i < zs.length := by simp at hi; omega
     have h2 := hc i hi'
     have h3 : (⟨b, off, none⟩ : Addr).add i = ⟨b, off + i, none⟩ := by unfold Addr.add; split <;> simp_all
     rw [h3] at h2
     rw [h2]
     simp [hi']

theorem wf_u64 {a : Int} (h : (Lit.int .u64 a).wf = true) : 0 ≤ a ∧ a < 18446744073709551616 := by
 simp [Lit.wf, IntKind.min, IntKind.max, IntKind.signed, IntKind.bits] at h; omega
theorem wf_i64 {a : Int} (h : (Lit.int .i64 a).wf = true) : -9223372036854775808 ≤ a ∧ a < 9223372036854775808 := by
 simp [Lit.wf, IntKind.min, IntKind.max, IntKind.signed, IntKind.bits] at h; omega
set_option linter.unusedSimpArgs false
/-- What a run to its end leaves. -/
def RunP (κ : Nat → Nat) (p d q n lines P : Nat) (t : Nat → Nat) (vs : List Int) (N : Nat) (cs : List (Bool × Int × Int)) (w : World) (e : Ending) (w' : World) : Prop :=
 ∃ (Am : Option Addr) (cm : Nat) (ms : List QM) (ord : List Nat) (κ' : Nat → Nat) (N' : Nat) (σ : PwS) (xs : List Int) (L : Nat → Int), e = .returned (.tuple #[.slice Am ms.length cm, .bool true]) ∧ QRs κ' p d q n lines P t w' (qSt P ms vs ord) N' σ xs L ∧ MsV κ' w' Am cm ms ∧
  RunOk P vs (csOf (cs.take 7)) ms ord ∧ (∀ b, b < w.heap.size → κ' b = κ b) ∧ Ch (fun b => κ b = 0 ∨ κ b = 2) w w' ∧ N' ≤ N + 4559 * (cs.take 7).length
theorem frunAll {κ : Nat → Nat} {p d q n lines P N : Nat} {t : Nat → Nat} {vs : List Int} {w : World} {σ : PwS} {xs : List Int} {L : Nat → Int} (h : QRs κ p d q n lines P t w vs N σ xs L) (Ac : Option Addr) (nc cc : Nat) (cs : List (Bool × Int × Int)) (hnc : nc < 9223372036854775808) (hcs : LfV κ w Ac nc cc cs) (hcr : ∀ c ∈ cs, (0 ≤ c.2.1 ∧ c.2.1 < 18446744073709551616) ∧ (-9223372036854775808 ≤ c.2.2 ∧ c.2.2 < 9223372036854775808))
 (Ap : Option Addr) (np cp : Nat) (ps : List Int) (hps : ps.length = np) (hnp : np < 9223372036854775808) (hpd : Rd .i64 w Ap ps) (hpo : ∀ b, OwnB Ap b → 0 < np → κ b = 1) (hpr : ∀ z ∈ ps, -9223372036854775808 ≤ z ∧ z < 9223372036854775808) (hN : N + 4559 * (cs.take 7).length < 1000000) :
 Calls Tryz.prog 12 #[.pointer (some ⟨q, 0, none⟩), .slice Ac nc cc, .slice Ap np cp, .bool true] w (RunP κ p d q n lines P t vs N cs w) := by
 have hP : P < 1000000 := by have := h.qu.hn2; have := h.qu.hn; omega
 refine (frun30 h.qu h.k2 h.qw Ac nc cc cs hnc hcs hcr Ap np cp ps hps hnp hpd hpo hpr true (Nat.le_refl _) hN hP).mono ?_
 rintro e w' ⟨bt, rl, now, ms, gs, T, mu, κ', A, cpf, oz, Am, cm, bs, σ', xs', L', ord, N', rfl, hS, hf, _⟩
 have hrl := hf rfl
 have hall := hS.rn.all (fun s i m hs hi hm => (hrl s hs).2 i m hi hm)
 obtain ⟨h1, h2, h3, h4, h5⟩ := hS.rest hall
 have htb := hS.tb
 refine ⟨Am, cm, ms, ord, oneK κ', N', σ', xs', L', rfl, h1, h2, ⟨σ', T, L', _, now, hS.qw.ls, hS.rn, fun s hs => by show (rl s).map mkC = []; rw [(hrl s hs).1]; rfl, hall, ?_⟩, h3, h4, ?_⟩
 · have : T + mu ≤ N + 4559 * (cs.take 7).length := htb
   omega
 · have : N' + mu ≤ N + 4559 * (cs.take 7).length := h5
   omega
theorem awake_plain {P : Nat} {ms : List QM} {ord : List Nat} (h : RunOk P [] [(true, 5, 0), (true, 6, 0), (false, 0, 0)] ms ord) (hP : 2 < P) : ∃ a b c, ms = [a, b, c] ∧ qSt P ms [] ord = [6] ∧ c.ph = .fin 5 0 := by
 obtain ⟨h1, h2⟩ := h.solo (t := 0) (by omega) (fun c hc => by
  simp only [List.mem_cons, List.not_mem_nil, or_false] at hc
  rcases hc with rfl | rfl | rfl <;> rfl)
 obtain ⟨σ, T, L, lf, now, g1, _, _, g4, _⟩ := h
 have hl : ms.length = 3 := by have := congrArg List.length h1; simpa using this
 obtain ⟨a, b, c, rfl⟩ : ∃ a b c, ms = [a, b, c] := by
  clear h1 h2 g1 g4
  match ms, hl with
  | [a, b, c], _ => exact ⟨a, b, c, rfl⟩
 simp only [List.map_cons, List.map_nil, List.cons.injEq, and_true, Prod.mk.injEq] at h1
 obtain ⟨⟨a1, a2⟩, ⟨b1, b2⟩, ⟨c1, c2⟩⟩ := h1
 have e2 : qSt P [a, b, c] [] [0, 1] = [5, 6] := by
  show (qApp P (qApp P [] a.ins a.val).1 b.ins b.val).1 = _
  rw [a1, a2, b1, b2]
  simp [qApp]
  repeat (first | rw [if_neg (by omega)] | (split <;> first | rfl | omega | simp_all))
 have e3 : qSt P [a, b, c] [] [0, 1, 2] = [6] := by
  show (qApp P (qSt P [a, b, c] [] [0, 1]) c.ins c.val).1 = _
  rw [e2, c1, c2]
  simp [qApp]
 have ho : ord = [0, 1, 2] := h2
 refine ⟨a, b, c, rfl, by rw [ho]; exact e3, ?_⟩
 have hf := g1.fin g4 (p := 2) (i := 2) (m := c) (by rw [ho]; rfl) rfl
 have e : ord.take 2 = [0, 1] := by rw [ho]; rfl
 rw [e, e2, c1, c2] at hf
 simpa [qApp] using hf
def CS3 : List (Bool × Int × Int) := [(true, 5, 0), (true, 6, 0), (false, 0, 0)]
theorem lfV3 {κ : Nat → Nat} {w w' : World} {g : Nat} (h : CB w g 44 #[.bool true, .int .u64 5, .int .i64 0, .bool true, .int .u64 6, .int .i64 0, .bool false, .int .u64 0, .int .i64 0]) (hk : κ g = 1) : LfV κ w (some ⟨g, 0, none⟩) 3 3 CS3 := by
 refine ⟨rfl, Nat.le_refl _, fun _ => ⟨g, 0, rfl, hk, h.lt, fun k hk => ?_⟩⟩
 have hk3 : k = 0 ∨ k = 1 ∨ k = 2 := by omega
 rcases hk3 with rfl | rfl | rfl
 · exact ⟨h.cell 0, h.cell 1, h.cell 2⟩
 · exact ⟨h.cell 3, h.cell 4, h.cell 5⟩
 · exact ⟨h.cell 6, h.cell 7, h.cell 8⟩
theorem rolB_le (w : World) (q b : Nat) : rolB w q b ≤ 2 := by
 by_cases h1 : b = q
 · unfold rolB; rw [if_pos h1]; omega
 · unfold rolB; rw [if_neg h1]; split <;> omega
theorem rolB_ge {w : World} {q b : Nat} (hq : w.heap.size ≤ q) (h : rolB w q b = 0 ∨ rolB w q b = 2) : w.heap.size ≤ b := by
 unfold rolB at h
 by_cases h1 : b = q
 · omega
 · rw [if_neg h1] at h
   by_cases h2 : b < w.heap.size
   · rw [if_pos h2] at h; omega
   · omega
/-- What awake's run leaves. -/
def AwP (q : Nat) (w : World) (e : Ending) (w' : World) : Prop :=
 ∃ gA oA cm g3, e = .returned (.tuple #[.slice (some ⟨gA, oA, none⟩) 3 cm, .bool true]) ∧ w'.cell? ⟨gA, oA + 2, none⟩ = some (.pointer (some ⟨g3, 0, none⟩)) ∧ gA < w'.heap.size ∧ w'.cell? ⟨g3, 6, none⟩ = some (.int .u64 5) ∧ g3 < w'.heap.size ∧
  (∀ W, Below w'.heap.size w' W → Calls Tryz.prog 13 #[.pointer (some ⟨q, 0, none⟩)] W (AllP [6] W)) ∧ Below w.heap.size w w'
theorem awakeRun {w w1 : World} {p d q n lines N : Nat} {t : Nat → Nat} {σ : PwS} {xs : List Int} {L : Nat → Int} (hl : (lines : Int) = 4 + 0 % 4) (hq : w.heap.size ≤ q) (hQ : QuM (rolB w q) p d q n lines (8 * (lines - 1)) t (fun _ => none) w1 σ) (hW : QW sumI (atW 0) n 256 (8 * (lines - 1)) [] σ [] N 0 xs L []) (hN : N ≤ 400) (hb : Below w.heap.size w w1) :
 Calls Tryz.prog 12 #[.pointer (some ⟨q, 0, none⟩), .slice (some ⟨w1.heap.size, 0, none⟩) 3 3, .slice none 0 0, .bool true] (w1.alloc (.cells #[.bool true, .int .u64 5, .int .i64 0, .bool true, .int .u64 6, .int .i64 0, .bool false, .int .u64 0, .int .i64 0] 44)) (AwP q w) := by
 have hs1 := hb.size
 have hb2 : Below w1.heap.size w1 (w1.alloc (.cells #[.bool true, .int .u64 5, .int .i64 0, .bool true, .int .u64 6, .int .i64 0, .bool false, .int .u64 0, .int .i64 0] 44)) := bl_alloc (Below.refl _ _) _
 have hR0 : QRs (rolB w q) p d q n lines (8 * (lines - 1)) t w1 [] N σ xs L := ⟨hQ, hW, fun b _ => rolB_le w q b⟩
 have hR := hR0.ch hb2
 have hL := lfV3 (κ := rolN (rolB w q) w1 (w1.alloc (.cells #[.bool true, .int .u64 5, .int .i64 0, .bool true, .int .u64 6, .int .i64 0, .bool false, .int .u64 0, .int .i64 0] 44)) 1) (w' := w1) (CB.new w1 44 #[.bool true, .int .u64 5, .int .i64 0, .bool true, .int .u64 6, .int .i64 0, .bool false, .int .u64 0, .int .i64 0]) (rolN_new (Nat.le_refl _) (by simp))
 refine (frunAll hR _ 3 3 CS3 (by omega) hL (fun c hc => ?_) none 0 0 [] rfl (by omega) Rd.nil (fun b hb => by simp [OwnB] at hb) (fun z hz => by simp at hz) (by show N + 4559 * 3 < 1000000; omega)).mono ?_
 · simp only [CS3, List.mem_cons, List.not_mem_nil, or_false] at hc
   rcases hc with rfl | rfl | rfl <;> exact ⟨⟨by decide, by decide⟩, by decide, by decide⟩
 · rintro e w3 ⟨Am, cm, ms, ord, κ', N', σ', xs', L', rfl, hR', hM, hO, hk, hC, hN'⟩
   obtain ⟨a, b, c, rfl, hqs, hph⟩ := awake_plain (P := 8 * (lines - 1)) hO (by omega)
   rw [hqs] at hR'
   obtain ⟨f, hV⟩ := hR'.quV (by omega)
   obtain ⟨gs, oz, hS, hg, _, hm⟩ := hM
   obtain ⟨gA, oA, hA, hgl, hc2⟩ := hS.at_ (j := 2) (by simp [hg])
   obtain ⟨hm2, _⟩ := hm 2 c rfl
   have hx : (gs.map mpV)[2]'(by simp [hg]) = .pointer (some ⟨gs.getD 2 0, 0, none⟩) := by
    rw [List.getElem_map, List.getD_eq_getElem?_getD, List.getElem?_eq_getElem (by rw [hg]; simp)]; rfl
   rw [hx] at hc2
   have hc6 : w3.cell? ⟨gs.getD 2 0, 6, none⟩ = some (.int .u64 c.ph.got) := hm2.cell 6
   rw [hph] at hc6
   subst hA
   refine ⟨gA, oA, cm, gs.getD 2 0, rfl, hc2, hgl, hc6, hm2.lt, fun W hW => quAll (hV.bl hW), ?_⟩
   refine bl_ch (hb.trans (hb2.mono hs1)) hC (fun b hb => ?_)
   by_cases hlt : b < w1.heap.size
   · rw [rolN_old hlt] at hb
     exact rolB_ge hq hb
   · omega
theorem rd_one30 (w : World) (v : Int) : Rd .u64 (w.alloc (.cells #[.int .u64 v] 34)) (some ⟨w.heap.size, 0, none⟩) [v] := by
 refine .inr ⟨_, 0, rfl, by simp, fun i hi => ?_⟩
 have h0 : i = 0 := by simpa using hi
 subst h0
 exact (CB.new w 34 #[.int .u64 v]).cell 0
set_option maxRecDepth 100000 in
set_option maxHeartbeats 4000000 in
theorem fawake30 (w : World) (hT : Tab w) : Calls Tryz.prog 11 #[] w fun e w' => e = .returned (.bool true) ∧ Below w.heap.size w w' := by
 have HBE : Hid (Calls Tryz.prog 10 #[.int .i64 0] w (BegP30 0 w)) := fBegin30 w hT 0 (by omega)
 clear hT
 go_enter Tryz.func11, Tryz.ntmps11
 go_wp2_with (first
  | (go_at_call 10; (with_reducible refine HBE.out.mono ?_); rintro e w1 ⟨d, p, q, n, lines, t, σ, N, xs, L, rfl, hl, hq1, hq2, hQ, hW, hN, hb1⟩; have HRN := Lib.hid (awakeRun hl hq1 hQ hW hN hb1); clear hl hq1 hq2 hQ hW hN hb1)
  | (go_at_call 12; (with_reducible refine HRN.out.mono ?_); rintro e w3 ⟨gA, oA, cm, g3, rfl, z1, z2, z3, z4, hall, hb3⟩; have HALL := Lib.hid hall; have HB3 := Lib.hid hb3; clear hall hb3)
  | (go_at_call 13; (with_reducible refine (HALL.out _ (by (repeat (first | with_reducible (first | exact Below.refl _ _ | refine bl_alloc ?_ _ | refine bl_drew ?_ | refine bl_drewN ?_ _ | refine bl_bx ?_ _ | exact BX.below _ | refine bl_set ?_ (by first | (exact Nat.le_refl _) | (simp; done) | (simp; omega)) _) | assumption)))).mono ?_); rintro e w4 ⟨A4, c4, rfl, hr4, hb4, _⟩; have HR4 := Lib.hid hr4; have HB4 := Lib.hid hb4; obtain ⟨x, rfl⟩ := bx_of hb4; clear hr4 hb4)
  | (go_at_call 16; have hsm := refSame30 (x.w.alloc (.cells #[.int .u64 6] 34)) A4 (some ⟨x.w.heap.size, 0, none⟩) 1 c4 1 1 [6] [6] rfl rfl (by omega) (HR4.out.alloc _) (rd_one30 _ _); rw [show (([6] : List Int) == [6]) = true from rfl] at hsm; (with_reducible refine hsm.mono ?_); rintro e w5 ⟨rfl, hb5⟩; clear hsm; have HB5 := Lib.hid hb5; clear hb5))
 exact bodyPost_ret (v := .bool true) (by simp [results, Tryz.results11, go_sem]) rfl ⟨rfl, HB3.out.trans ((HB4.out.trans (((bl_alloc (Below.refl _ _) _ : Below x.w.heap.size x.w _).trans (HB5.out.mono (by simp))).mono HB4.out.size)).mono HB3.out.size)⟩
end Go.Proofs.YtaefkelaffijbaaGreatDoor
