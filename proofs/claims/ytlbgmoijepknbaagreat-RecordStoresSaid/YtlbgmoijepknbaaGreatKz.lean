/- Plan of the record, what is stored and read again (merged). -/
import Derived.Test.YtlbgmoijepknbaaGreatReadV
import Derived.Test.YtlbgmoijepknbaaGreatPairB
import Derived.Test.YtlbgmoijepknbaaGreatKp
import Derived.Test.YtlbgmoijepknbaaGreatPairV
import Derived.Deep.RegionHeld3
import Derived.Test.YtlbgmoijepknbaaGreatNameE
import Derived.Test.YtlbgmoijepknbaaGreatName
import Derived.Test.YtlbgmoijepknbaaGreatApp
import Derived.Test.YtlbgmoijepknbaaGreatTail
import Derived.Test.YtlbgmoijepknbaaGreatDecB
namespace Go.Proofs.YtlbgmoijepknbaaGreat
open Go.RowKit
set_option linter.unusedVariables false

/-- make of a slice of pairs of words. -/
theorem run_make_pairs {P : Program} (t e : TypeId) (k kl kc : IntKind) (z : Int) (n : Nat) (hz : z = (n : Int)) (ht : P.underlying t = some (.slice e)) (hinfo : (P.info? e).map (fun i => (i.zero, i.size, i.bytes)) = some (some (.agg #[.int k 0, .int k 0]), 2, 16))
    (hn : n ≤ 1000000000000) (w : World) :
    (Instr.makeSlice t (.int kl z) (.int kc z)).run P w = .ok (.slice (some ⟨w.heap.size, 0, none⟩) n n) (w.alloc (.cells (ia k (List.replicate (2 * n) (0 : Int))) e)) := by
  subst hz
  cases hi : P.info? e with
  | none => rw [hi] at hinfo; cases hinfo
  | some i =>
    rw [hi] at hinfo
    simp only [Option.map_some, Option.some.injEq, Prod.mk.injEq] at hinfo
    obtain ⟨hz, hs, hb⟩ := hinfo
    have hr := run_make (P := P) w t e i (.agg #[.int k 0, .int k 0]) ht hi hz kl kc n n (by omega) (by omega) (by rw [hb]; omega) (by omega)
    rw [hr, hs]
    simp only [Int.toNat_natCast]
    congr 3
    congr 1
    simp only [madeCells, Value.cells, ia, List.map_replicate]
    apply Array.ext
    · simp; omega
    · intro i h1 h2
      rcases Nat.mod_two_eq_zero_or_one i with h | h <;> simp [h]

/-- The writes of the first k words. -/
def pf (off : Int) (ys : List Int) (k : Nat) : List Int := (List.range k).flatMap fun (i : Nat) => [off + (i : Int) * 8, ys[i]?.getD 0]
theorem pf_succ (off : Int) (ys : List Int) (k : Nat) (h : k < ys.length) : pf off ys (k + 1) = pf off ys k ++ [off + (k : Int) * 8, ys[k]] := by
  simp [pf, List.range_succ, h]
theorem length_pf (off : Int) (ys : List Int) (k : Nat) : (pf off ys k).length = 2 * k := by
  induction k with
  | zero => rfl
  | succ k ih =>
    have : pf off ys (k + 1) = pf off ys k ++ [off + (k : Int) * 8, ys[k]?.getD 0] := by simp [pf, List.range_succ]
    rw [this, List.length_append, ih]; simp; omega
theorem pf_step (off : Int) (ys : List Int) (k n : Nat) (hk : k < n) (h : k < ys.length) :
    ((pf off ys k ++ List.replicate (2 * (n - k)) 0).set (k * 2) (off + (k : Int) * 8)).set (k * 2 + 1) ys[k] = pf off ys (k + 1) ++ List.replicate (2 * (n - (k + 1))) 0 := by
  have hl := length_pf off ys k
  rw [Nat.mul_comm k 2]
  rw [List.set_append_right _ _ (by omega), hl, Nat.sub_self, List.set_append_right _ _ (by omega), hl, show 2 * k + 1 - 2 * k = 1 from by omega, pf_succ off ys k h, show 2 * (n - k) = 2 * (n - (k + 1)) + 1 + 1 from by omega, List.replicate_succ, List.replicate_succ]
  simp

theorem info_writeP : (Tryz.prog.info? 48).map (fun i => (i.zero, i.size, i.bytes)) = some (some (.agg #[.int .u64 0, .int .u64 0]), 2, 16) := by kernel_rfl

/-- The writes of words at an offset. -/
def planW (off : Int) (ys : List Int) : List (Int × Int) := (List.range ys.length).map fun (i : Nat) => (off + (i : Int) * 8, ys[i]?.getD 0)
theorem ia_planW (off : Int) (ys : List Int) : (pf off ys ys.length).map (Value.int .u64) = wcells (planW off ys) := by
  unfold pf planW wcells
  rw [List.flatMap_map, List.map_flatMap]
  rfl

set_option maxRecDepth 100000 in
set_option maxHeartbeats 1000000 in
theorem planV_ok (w : World) (off : Nat) (f : Bool) (A : Option Addr) (ca m : Nat) (l : List ByteArray) (hm : l.length = m) (hA : RdV w A (strVals l)) (p : Option Addr) (o : Option Int) (hp : PtrI w p o) (ys : List Int) (hE : encV f l o = some ys) (ho : off % 8 = 0) (hb : off ≤ 1000000) :
    Calls Tryz.prog 7 #[.int .u64 (off : Int), .iface 99 codecV, .agg #[.bool f, .slice A m ca, .pointer p]] w fun e w' => ∃ g, e = .returned (.tuple #[.slice (some ⟨g, 0, none⟩) 10 10, .int .i64 0]) ∧ IB .u64 48 w' g (pf off ys 10) ∧ w.heap.size ≤ g ∧ Below w.heap.size w w' := by
  have h8 : ((off : Int) % 8 != 0) = false := by simp; omega
  have hmk := fun W => run_make_z (P := Tryz.prog) 27 34 .u64 .i64 .i64 10 10 rfl Tryz.underlying27 8 info_u64 (by omega) (by omega) W
  have hmp := fun W => run_make_pairs (P := Tryz.prog) 35 48 .u64 .i64 .i64 10 10 rfl Tryz.underlying35 info_writeP (by omega) W
  have hle : ¬ (18446744073709551535 : Int) < (off : Int) := by omega
  have HA := Lib.hid hA
  have HP := Lib.hid hp
  have HM := Lib.hid hm
  have HE := Lib.hid hE
  clear hA hp hm hE
  go_enter Tryz.func7, Tryz.ntmps7
  go_wp2_with (go_at_call 25; refine (sizeV_c _).mono ?_; rintro e w' ⟨rfl, hb⟩; obtain ⟨x, rfl⟩ := bx_of hb; clear hb)
  obtain ⟨X, hX⟩ : ∃ X, X = x.w.alloc (.cells (ia .u64 (List.replicate 10 0)) 34) := ⟨_, rfl⟩
  have hBX : Below w.heap.size w X := by rw [hX]; exact bl_alloc (bl_bx (bl_alloc (Below.refl _ _) _) x) _
  have hIX : IB .u64 34 X x.w.heap.size (List.replicate 10 0) := by rw [hX]; exact IB.new _ _
  refine (pairBEncode _ f A ca l m HM.out (by have := HA.out.below hBX; rw [hX] at this; exact this) p o (by have := HP.out.below hBX; rw [hX] at this; exact this) x.w.heap.size 0 10 (List.replicate 10 0) (by rw [hX] at hIX; exact hIX) (by simp)).mono ?_
  rw [HE.out]
  rintro e w1 ⟨rfl, hI1, hC1⟩
  have hlen : ys.length = 10 := by
    have := HE.out
    unfold encV at this
    cases hS : encSI l o with
    | none => rw [hS] at this; cases this
    | some zs =>
      rw [hS] at this
      injection this with this
      rw [← this, List.length_append, length_encSI hS, length_encF]
  have e1 : splice (List.replicate 10 0) 0 ys = ys := by simp [splice, hlen]
  rw [e1] at hI1
  have HL := Lib.hid hlen
  have HI1 := Lib.hid hI1
  have hg := hI1.lt
  have hB1 : Below w.heap.size w w1 := by
    have hC1' : Ch (At x.w.heap.size) X w1 := by rw [hX]; exact hC1
    exact bl_ch hBX hC1' (fun b hb => by unfold At at hb; have := x.size; simp at this; omega)
  have HB1 := Lib.hid hB1
  have hws : w.heap.size ≤ x.w.heap.size := by have := x.size; simp at this; omega
  clear hI1 hC1 e1 hlen hmk hBX hIX hX hB1
  go_wp2
  clear hmp
  go_loopw [41, 11, 12, 42, 43, 44, 45, 46, 47, 48, 49, 50, 51, 52, 53, 54, 55, 56] (fun i _ _ _ _ _ _ _ _ _ _ _ _ _ _ _ _ _ wr => ∃ k : Nat, k ≤ 10 ∧ i = .int .i64 k ∧ IB .u64 48 wr w1.heap.size (pf off ys k ++ List.replicate (2 * (10 - k)) 0) ∧ Below w1.heap.size w1 wr) (fun i _ _ _ _ _ _ _ _ _ _ _ _ _ _ _ _ _ _ => 10 - (intOf i).toNat)
  case atStart => exact ⟨0, Nat.zero_le _, rfl, IB.new w1 _, bl_alloc (Below.refl _ _) _⟩
  case round =>
    obtain ⟨k, hk, rfl, hI, hB⟩ := hrel
    have HI := Lib.hid hI
    have HB := Lib.hid hB
    by_cases hlt : k < 10
    · have hky : k < ys.length := by have := HL.out; omega
      have hc := (HI1.out.below hB hg).cell hky
      have hpl := length_pf off ys k
      have hf0 := hI.frozen (k * 2)
      have hf1 := hI.frozen (k * 2 + 1)
      obtain ⟨v0, hv0⟩ : ∃ v, wr.cell? ⟨w1.heap.size, k * 2, none⟩ = some (.int .u64 v) := ⟨_, hI.cell (i := k * 2) (by simp; omega)⟩
      obtain ⟨v1, hv1⟩ : ∃ v, wr.cell? ⟨w1.heap.size, k * 2 + 1, none⟩ = some (.int .u64 v) := ⟨_, hI.cell (i := k * 2 + 1) (by simp; omega)⟩
      clear hI hB hpl
      go_wp2
      have h6 := (HI.out.set (k * 2) ((off : Int) + (k : Int) * 8)).set (k * 2 + 1) ys[k]
      rw [pf_step off ys k 10 hlt hky] at h6
      have h7 := bl_set (bl_set HB.out (p := ⟨w1.heap.size, k * 2, none⟩) (Nat.le_refl _) (.int .u64 ((off : Int) + (k : Int) * 8))) (p := ⟨w1.heap.size, k * 2 + 1, none⟩) (Nat.le_refl _) (.int .u64 ys[k])
      go_roundw
      case rel => exact ⟨k + 1, by omega, by go_num, h6, h7⟩
      case measure => simp [intOf]; omega
    · obtain rfl : k = 10 := by omega
      go_wp2
      go_ret2
      exact ⟨_, rfl, by have h6 := HI.out; simpa using h6, HB1.out.size, HB1.out.trans (HB.out.mono HB1.out.size)⟩
end Go.Proofs.YtlbgmoijepknbaaGreat

namespace Go.Proofs.YtlbgmoijepknbaaGreat
open Go.RowKit
set_option linter.unusedVariables false

section
variable {S : DevS} {i : Nat}
theorem cnt_un (ho : S.off = false) (ha : S.armed = false) (b : Bool) : (S.cnt i b).off = false ∧ (S.cnt i b).armed = false ∧ ((S.cnt i b).thr i).err = (if b then (S.thr i).err else if (S.thr i).err = 0 then 2 else (S.thr i).err) := by
  cases b
  · have h : S.cnt i false = S.fail i 2 := by simp [DevS.cnt, DevS.onB, DevS.on, ho]
    rw [h]
    unfold DevS.fail DevS.setErr
    by_cases he : (S.thr i).err = 0
    · rw [if_pos he]; simp [ho, ha, he]
    · rw [if_neg he]; simp [ho, ha, he]
  · rw [(cnt_ok (S := S) (i := i) ho ha).2]
    exact ⟨ho, ha, rfl⟩
theorem cntB_un (ho : S.off = false) (ha : S.armed = false) (b : Bool) : S.cntB b = b := by simp [DevS.cntB, DevS.onB, ho, ha]
theorem exec1_un (ho : S.off = false) (ha : S.armed = false) (p : Ins) : (S.exec1 i p).off = false ∧ (S.exec1 i p).armed = false ∧ ((S.exec1 i p).thr i).err = (if validI S p then (S.thr i).err else if (S.thr i).err = 0 then 2 else (S.thr i).err) := by
  unfold validI DevS.exec1
  by_cases h1 : p.1 = 1
  · rw [if_pos h1, if_pos h1]
    unfold DevS.store
    rw [cntB_un ho ha]
    cases hb : S.wordB p.2.1
    · exact cnt_un (i := i) ho ha false
    · exact cnt_un (i := i) ho ha true
  · rw [if_neg h1, if_neg h1]
    by_cases h2 : p.1 = 2
    · rw [if_pos h2, if_pos h2]
      unfold DevS.flush
      rw [cntB_un ho ha]
      cases hb : S.inB p.2.1
      · exact cnt_un (i := i) ho ha false
      · have hc := cnt_un (i := i) ho ha true
        refine ⟨hc.1, hc.2.1, ?_⟩
        rw [← hc.2.2]
        simp [DevS.note]
    · rw [if_neg h2, if_neg h2]
      unfold DevS.fence
      rw [cntB_un ho ha, if_pos rfl]
      have hc := cnt_un (i := i) ho ha true
      refine ⟨hc.1, hc.2.1, ?_⟩
      rw [← hc.2.2]
      simp [DevS.clearN, DevS.upto]
theorem nl_exec1 (i : Nat) (S : DevS) (p : Ins) : (S.exec1 i p).lns.length = S.lns.length := by
  have hc : ∀ b, (S.cnt i b).lns = S.lns := by
    intro b
    unfold DevS.cnt
    split
    · exact (on_lns S i b).1
    · split
      · split
        · exact (fail_lns _ _ _).1
        · rfl
      · rfl
  unfold DevS.exec1 DevS.store DevS.flush DevS.fence
  split
  · split
    · simp [DevS.write, hc]
    · rw [hc]
  · split
    · split
      · simp [DevS.note, hc]
      · rw [hc]
    · split
      · simp [DevS.clearN, DevS.upto, hc]
      · rw [hc]
theorem validI_nl {S S' : DevS} (h : S'.lns.length = S.lns.length) (p : Ins) : validI S' p = validI S p := by
  unfold validI DevS.wordB DevS.inB; rw [h]
theorem runP_bad (i : Nat) : ∀ (ps : List Ins) {S : DevS}, S.off = false → S.armed = false → ((S.thr i).err = 2 ∨ ((S.thr i).err = 0 ∧ ∃ p ∈ ps, validI S p = false)) → ((S.runP i ps).thr i).err = 2 := by
  intro ps
  induction ps with
  | nil =>
    intro S ho ha h
    rcases h with h | ⟨_, p, hp, _⟩
    · exact h
    · cases hp
  | cons p ps ih =>
    intro S ho ha h
    obtain ⟨a, b, c⟩ := exec1_un (i := i) ho ha p
    show (((S.exec1 i p).runP i ps).thr i).err = 2
    refine ih a b ?_
    rw [c]
    rcases h with h | ⟨h, r, hr, hv⟩
    · left
      split
      · exact h
      · rw [if_neg (by rw [h]; decide)]; exact h
    · by_cases hp : validI S p = true
      · right
        rw [if_pos hp]
        refine ⟨h, r, ?_, by rw [validI_nl (nl_exec1 i S p)]; exact hv⟩
        rcases List.mem_cons.1 hr with h1 | h1
        · rw [h1] at hv; rw [hv] at hp; cases hp
        · exact h1
      · left
        rw [if_neg hp, if_pos h]
end
end Go.Proofs.YtlbgmoijepknbaaGreat

namespace Go.Proofs.YtlbgmoijepknbaaGreat
open Go.RowKit
set_option linter.unusedVariables false

set_option maxRecDepth 100000 in
set_option maxHeartbeats 2000000 in
/-- Image without a choice. -/
theorem devImage_nilz (w : World) (d : Nat) (L : Lay) (S : DevS) (h : Dev w d L S) (hf : Fits S.pers) (A : Option Addr) (cp : Nat) :
    Calls Tryz.prog 32 #[.pointer (some ⟨d, 0, none⟩), .slice A 0 cp] w (ImgPost w S) := by
  have d0 : w.cell? ⟨d, 0, none⟩ = some (.slice (some ⟨L.pb, 0, none⟩) S.pers.length L.pc) := h.dev.cell_some (i := 0) rfl
  have dl := h.lt
  have hn := h.nl
  have hp := h.np
  have HCL := Lib.hid (cloneU w L.pb 0 S.pers.length L.pc S.pers rfl (by omega) (by omega) h.pers.rdW)
  have HF := Lib.hid hf
  obtain ⟨n, hnn⟩ : ∃ n, S.pers.length = n := ⟨_, rfl⟩
  have HN := Lib.hid hnn
  have hn5 : n ≤ 32768 := by omega
  unfold ImgPost
  rw [hnn] at d0 HCL ⊢
  clear h hf hnn hp
  go_enter Tryz.func32, Tryz.ntmps32
  go_wp2_with (first
    | (go_at_call 37; refine HCL.out.mono ?_; rintro e w1 ⟨g, c, rfl, hS, hg, hb⟩; have HS := Lib.hid hS; have HB := Lib.hid hb; have HG := Lib.hid hg; clear hS hb hg)
    | (go_at_call 42; refine (bytesOfD w1 _ n c S.pers HN.out hn5 HF.out HS.out.rdW).mono ?_; rintro e w2 ⟨g2, rfl, hI2, hg2, hb2⟩; have HI2 := Lib.hid hI2; have HB2 := Lib.hid hb2; have HG2 := Lib.hid hg2; clear hI2 hb2 hg2))
  go_ret
  refine ⟨g2, fun _ => 0, rfl, fun _ _ _ => Nat.zero_le _, ?_, Nat.le_trans HB.out.size HG2.out, HB.out.trans (HB2.out.mono HB.out.size)⟩
  rw [upto_none0]; exact HI2.out
/-- What a crash leaves: a new device of as many lines, whose words are those of an image. -/
def CrZ (w : World) (S : DevS) (n : Nat) (r : Ending) (w' : World) : Prop :=
  ∃ d' t' K, r = .returned (.pointer (some ⟨d', 0, none⟩)) ∧ DV (fun b => w.heap.size ≤ b) d' t' w' (newS (S.upto K).pers n) ∧ (S.upto K).pers.length = 8 * n ∧ (∀ q l, S.lns[q]? = some l → K q ≤ l.hist.length) ∧ Below w.heap.size w w'
theorem crashZ {F : Nat → Prop} {d : Nat} {t : Nat → Nat} {w : World} {S : DevS} {N n : Nat} (h : DV F d t w S) (hG : Good S N) (hN : N < 1000000) (hFS : FitS S) (hn : S.lns.length = n) (h1 : 1 ≤ n) (h2 : n ≤ 4096)
    (A : Option Addr) (m cp : Nat) (cs : List Int) (hm : cs.length = m) (hm1 : m ≤ 9223372036854775807) (hR : Rd .u8 w A cs) (hcs : ∀ x ∈ cs, 0 ≤ x ∧ x < 256) :
    Calls Tryz.prog 13 #[.pointer (some ⟨d, 0, none⟩), .slice A m cp] w (CrZ w S n) := by
  obtain ⟨_, L, rfl, hD, hF⟩ := h
  have hf : ∀ K, (∀ q l, S.lns[q]? = some l → K q ≤ l.hist.length) → Fits (S.upto K).pers := fun K _ => (hFS.upto K).pers
  have hp : S.pers.length = 8 * n := by rw [hG.np, hn]
  refine (devCrash w d S n h1 h2 hp hf A m cp ?_).mono ?_
  · by_cases hm0 : m = 0
    · subst hm0
      exact devImage_nilz w d L S hD hFS.pers A cp
    · exact devImage_some w d L S N hD hG hN hf A m cp cs hm (by omega) hm1 hR hcs
  · rintro r w' ⟨d', L', K, rfl, hK, hD', hF', hB⟩
    exact ⟨d', L'.t, K, rfl, ⟨fun b hb => by have := hB.size; omega, L', rfl, hD', hF'⟩, by rw [(length_upto K).1]; exact hp, hK, hB⟩
end Go.Proofs.YtlbgmoijepknbaaGreat

namespace Go.Proofs.YtlbgmoijepknbaaGreat
open Go.RowKit
set_option linter.unusedVariables false

theorem thV {F : Nat → Prop} {d : Nat} {t : Nat → Nat} {w : World} {S : DevS} (h : DV F d t w S) (i : Nat) (hi : i < 8) : Calls Tryz.prog 12 #[.pointer (some ⟨d, 0, none⟩), .int .i64 (i : Int)] w fun e w' => e = .returned (.pointer (some ⟨t i, 0, none⟩)) ∧ w = w' := by
  obtain ⟨_, L, rfl, h3, _⟩ := h
  exact devThread w d L S h3 i hi
theorem zero_clean : Clean (newS (List.replicate 32 0) 4) 4 (List.replicate 32 0) 0 := by
  have hG : Good (newS (List.replicate 32 0) 4) 0 := by
    refine ⟨by simp [newS], by simp [newS], fun q l hl => ?_, fun i _ => ⟨Nat.le_refl _, fun x c h => by cases h⟩⟩
    simp only [newS, List.getElem?_replicate] at hl
    split at hl
    · injection hl with hl; subst hl; simp
    · cases hl
  refine ⟨hG, by simp [newS], rfl, rfl, rfl, rfl, fun q l hl => ?_, fun _ => rfl, fun _ _ => rfl⟩
  simp only [newS, List.getElem?_replicate] at hl
  split at hl
  · injection hl with hl; subst hl; rfl
  · cases hl
theorem zero_fits : FitS (newS (List.replicate 32 0) 4) := by
  refine ⟨?_, ?_⟩
  · intro x hx
    rw [(List.mem_replicate.1 hx).2]; exact ⟨Int.le_refl _, by decide⟩
  · intro q l hl
    rw [zero_clean.hist q l hl]
    intro p hp
    cases hp

theorem length_planW (off : Int) (ys : List Int) : (planW off ys).length = ys.length := by simp [planW]
theorem planW_get (off : Int) (ys : List Int) (i : Nat) (h : i < ys.length) : (planW off ys)[i]? = some (off + (i : Int) * 8, ys[i]) := by
  simp [planW, h]
theorem mem_planW {off : Int} {ys : List Int} {p : Int × Int} (h : p ∈ planW off ys) : ∃ i, ∃ h : i < ys.length, p = (off + (i : Int) * 8, ys[i]) := by
  obtain ⟨i, hi, rfl⟩ := List.getElem_of_mem h
  rw [length_planW] at hi
  refine ⟨i, hi, ?_⟩
  have := planW_get off ys i hi
  rw [List.getElem?_eq_getElem (by rw [length_planW]; exact hi)] at this
  injection this
theorem sl_plan {w : World} {g : Nat} {off : Int} {ys : List Int} {n : Nat} (h : IB .u64 48 w g (pf off ys n)) (hn : ys.length = n) (hm : n ≤ 1000) : Sl 48 2 w (some ⟨g, 0, none⟩) n n (wcells (planW off ys)) := by
  subst hn
  have hl := length_pf off ys ys.length
  have e := ia_planW off ys
  refine ⟨?_, .inr ⟨g, 0, ia .u64 (pf off ys ys.length), rfl, h, Nat.le_refl _, by unfold maxLen; omega, ?_, ?_⟩⟩
  · rw [← e, List.length_map, hl]; omega
  · simp [ia, hl]; omega
  · rw [← e]
    simp only [ia, List.drop_zero]
    rw [List.take_of_length_le (by simp [hl]; omega)]
theorem plan_sorted (k : Nat) (ys : List Int) : (starts (planW (8 * (k : Int)) ys)).Pairwise (· ≤ ·) := by
  unfold starts
  rw [List.pairwise_iff_getElem]
  intro i j hi hj hij
  simp only [List.getElem_map]
  have h1 : i < ys.length := by simpa [planW] using hi
  have h2 : j < ys.length := by simpa [planW] using hj
  simp only [planW, List.getElem_map, List.getElem_range]
  unfold startOf
  omega
theorem applyW_plan (k : Nat) (ys xs : List Int) (h : k + ys.length ≤ xs.length) : ∀ n, n ≤ ys.length → applyW xs ((planW (8 * (k : Int)) ys).take n) = splice xs k (ys.take n) := by
  intro n
  induction n with
  | zero => intro _; simp [applyW, splice]
  | succ n ih =>
    intro hn
    have hn' : n < (planW (8 * (k : Int)) ys).length := by rw [length_planW]; omega
    have e : (planW (8 * (k : Int)) ys)[n] = (8 * (k : Int) + (n : Int) * 8, ys[n]'(by omega)) := by
      have := planW_get (8 * (k : Int)) ys n (by omega)
      rw [List.getElem?_eq_getElem hn'] at this
      injection this
    rw [List.take_succ_eq_append_getElem hn', applyW_snoc, ih (by omega), e, List.take_succ_eq_append_getElem (show n < ys.length by omega)]
    have e2 : ((8 * (k : Int) + (n : Int) * 8) / 8).toNat = k + n := by omega
    simp only [e2]
    unfold splice
    have l1 : (xs.take k).length = k := by simp; omega
    have l2 : (ys.take n).length = n := by simp; omega
    rw [List.append_assoc, List.set_append_right _ _ (by omega), l1, show k + n - k = n by omega, List.set_append_right _ _ (by omega), l2, Nat.sub_self]
    simp only [List.length_append, List.length_singleton, l2]
    congr 2
    have hd : k + n < xs.length := by omega
    rw [List.drop_eq_getElem_cons hd, List.set_cons_zero, Nat.add_assoc]; rfl
/-- The record is in the words. -/
theorem read_plan (k : Nat) (ys xs : List Int) (h : k + ys.length ≤ xs.length) : ((applyW xs (planW (8 * (k : Int)) ys)).drop k).take ys.length = ys := by
  have := applyW_plan k ys xs h ys.length (Nat.le_refl _)
  rw [List.take_of_length_le (by rw [length_planW]; exact Nat.le_refl _), List.take_of_length_le (Nat.le_refl _)] at this
  rw [this]
  unfold splice
  have l1 : (xs.take k).length = k := by simp; omega
  rw [List.drop_left' l1, List.take_left' rfl]
theorem img_none {S : DevS} {K : Nat → Nat} (h : ∀ q, ((S.lns[q]?.map (·.hist)).getD []).take (K q) = []) : (S.upto K).pers = S.pers := by
  apply List.ext_getElem?
  intro j
  by_cases hj : j < S.pers.length
  · rw [upto_pers _ j hj, h (j / 8)]; rfl
  · rw [List.getElem?_eq_none (by rw [(length_upto _).1]; omega), List.getElem?_eq_none (by omega)]
theorem Clean.img {S : DevS} {n N : Nat} {xs : List Int} (h : Clean S n xs N) (K : Nat → Nat) : (S.upto K).pers = xs := by
  rw [img_none, h.pers]
  intro q
  cases hl : S.lns[q]? with
  | none => simp
  | some l => simp [h.hist q l hl]

theorem planW_ok (k : Nat) (ys : List Int) (hk : k + ys.length ≤ 32) : ∀ p ∈ planW (8 * (k : Int)) ys, ∃ j : Nat, p.1 = 8 * (j : Int) ∧ j < 8 * 4 := by
  intro p hp
  obtain ⟨i, hi, rfl⟩ := mem_planW hp
  exact ⟨k + i, by simp; omega, by omega⟩
theorem length_storesP (ys : List (Int × Int)) : (storesP ys).length ≤ 2 * ys.length + 1 := by
  have := cpt_le (starts ys)
  have h2 : (starts ys).length = ys.length := by simp [starts]
  simp [storesP, insSt, insFl]; omega
theorem storesP_ok (vs : List (Int × Int)) (hv : ∀ p ∈ vs, 0 ≤ p.1 ∧ p.1 < 1000000 ∧ 0 ≤ p.2 ∧ p.2 < 18446744073709551616) : ∀ q ∈ storesP vs, insB q = true ∧ 0 ≤ q.2.1 ∧ q.2.1 < 18446744073709551616 ∧ 0 ≤ q.2.2 ∧ q.2.2 < 18446744073709551616 := by
  intro q hq
  unfold storesP at hq
  rcases List.mem_append.1 hq with hq | hq
  · rcases List.mem_append.1 hq with hq | hq
    · obtain ⟨p, hp, rfl⟩ := List.mem_map.1 hq
      have := hv p hp
      exact ⟨rfl, this.1, by show p.1 < _; omega, this.2.2.1, this.2.2.2⟩
    · obtain ⟨a, ha, rfl⟩ := List.mem_map.1 hq
      rw [mem_cpt'] at ha
      obtain ⟨p, hp, rfl⟩ := List.mem_map.1 ha
      have := hv p hp
      refine ⟨rfl, ?_, ?_, by show (0 : Int) ≤ 0; omega, by show (0 : Int) < _; omega⟩
      · show 0 ≤ startOf p.1; unfold startOf; omega
      · show startOf p.1 < _; unfold startOf; omega
  · rw [List.mem_singleton.1 hq]; exact ⟨rfl, by show (0 : Int) ≤ 0; omega, by show (0 : Int) < _; omega, by show (0 : Int) ≤ 0; omega, by show (0 : Int) < _; omega⟩
theorem storesP_bad (S : DevS) (hn : S.lns.length = 4) (k : Nat) (ys : List Int) (hl : ys.length = 10) (hk : 22 < k) : ∃ p ∈ storesP (planW (8 * (k : Int)) ys), validI S p = false := by
  refine ⟨(1, 8 * (k : Int) + (9 : Int) * 8, ys[9]'(by omega)), ?_, ?_⟩
  · unfold storesP insSt
    refine List.mem_append_left _ (List.mem_append_left _ (List.mem_map.2 ⟨(8 * (k : Int) + ((9 : Nat) : Int) * 8, ys[9]'(by omega)), ?_, rfl⟩))
    exact List.mem_of_getElem? (planW_get _ ys 9 (by omega))
  · unfold validI
    simp only [if_true]
    unfold DevS.wordB
    rw [hn]
    simp; omega
theorem nl_runP (i : Nat) : ∀ (ps : List Ins) (S : DevS), (S.runP i ps).lns.length = S.lns.length := by
  intro ps
  induction ps with
  | nil => intro S; rfl
  | cons p ps ih => intro S; exact (ih (S.exec1 i p)).trans (nl_exec1 i S p)
end Go.Proofs.YtlbgmoijepknbaaGreat

namespace Go.Proofs.YtlbgmoijepknbaaGreat
open Go.RowKit
set_option linter.unusedVariables false

theorem cell_new_at {w : World} {v : Value} {e : TypeId} {g : Nat} (hg : g = w.heap.size) : (w.alloc (.cells #[v] e)).cell? ⟨g, 0, none⟩ = some v := by subst hg; simp
/-- The number of a record, if it has one. -/
def numO (has : Bool) (n : Int) : Option Int := if has then some n else none
def ValPost (w : World) (f : Bool) (l : List ByteArray) (o : Option Int) (e : Ending) (w' : World) : Prop :=
  Below w.heap.size w w' ∧ ∃ A' c' p, e = .returned (.agg #[.bool f, .slice A' l.length c', .pointer p]) ∧ RdV w' A' (strVals l) ∧ PtrI w' p o

set_option maxRecDepth 100000 in
set_option maxHeartbeats 4000000 in
theorem value11 (w : World) (f has : Bool) (A : Option Addr) (m c : Nat) (l : List ByteArray) (hm : l.length = m) (hA : RdV w A (strVals l)) (n : Int) (hm2 : m ≤ 1000000) :
    Calls Tryz.prog 9 #[.agg #[.bool f, .slice A m c, .bool has, .int .i64 n]] w (ValPost w f l (numO has n)) := by
  have HA := Lib.hid hA
  have HM := Lib.hid hm
  have HLk : Hid ((strVals l).length = m) := by show _ = _; rw [length_strVals, hm]
  clear hA hm
  cases has
  · obtain ⟨W, hW⟩ : ∃ W, W = ((((w.alloc (.cells #[.bool f, .slice A m c, .bool false, .int .i64 n] 24)).alloc (.cells #[.bool false, .slice none 0 0, .pointer none] 42)).alloc (.cells #[.bool f, .slice none 0 0, .pointer none] 42)).alloc (.cells #[] 9)) := ⟨_, rfl⟩
    have hO : OwnV 9 W (w.heap.size + 1 + 1 + 1) (some ⟨w.heap.size + 1 + 1 + 1, 0, none⟩) 0 [] := by
      have h1 := heap_alloc_new (((w.alloc (.cells #[.bool f, .slice A m c, .bool false, .int .i64 n] 24)).alloc (.cells #[.bool false, .slice none 0 0, .pointer none] 42)).alloc (.cells #[.bool f, .slice none 0 0, .pointer none] 42)) (.cells #[] 9)
      rw [← hW] at h1
      exact OwnV.room (cur := #[]) (by simpa using h1) (Nat.le_refl _) (by simp)
    have hRW : RdV W A (strVals l) := by rw [hW]; exact (((HA.out.alloc _).alloc _).alloc _).alloc _
    have hbW : w.heap.size + 1 + 1 + 1 ≤ W.heap.size := by rw [hW]; simp
    have HO := Lib.hid hO
    have HRW := Lib.hid hRW
    have HBW := Lib.hid hbW
    subst hW
    clear hO hRW hbW
    go_enter Tryz.func9, Tryz.ntmps9
    go_wp2_with (at_builtin; refine wpList_append_vals rfl (.tmp 8) (.tmp 10) 22 rfl 9 (.string ⟨#[]⟩) rfl 16 Tryz.underlying22 info_str (by omega) (w.heap.size + 1 + 1 + 1) (some ⟨w.heap.size + 1 + 1 + 1, 0, none⟩) 0 [] 0 A m c (strVals l) rfl rfl rfl HO.out HLk.out HRW.out (fun u hu => by unfold strVals at hu; obtain ⟨s, _, rfl⟩ := List.mem_map.1 hu; rfl) (by rw [HLk.out]; simp; omega) HBW.out ?_; intro A2 c2 w2 HO3 HC3 HW3; have hs2 : w.heap.size + 1 + 1 + 1 < w2.heap.size := (by have := HC3.out.size; simp at this; omega); have hs0 : w.heap.size < w2.heap.size := (by omega); have hs1 : w.heap.size + 1 < w2.heap.size := (by omega); have hs3 : w.heap.size + 1 + 1 < w2.heap.size := (by omega); have b02 : w2.cell? ⟨w.heap.size, 2, none⟩ = some (.bool false) := (by rw [HC3.out.cells _ _ (by first | (simp; done) | (simp; omega) | omega) (by simp [OwnB]; try omega)]; go_simp); have b03 : w2.cell? ⟨w.heap.size, 3, none⟩ = some (.int .i64 n) := (by rw [HC3.out.cells _ _ (by first | (simp; done) | (simp; omega) | omega) (by simp [OwnB]; try omega)]; go_simp); have b10 : w2.cell? ⟨w.heap.size + 1, 0, none⟩ = some (.bool false) := (by rw [HC3.out.cells _ _ (by first | (simp; done) | (simp; omega) | omega) (by simp [OwnB]; try omega)]; go_simp); have b11 : w2.cell? ⟨w.heap.size + 1, 1, none⟩ = some (.slice none 0 0) := (by rw [HC3.out.cells _ _ (by first | (simp; done) | (simp; omega) | omega) (by simp [OwnB]; try omega)]; go_simp); have b12 : w2.cell? ⟨w.heap.size + 1, 2, none⟩ = some (.pointer none) := (by rw [HC3.out.cells _ _ (by first | (simp; done) | (simp; omega) | omega) (by simp [OwnB]; try omega)]; go_simp); have b20 : w2.cell? ⟨w.heap.size + 1 + 1, 0, none⟩ = some (.bool f) := (by rw [HC3.out.cells _ _ (by first | (simp; done) | (simp; omega) | omega) (by simp [OwnB]; try omega)]; go_simp); have b21 : w2.cell? ⟨w.heap.size + 1 + 1, 1, none⟩ = some (.slice none 0 0) := (by rw [HC3.out.cells _ _ (by first | (simp; done) | (simp; omega) | omega) (by simp [OwnB]; try omega)]; go_simp); have b22 : w2.cell? ⟨w.heap.size + 1 + 1, 2, none⟩ = some (.pointer none) := (by rw [HC3.out.cells _ _ (by first | (simp; done) | (simp; omega) | omega) (by simp [OwnB]; try omega)]; go_simp); have f10 : w2.frozen? ⟨w.heap.size + 1, 0, none⟩ = false := (by rw [HC3.out.frozens _ _ (by first | (simp; done) | (simp; omega) | omega) (by simp [OwnB]; try omega)]; go_simp); have f11 : w2.frozen? ⟨w.heap.size + 1, 1, none⟩ = false := (by rw [HC3.out.frozens _ _ (by first | (simp; done) | (simp; omega) | omega) (by simp [OwnB]; try omega)]; go_simp); have f12 : w2.frozen? ⟨w.heap.size + 1, 2, none⟩ = false := (by rw [HC3.out.frozens _ _ (by first | (simp; done) | (simp; omega) | omega) (by simp [OwnB]; try omega)]; go_simp); have f21 : w2.frozen? ⟨w.heap.size + 1 + 1, 1, none⟩ = false := (by rw [HC3.out.frozens _ _ (by first | (simp; done) | (simp; omega) | omega) (by simp [OwnB]; try omega)]; go_simp); have f22 : w2.frozen? ⟨w.heap.size + 1 + 1, 2, none⟩ = false := (by rw [HC3.out.frozens _ _ (by first | (simp; done) | (simp; omega) | omega) (by simp [OwnB]; try omega)]; go_simp))
    have hA3 : ∀ b, OwnB A2 b → w.heap.size + 1 + 1 < b := fun b hb => by have := (HO3.out.lt hb).1; omega
    have hB2 : Below w.heap.size w w2 := bl_ch (bl_alloc (bl_alloc (bl_alloc (bl_alloc (Below.refl _ _) _) _) _) _) HC3.out (fun b hb => by simp [OwnB] at hb; omega)
    have hv : RdV w2 A2 (strVals l) := HO3.out.rd
    have hF := ((((((((hv).setCell (p := ⟨w.heap.size + 1 + 1, 1, none⟩) (fun b hb => by have := hA3 b hb; show b ≠ w.heap.size + 1 + 1; omega) (.slice A2 m c2))).setCell (p := ⟨w.heap.size + 1, 0, none⟩) (fun b hb => by have := hA3 b hb; show b ≠ w.heap.size + 1; omega) (.bool f))).setCell (p := ⟨w.heap.size + 1, 1, none⟩) (fun b hb => by have := hA3 b hb; show b ≠ w.heap.size + 1; omega) (.slice A2 m c2))).setCell (p := ⟨w.heap.size + 1, 2, none⟩) (fun b hb => by have := hA3 b hb; show b ≠ w.heap.size + 1; omega) (.pointer none))
    have hB := bl_set (bl_set (bl_set (bl_set (hB2) (p := ⟨w.heap.size + 1 + 1, 1, none⟩) (by show _ ≤ w.heap.size + 1 + 1; omega) (.slice A2 m c2)) (p := ⟨w.heap.size + 1, 0, none⟩) (by show _ ≤ w.heap.size + 1; omega) (.bool f)) (p := ⟨w.heap.size + 1, 1, none⟩) (by show _ ≤ w.heap.size + 1; omega) (.slice A2 m c2)) (p := ⟨w.heap.size + 1, 2, none⟩) (by show _ ≤ w.heap.size + 1; omega) (.pointer none)
    exact bodyPost_ret (v := .agg #[.bool f, .slice A2 m c2, .pointer none]) (by simp [results, Tryz.results9, go_sem, b10, b11, b12]) rfl ⟨hB, A2, c2, none, by rw [HM.out], hF, .inl ⟨rfl, rfl⟩⟩
  · obtain ⟨W, hW⟩ : ∃ W, W = ((((w.alloc (.cells #[.bool f, .slice A m c, .bool true, .int .i64 n] 24)).alloc (.cells #[.bool false, .slice none 0 0, .pointer none] 42)).alloc (.cells #[.bool f, .slice none 0 0, .pointer none] 42)).alloc (.cells #[] 9)) := ⟨_, rfl⟩
    have hO : OwnV 9 W (w.heap.size + 1 + 1 + 1) (some ⟨w.heap.size + 1 + 1 + 1, 0, none⟩) 0 [] := by
      have h1 := heap_alloc_new (((w.alloc (.cells #[.bool f, .slice A m c, .bool true, .int .i64 n] 24)).alloc (.cells #[.bool false, .slice none 0 0, .pointer none] 42)).alloc (.cells #[.bool f, .slice none 0 0, .pointer none] 42)) (.cells #[] 9)
      rw [← hW] at h1
      exact OwnV.room (cur := #[]) (by simpa using h1) (Nat.le_refl _) (by simp)
    have hRW : RdV W A (strVals l) := by rw [hW]; exact (((HA.out.alloc _).alloc _).alloc _).alloc _
    have hbW : w.heap.size + 1 + 1 + 1 ≤ W.heap.size := by rw [hW]; simp
    have HO := Lib.hid hO
    have HRW := Lib.hid hRW
    have HBW := Lib.hid hbW
    subst hW
    clear hO hRW hbW
    go_enter Tryz.func9, Tryz.ntmps9
    go_wp2_with (at_builtin; refine wpList_append_vals rfl (.tmp 8) (.tmp 10) 22 rfl 9 (.string ⟨#[]⟩) rfl 16 Tryz.underlying22 info_str (by omega) (w.heap.size + 1 + 1 + 1) (some ⟨w.heap.size + 1 + 1 + 1, 0, none⟩) 0 [] 0 A m c (strVals l) rfl rfl rfl HO.out HLk.out HRW.out (fun u hu => by unfold strVals at hu; obtain ⟨s, _, rfl⟩ := List.mem_map.1 hu; rfl) (by rw [HLk.out]; simp; omega) HBW.out ?_; intro A2 c2 w2 HO3 HC3 HW3; have hs2 : w.heap.size + 1 + 1 + 1 < w2.heap.size := (by have := HC3.out.size; simp at this; omega); have hs0 : w.heap.size < w2.heap.size := (by omega); have hs1 : w.heap.size + 1 < w2.heap.size := (by omega); have hs3 : w.heap.size + 1 + 1 < w2.heap.size := (by omega); have b02 : w2.cell? ⟨w.heap.size, 2, none⟩ = some (.bool true) := (by rw [HC3.out.cells _ _ (by first | (simp; done) | (simp; omega) | omega) (by simp [OwnB]; try omega)]; go_simp); have b03 : w2.cell? ⟨w.heap.size, 3, none⟩ = some (.int .i64 n) := (by rw [HC3.out.cells _ _ (by first | (simp; done) | (simp; omega) | omega) (by simp [OwnB]; try omega)]; go_simp); have b10 : w2.cell? ⟨w.heap.size + 1, 0, none⟩ = some (.bool false) := (by rw [HC3.out.cells _ _ (by first | (simp; done) | (simp; omega) | omega) (by simp [OwnB]; try omega)]; go_simp); have b11 : w2.cell? ⟨w.heap.size + 1, 1, none⟩ = some (.slice none 0 0) := (by rw [HC3.out.cells _ _ (by first | (simp; done) | (simp; omega) | omega) (by simp [OwnB]; try omega)]; go_simp); have b12 : w2.cell? ⟨w.heap.size + 1, 2, none⟩ = some (.pointer none) := (by rw [HC3.out.cells _ _ (by first | (simp; done) | (simp; omega) | omega) (by simp [OwnB]; try omega)]; go_simp); have b20 : w2.cell? ⟨w.heap.size + 1 + 1, 0, none⟩ = some (.bool f) := (by rw [HC3.out.cells _ _ (by first | (simp; done) | (simp; omega) | omega) (by simp [OwnB]; try omega)]; go_simp); have b21 : w2.cell? ⟨w.heap.size + 1 + 1, 1, none⟩ = some (.slice none 0 0) := (by rw [HC3.out.cells _ _ (by first | (simp; done) | (simp; omega) | omega) (by simp [OwnB]; try omega)]; go_simp); have b22 : w2.cell? ⟨w.heap.size + 1 + 1, 2, none⟩ = some (.pointer none) := (by rw [HC3.out.cells _ _ (by first | (simp; done) | (simp; omega) | omega) (by simp [OwnB]; try omega)]; go_simp); have f10 : w2.frozen? ⟨w.heap.size + 1, 0, none⟩ = false := (by rw [HC3.out.frozens _ _ (by first | (simp; done) | (simp; omega) | omega) (by simp [OwnB]; try omega)]; go_simp); have f11 : w2.frozen? ⟨w.heap.size + 1, 1, none⟩ = false := (by rw [HC3.out.frozens _ _ (by first | (simp; done) | (simp; omega) | omega) (by simp [OwnB]; try omega)]; go_simp); have f12 : w2.frozen? ⟨w.heap.size + 1, 2, none⟩ = false := (by rw [HC3.out.frozens _ _ (by first | (simp; done) | (simp; omega) | omega) (by simp [OwnB]; try omega)]; go_simp); have f21 : w2.frozen? ⟨w.heap.size + 1 + 1, 1, none⟩ = false := (by rw [HC3.out.frozens _ _ (by first | (simp; done) | (simp; omega) | omega) (by simp [OwnB]; try omega)]; go_simp); have f22 : w2.frozen? ⟨w.heap.size + 1 + 1, 2, none⟩ = false := (by rw [HC3.out.frozens _ _ (by first | (simp; done) | (simp; omega) | omega) (by simp [OwnB]; try omega)]; go_simp))
    have hA3 : ∀ b, OwnB A2 b → w.heap.size + 1 + 1 < b := fun b hb => by have := (HO3.out.lt hb).1; omega
    have hB2 : Below w.heap.size w w2 := bl_ch (bl_alloc (bl_alloc (bl_alloc (bl_alloc (Below.refl _ _) _) _) _) _) HC3.out (fun b hb => by simp [OwnB] at hb; omega)
    have hv : RdV w2 A2 (strVals l) := HO3.out.rd
    have hF := (((((((((((hv).setCell (p := ⟨w.heap.size + 1 + 1, 1, none⟩) (fun b hb => by have := hA3 b hb; show b ≠ w.heap.size + 1 + 1; omega) (.slice A2 m c2))).setCell (p := ⟨w.heap.size + 1 + 1, 2, none⟩) (fun b hb => by have := hA3 b hb; show b ≠ w.heap.size + 1 + 1; omega) (.pointer (some ⟨w2.heap.size, 0, none⟩)))).setCell (p := ⟨w.heap.size + 1, 0, none⟩) (fun b hb => by have := hA3 b hb; show b ≠ w.heap.size + 1; omega) (.bool f))).setCell (p := ⟨w.heap.size + 1, 1, none⟩) (fun b hb => by have := hA3 b hb; show b ≠ w.heap.size + 1; omega) (.slice A2 m c2))).setCell (p := ⟨w.heap.size + 1, 2, none⟩) (fun b hb => by have := hA3 b hb; show b ≠ w.heap.size + 1; omega) (.pointer (some ⟨w2.heap.size, 0, none⟩)))).alloc (.cells #[.int .i64 n] 2)
    have hB := bl_alloc (bl_set (bl_set (bl_set (bl_set (bl_set (hB2) (p := ⟨w.heap.size + 1 + 1, 1, none⟩) (by show _ ≤ w.heap.size + 1 + 1; omega) (.slice A2 m c2)) (p := ⟨w.heap.size + 1 + 1, 2, none⟩) (by show _ ≤ w.heap.size + 1 + 1; omega) (.pointer (some ⟨w2.heap.size, 0, none⟩))) (p := ⟨w.heap.size + 1, 0, none⟩) (by show _ ≤ w.heap.size + 1; omega) (.bool f)) (p := ⟨w.heap.size + 1, 1, none⟩) (by show _ ≤ w.heap.size + 1; omega) (.slice A2 m c2)) (p := ⟨w.heap.size + 1, 2, none⟩) (by show _ ≤ w.heap.size + 1; omega) (.pointer (some ⟨w2.heap.size, 0, none⟩))) (.cells #[.int .i64 n] 2)
    have hP : PtrI ((((((w2.setCell ⟨w.heap.size + 1 + 1, 1, none⟩ (.slice A2 m c2)).setCell ⟨w.heap.size + 1 + 1, 2, none⟩ (.pointer (some ⟨w2.heap.size, 0, none⟩))).setCell ⟨w.heap.size + 1, 0, none⟩ (.bool f)).setCell ⟨w.heap.size + 1, 1, none⟩ (.slice A2 m c2)).setCell ⟨w.heap.size + 1, 2, none⟩ (.pointer (some ⟨w2.heap.size, 0, none⟩))).alloc (.cells #[.int .i64 n] 2)) (some ⟨w2.heap.size, 0, none⟩) (numO true n) := .inr ⟨w2.heap.size, 0, n, rfl, rfl, (by simp), cell_new_at (by simp)⟩
    exact bodyPost_ret (v := .agg #[.bool f, .slice A2 m c2, .pointer (some ⟨w2.heap.size, 0, none⟩)]) (by simp [results, Tryz.results9, go_sem, b10, b11, b12, hs1]) rfl ⟨hB, A2, c2, some ⟨w2.heap.size, 0, none⟩, by rw [HM.out], hF, hP⟩
end Go.Proofs.YtlbgmoijepknbaaGreat

namespace Go.Proofs.YtlbgmoijepknbaaGreat
open Go.RowKit
set_option linter.unusedVariables false

set_option maxRecDepth 100000 in
set_option maxHeartbeats 4000000 in
theorem told11 (w : World) (f : Bool) (A : Option Addr) (m c : Nat) (p : Option Addr) (o : Option Int) (hp : PtrI w p o) :
    Calls Tryz.prog 16 #[.agg #[.bool f, .slice A m c, .pointer p]] w fun e w' => e = .returned (.agg #[.bool f, .slice A m c, .bool o.isSome, .int .i64 (o.getD 0)]) ∧ Below w.heap.size w w' := by
  rcases hp with ⟨rfl, rfl⟩ | ⟨b, off, n, rfl, rfl, hlt, hc⟩
  · go_enter Tryz.func16, Tryz.ntmps16
    go_wp2
    exact bodyPost_ret (v := .agg #[.bool f, .slice A m c, .bool false, .int .i64 0]) (by simp [results, Tryz.results16, go_sem]) rfl ⟨rfl, (by repeat (first | with_reducible exact Below.refl _ _ | with_reducible refine bl_alloc ?_ _ | with_reducible refine bl_drew ?_ | with_reducible refine bl_drewN ?_ _ | with_reducible refine bl_bx ?_ _ | with_reducible exact BX.below _ | with_reducible refine bl_set ?_ (by first | (exact Nat.le_refl _) | (simp; done) | (simp; omega)) _ | assumption))⟩
  · have h1 : ¬ b = w.heap.size := by omega
    have h2 : b < w.heap.size + 1 := by omega
    have h3 : b < w.heap.size + 1 + 1 := by omega
    have h4 : b < w.heap.size + 1 + 1 + 1 := by omega
    go_enter Tryz.func16, Tryz.ntmps16
    go_wp2
    go_region
    all_goals go_wp2
    all_goals exact bodyPost_ret (v := .agg #[.bool f, .slice A m c, .bool true, .int .i64 n]) (by simp [results, Tryz.results16, go_sem]) rfl ⟨rfl, (by repeat (first | with_reducible exact Below.refl _ _ | with_reducible refine bl_alloc ?_ _ | with_reducible refine bl_drew ?_ | with_reducible refine bl_drewN ?_ _ | with_reducible refine bl_bx ?_ _ | with_reducible exact BX.below _ | with_reducible refine bl_set ?_ (by first | (exact Nat.le_refl _) | (simp; done) | (simp; omega)) _ | assumption))⟩
end Go.Proofs.YtlbgmoijepknbaaGreat

namespace Go.Proofs.YtlbgmoijepknbaaGreat
open Go.RowKit
set_option linter.unusedVariables false

def recSame (f g : Bool) (l k : List ByteArray) (h i : Bool) (n m : Int) : Bool := f == g && h == i && n == m && l == k
set_option maxRecDepth 100000 in
set_option maxHeartbeats 4000000 in
theorem same11_yes (w : World) (f h : Bool) (n : Int) (A B : Option Addr) (m c d : Nat) (l : List ByteArray) (hl : l.length = m) (hA : RdV w A (strVals l)) (hB : RdV w B (strVals l)) (hm : m ≤ 1000000) :
    Calls Tryz.prog 15 #[.agg #[.bool f, .slice A m c, .bool h, .int .i64 n], .agg #[.bool f, .slice B m d, .bool h, .int .i64 n]] w fun e w' => e = .returned (.bool true) ∧ Below w.heap.size w w' := by
  have HA := Lib.hid hA
  have HB := Lib.hid hB
  have HL := Lib.hid hl
  clear hA hB hl
  have e1 : (f != f) = false := by simp
  have e2 : (h != h) = false := by simp
  have e3 : (n != n) = false := by simp
  have e4 : ((m : Int) != (m : Int)) = false := by simp
  go_enter Tryz.func15, Tryz.ntmps15
  go_wp2
  go_loopw [37, 4, 5, 38, 39, 40, 41, 42, 43, 44, 45, 46, 47, 48, 49, 50, 51] (fun i _ _ _ _ _ _ _ _ _ _ _ _ _ _ _ _ wr => ∃ k : Nat, k ≤ m ∧ i = .int .i64 k ∧ ∃ q, wr = ((w.alloc (.cells #[.bool f, .slice A m c, .bool h, .int .i64 n] 24)).alloc (.cells #[.bool f, .slice B m d, .bool h, .int .i64 n] 24)).drewN q) (fun i _ _ _ _ _ _ _ _ _ _ _ _ _ _ _ _ _ => m - (intOf i).toNat)
  case atStart => exact ⟨0, Nat.zero_le _, rfl, 0, rfl⟩
  case round =>
    obtain ⟨k, hk, rfl, q, rfl⟩ := hrel
    by_cases hlt : k < m
    · have hk' : k < (strVals l).length := by rw [length_strVals, HL.out]; exact hlt
      have hkl : k < l.length := by rw [HL.out]; exact hlt
      obtain ⟨b1, o1, rfl, hb1, hc1⟩ := HA.out.at_ hk'
      obtain ⟨b2, o2, rfl, hb2, hc2⟩ := HB.out.at_ hk'
      rw [get_strVals l k hkl] at hc1 hc2
      have n1 : ¬ b1 = w.heap.size := by omega
      have n2 : ¬ b2 = w.heap.size := by omega
      have n3 : b1 < w.heap.size + 1 := by omega
      have n4 : b2 < w.heap.size + 1 := by omega
      go_wp2
      go_quiet (fail)
      go_wp2
      go_roundw
      case rel => exact ⟨k + 1, by omega, by go_num, _, rfl⟩
      case measure => simp [intOf]; omega
    · go_wp2
      go_ret
      exact ⟨rfl, (by repeat (first | with_reducible exact Below.refl _ _ | with_reducible refine bl_alloc ?_ _ | with_reducible refine bl_drew ?_ | with_reducible refine bl_drewN ?_ _ | with_reducible refine bl_bx ?_ _ | with_reducible exact BX.below _ | with_reducible refine bl_set ?_ (by first | (exact Nat.le_refl _) | (simp; done) | (simp; omega)) _ | assumption))⟩
end Go.Proofs.YtlbgmoijepknbaaGreat

namespace Go.Proofs.YtlbgmoijepknbaaGreat
open Go.RowKit
set_option linter.unusedVariables false

/-- Word j of the bytes from number k on. -/
def hw (bs : List Int) (k j : Nat) : Int := leN (((bs.drop (8 * j)).take 8).drop (k - 8 * j))
theorem hw_zero (bs : List Int) (j : Nat) : hw bs 0 j = pkw bs j := by simp [hw, pkw]
theorem hw_top (bs : List Int) (j : Nat) : hw bs bs.length j = 0 := by
  unfold hw
  rw [List.drop_eq_nil_of_le (by simp; omega)]; rfl
theorem hw_step (bs : List Int) (k : Nat) (h : k < bs.length) : hw bs k (k / 8) = bs[k] + 256 * hw bs (k + 1) (k / 8) := by
  unfold hw
  have hl : k - 8 * (k / 8) < ((bs.drop (8 * (k / 8))).take 8).length := by simp; omega
  rw [List.drop_eq_getElem_cons hl, show k + 1 - 8 * (k / 8) = k - 8 * (k / 8) + 1 from by omega]
  simp only [leN]
  congr 1
  simp only [List.getElem_take, List.getElem_drop]
  congr 1
  omega
theorem hw_other (bs : List Int) (k j : Nat) (hj : j ≠ k / 8) : hw bs k j = hw bs (k + 1) j := by
  unfold hw
  rcases Nat.lt_or_ge j (k / 8) with h | h
  · rw [List.drop_eq_nil_of_le (by simp; omega), List.drop_eq_nil_of_le (by simp; omega)]
  · rw [show k - 8 * j = 0 from by omega, show k + 1 - 8 * j = 0 from by omega]
theorem hw_bound (bs : List Int) (k j : Nat) (h : ∀ b ∈ bs, 0 ≤ b ∧ b ≤ 255) : 0 ≤ hw bs k j ∧ hw bs k j < 2 ^ ((8 - (k - 8 * j)) * 8) := by
  have h1 := leN_bound (((bs.drop (8 * j)).take 8).drop (k - 8 * j)) (fun b hb => h b (List.mem_of_mem_drop (List.mem_of_mem_take (List.mem_of_mem_drop hb))))
  refine ⟨h1.1, Int.lt_of_lt_of_le h1.2 ?_⟩
  have h2 : (((bs.drop (8 * j)).take 8).drop (k - 8 * j)).length * 8 ≤ (8 - (k - 8 * j)) * 8 := by
    simp only [List.length_drop, List.length_take]; omega
  have h3 := Nat.pow_le_pow_right (n := 2) (by omega) h2
  exact_mod_cast h3
theorem nameEnc_eq (bs : List Int) (h : bs.length ≤ 16) : nameEnc bs = [(bs.length : Int), pkw bs 0, pkw bs 1] := by
  have h2 : (bs.length + 7) / 8 = 0 ∨ (bs.length + 7) / 8 = 1 ∨ (bs.length + 7) / 8 = 2 := by omega
  unfold nameEnc pks
  rcases h2 with h2 | h2 | h2 <;> rw [h2]
  · have e0 : pkw bs 0 = 0 := pkw_le bs 0 0 (by omega)
    have e1 : pkw bs 1 = 0 := pkw_le bs 0 1 (by omega)
    simp [e0, e1, List.replicate]
  · have e1 : pkw bs 1 = 0 := pkw_le bs 0 1 (by omega)
    simp [e1, List.range, List.range.loop]
  · simp [List.range, List.range.loop]

theorem pow_le_56 (e : Nat) (h : e ≤ 56) : (2 : Int) ^ e ≤ 72057594037927936 := by
  have h3 := Nat.pow_le_pow_right (n := 2) (by omega) h
  have h4 : (2 : Int) ^ e = ((2 ^ e : Nat) : Int) := by simp
  have h5 : 2 ^ 56 = 72057594037927936 := by decide
  rw [h4]; omega
theorem hw_set (s : ByteArray) (m : Nat) (hm : m < s.size) (h16 : s.size ≤ 16) (n H : Int) (hH : hw (bytesOf s) (m + 1) (m / 8) = H) (h0 : 0 ≤ H) (h1 : H < 72057594037927936) :
    [n, hw (bytesOf s) (m + 1) 0, hw (bytesOf s) (m + 1) 1].set (1 + m / 8) (IntKind.u64.wrap (256 * H + IntKind.u64.wrap (s[m].toNat : Int))) = [n, hw (bytesOf s) m 0, hw (bytesOf s) m 1] := by
  have hb : s[m].toNat < 256 := s[m].toNat_lt
  have e1 : IntKind.u64.wrap (s[m].toNat : Int) = (s[m].toNat : Int) := IntWalk.u64_in _ (by omega)
  have e2 : IntKind.u64.wrap (256 * H + (s[m].toNat : Int)) = 256 * H + (s[m].toNat : Int) := IntWalk.u64_in _ (by omega)
  have hlen : m < (bytesOf s).length := by rw [length_bytesOf]; exact hm
  have e3 : (bytesOf s)[m] = (s[m].toNat : Int) := by simp [bytesOf]; rfl
  have e4 := hw_step (bytesOf s) m hlen
  rw [e3, hH] at e4
  rw [e1, e2, Int.add_comm, ← e4]
  rcases Nat.lt_or_ge m 8 with h | h
  · have hj : m / 8 = 0 := by omega
    rw [hj, hw_other (bytesOf s) m 1 (by omega)]; rfl
  · have hj : m / 8 = 1 := by omega
    rw [hj, hw_other (bytesOf s) m 0 (by omega)]; rfl

set_option maxHeartbeats 400000 in
theorem refName_long (w : World) (s : ByteArray) (hs : 16 < s.size) :
    Calls Tryz.prog 23 #[.string s] w fun e w' => e = .returned (.tuple #[.slice none 0 0, .bool false]) ∧ Below w.heap.size w w' := by
  have hs' : (16 : Int) < (s.size : Int) := by omega
  go_enter Tryz.func23, Tryz.ntmps23
  go_wp2
  go_ret2
  exact ⟨rfl, (by repeat (first | with_reducible exact Below.refl _ _ | with_reducible refine bl_alloc ?_ _ | with_reducible refine bl_drew ?_ | with_reducible refine bl_drewN ?_ _ | with_reducible refine bl_bx ?_ _ | with_reducible exact BX.below _ | with_reducible refine bl_set ?_ (by first | (exact Nat.le_refl _) | (simp; done) | (simp; omega)) _ | assumption))⟩

set_option maxRecDepth 100000 in
set_option maxHeartbeats 1000000 in
theorem refName_ok (w : World) (s : ByteArray) (hs : s.size ≤ 16) :
    Calls Tryz.prog 23 #[.string s] w fun e w' => e = .returned (.tuple #[.slice (some ⟨w.heap.size, 0, none⟩) 3 3, .bool true]) ∧ IB .u64 34 w' w.heap.size (nameEnc (bytesOf s)) ∧ Below w.heap.size w w' := by
  have hs' : ¬ (16 : Int) < (s.size : Int) := by omega
  have HBo := Lib.hid (bytesOf_bound s)
  go_enter Tryz.func23, Tryz.ntmps23
  go_wp2
  go_loopw [5, 16, 17, 18, 19, 20, 21, 22, 23, 24, 25, 26, 27, 28, 29, 30, 31, 32, 33, 34, 35, 36] (fun i _ _ _ _ _ _ _ _ _ _ _ _ _ _ _ _ _ _ _ _ _ wr => ∃ k : Nat, k ≤ s.size ∧ (∃ z : Int, i = .int .i64 z ∧ z + 1 = (k : Int)) ∧ IB .u64 34 wr w.heap.size [(s.size : Int), hw (bytesOf s) k 0, hw (bytesOf s) k 1] ∧ Below w.heap.size w wr) (fun i _ _ _ _ _ _ _ _ _ _ _ _ _ _ _ _ _ _ _ _ _ _ => (intOf i + 1).toNat)
  case atStart =>
    refine ⟨s.size, Nat.le_refl _, ⟨_, rfl, by omega⟩, ?_, bl_alloc (Below.refl _ _) _⟩
    have h1 := hw_top (bytesOf s) 0
    have h2 := hw_top (bytesOf s) 1
    rw [length_bytesOf] at h1 h2
    rw [h1, h2]
    exact IB.new_at .u64 34 w w.heap.size [(s.size : Int), 0, 0] rfl
  case round =>
    obtain ⟨k, hk, ⟨z, rfl, hz⟩, hI, hB⟩ := hrel
    have HI := Lib.hid hI
    have HB := Lib.hid hB
    by_cases hlt : 0 < k
    · obtain ⟨m, rfl⟩ : ∃ m, k = m + 1 := ⟨k - 1, by omega⟩
      obtain rfl : z = (m : Int) := by omega
      have hm : m < s.size := by omega
      have hcell : wr.cell? ⟨w.heap.size, 1 + m / 8, none⟩ = some (.int .u64 (hw (bytesOf s) (m + 1) (m / 8))) := by
        rcases Nat.lt_or_ge m 8 with h | h
        · rw [show m / 8 = 0 from by omega]; exact hI.cell (i := 1) (by simp)
        · rw [show m / 8 = 1 from by omega]; exact hI.cell (i := 2) (by simp)
      have hfr := hI.frozen (1 + m / 8)
      obtain ⟨hb0, hb1⟩ := hw_bound (bytesOf s) (m + 1) (m / 8) HBo.out
      have hb2 : hw (bytesOf s) (m + 1) (m / 8) < 72057594037927936 := by
        refine Int.lt_of_lt_of_le hb1 ?_
        exact pow_le_56 _ (by omega)
      generalize hH : hw (bytesOf s) (m + 1) (m / 8) = H at *
      have HH := Lib.hid hH
      clear hI hB hz hH hb1
      go_wp2
      refine wp_region_still_n 16 (by kernel_rfl) (by kernel_rfl) ?_
      simp only [List.take_succ_cons, List.take_zero, List.drop_succ_cons, List.drop_zero]
      repeat (go_big_quiet_step (fail))
      refine wpQuiet_nil ?_
      rintro _ ⟨nq, rfl⟩
      go_wp2
      have h6 := (HI.out.drewN nq).set (1 + m / 8) (IntKind.u64.wrap (256 * H + IntKind.u64.wrap (s[m].toNat : Int)))
      rw [hw_set s m hm hs _ H HH.out hb0 hb2] at h6
      have h7 := bl_set (bl_drewN HB.out nq) (p := ⟨w.heap.size, 1 + m / 8, none⟩) (Nat.le_refl _) (.int .u64 (IntKind.u64.wrap (256 * H + IntKind.u64.wrap (s[m].toNat : Int))))
      go_roundw
      case rel => exact ⟨m, by omega, ⟨_, rfl, by omega⟩, h6, h7⟩
      case measure => simp [intOf]
    · obtain rfl : k = 0 := by omega
      obtain rfl : z = -1 := by omega
      clear hz
      go_wp2
      go_ret2
      have h6 := HI.out
      rw [hw_zero, hw_zero] at h6
      exact ⟨rfl, by rw [nameEnc_eq _ (by rw [length_bytesOf]; exact hs), length_bytesOf]; exact h6, HB.out⟩
end Go.Proofs.YtlbgmoijepknbaaGreat

namespace Go.Proofs.YtlbgmoijepknbaaGreat
open Go.RowKit
set_option linter.unusedVariables false

def RefEPost (w : World) (r : Option (List Int)) (e : Ending) (w' : World) : Prop :=
  Below w.heap.size w w' ∧ match r with
  | some ws => ∃ A' c', e = .returned (.tuple #[.slice A' 10 c', .bool true]) ∧ Rd .u64 w' A' ws ∧ ws.length = 10 ∧ (∀ b, OwnB A' b → w.heap.size ≤ b)
  | none => e = .returned (.tuple #[.slice none 0 0, .bool false])
theorem encV_eq (f : Bool) (l : List ByteArray) (o : Option Int) (hl : l.length ≤ 2) (hs : l.all (fun s => decide (s.size ≤ 16)) = true) :
    encV f l o = some (([if f then 1 else 0, (l.length : Int)] ++ namesW l) ++ List.replicate (6 - 3 * l.length) 0 ++ encO o) := by
  unfold encV encSI encS
  rw [if_neg (by rw [hs]; simp; omega)]
  simp [encF]
theorem encV_long (f : Bool) (l : List ByteArray) (o : Option Int) (h : 2 < l.length ∨ l.all (fun s => decide (s.size ≤ 16)) = false) : encV f l o = none := by
  unfold encV encSI encS
  rw [if_pos h]; rfl
def sliceLen : Value → Nat
  | .slice _ n _ => n
  | _ => 0

set_option maxRecDepth 100000 in
set_option maxHeartbeats 4000000 in
theorem refEncode11 (w : World) (f has : Bool) (n : Int) (A : Option Addr) (m c : Nat) (l : List ByteArray) (hl : l.length = m) (hA : RdV w A (strVals l)) (hm : m ≤ 1000000) :
    Calls Tryz.prog 5 #[.agg #[.bool f, .slice A m c, .bool has, .int .i64 n]] w (RefEPost w (encV f l (numO has n))) := by
  have HA := Lib.hid hA
  have HL := Lib.hid hl
  have hcm : IntKind.u64.wrap (m : Int) = (m : Int) := IntWalk.u64_in _ (by omega)
  clear hA hl
  by_cases h2 : 2 < m
  · have HE : Hid (encV f l (numO has n) = none) := by show _ = _; exact encV_long _ _ _ (.inl (by rw [HL.out]; exact h2))
    have h2' : (2 : Int) < (m : Int) := by omega
    cases f
    all_goals
      go_enter Tryz.func5, Tryz.ntmps5
      go_wp2
      go_ret2
      unfold RefEPost
      rw [HE.out]
      exact ⟨(by repeat (first | with_reducible exact Below.refl _ _ | with_reducible refine bl_alloc ?_ _ | with_reducible refine bl_drew ?_ | with_reducible refine bl_drewN ?_ _ | with_reducible refine bl_bx ?_ _ | with_reducible exact BX.below _ | with_reducible refine bl_set ?_ (by first | (exact Nat.le_refl _) | (simp; done) | (simp; omega)) _ | assumption)), rfl⟩
  · have h2' : ¬ (2 : Int) < (m : Int) := by omega
    cases f
    · have HE : Hid (l.all (fun s => decide (s.size ≤ 16)) = true → encV false l (numO has n) = some (([0, (m : Int)] ++ namesW l) ++ List.replicate (6 - 3 * m) 0 ++ encO (numO has n))) := by
        show _ → _
        intro h
        rw [encV_eq false l _ (by rw [HL.out]; omega) h, HL.out]; rfl
      have HN : Hid (l.all (fun s => decide (s.size ≤ 16)) = false → encV false l (numO has n) = none) := by
        show _ → _
        intro h
        exact encV_long _ _ _ (.inr h)
      go_enter Tryz.func5, Tryz.ntmps5
      go_wp2
      go_loopw [25, 4, 2, 3, 6, 7, 8, 26, 27, 28, 29, 30, 31, 32, 33, 34, 35, 36, 37, 38, 39] (fun i v _ _ _ _ _ _ _ _ _ _ _ _ _ _ _ _ _ _ _ wr => ∃ (k : Nat) (A' : Option Addr) (c' : Nat), k ≤ m ∧ i = .int .i64 k ∧ v = .slice A' (2 + 3 * k) c' ∧ (l.take k).all (fun s => decide (s.size ≤ 16)) = true ∧ OwnI .u64 34 wr (w.heap.size + 1) A' c' ([0, (m : Int)] ++ namesW (l.take k)) ∧ Below (w.alloc (.cells #[.bool false, .slice A m c, .bool has, .int .i64 n] 24)).heap.size (w.alloc (.cells #[.bool false, .slice A m c, .bool has, .int .i64 n] 24)) wr) (fun i _ _ _ _ _ _ _ _ _ _ _ _ _ _ _ _ _ _ _ _ _ => m - (intOf i).toNat)
      case atStart => exact ⟨0, _, _, Nat.zero_le _, rfl, rfl, rfl, by have := OwnI.of_ib (base := w.heap.size + 1) (IB.new_at .u64 34 (w.alloc (.cells #[.bool false, .slice A m c, .bool has, .int .i64 n] 24)) (w.heap.size + 1) [0, (m : Int)] (by simp)) (Nat.le_refl _) (by simp); exact this, bl_alloc (Below.refl _ _) _⟩
      case round =>
        obtain ⟨k, A', c', hk, rfl, rfl, hall, hO, hB⟩ := hrel
        obtain ⟨z, rfl⟩ := bx_of hB
        have HO := Lib.hid hO
        have HAll := Lib.hid hall
        have hzw : w.heap.size < z.w.heap.size := z.lt_size (by first | (simp; done) | (simp; omega) | omega)
        have hlenk : ([0, (m : Int)] ++ namesW (l.take k)).length = 2 + 3 * k := by
          rw [List.length_append, length_namesW _ hall, List.length_take, HL.out]; simp; omega
        have HLk := Lib.hid hlenk
        clear hO hB hall hlenk
        by_cases hlt : k < m
        · have hkl : k < l.length := by rw [HL.out]; exact hlt
          have hk' : k < (strVals l).length := by rw [length_strVals]; exact hkl
          obtain ⟨b1, o1, rfl, hb1, hc1⟩ := (HA.out.below (bl_bx (bl_alloc (Below.refl _ _) _) z)).at_ hk'
          rw [get_strVals l k hkl] at hc1
          by_cases hs : l[k].size ≤ 16
          · go_wp2_with fail
            refine (refName_ok _ _ hs).mono ?_
            rintro e w2 ⟨rfl, hI2, hb2⟩
            obtain ⟨y, rfl⟩ := bx_of hb2
            have HI2 := Lib.hid hI2
            have HO2 := Lib.hid (HO.out.bx y)
            have HBs : Hid (w.heap.size + 1 ≤ y.w.heap.size) := (by show _ ≤ _; have := y.size; omega)
            clear hb2 hI2
            go_wp2_with (at_builtin; refine wpList_append_ints rfl (.tmp 36) (.tmp 37) 27 rfl 34 .u64 8 Tryz.underlying27 info_u64 (by omega) (w.heap.size + 1) A' c' ([0, (m : Int)] ++ namesW (l.take k)) (2 + 3 * k) _ 3 3 (nameEnc (bytesOf l[k])) rfl rfl HLk.out HO2.out (length_nameEnc _ (by rw [length_bytesOf]; exact hs)) HI2.out.rd0 (by rw [HLk.out, length_nameEnc _ (by rw [length_bytesOf]; exact hs)]; omega) HBs.out ?_; intro A2 c2 w3 HO3 HC3 HW3)
            have h6 := HO3.out
            have e6 : [0, (m : Int)] ++ namesW (l.take k) ++ nameEnc (bytesOf l[k]) = [0, (m : Int)] ++ namesW (l.take (k + 1)) := by
              rw [List.take_succ_eq_append_getElem hkl]
              simp only [namesW, List.map_append, List.map_cons, List.map_nil, List.flatten_append, List.flatten_cons, List.flatten_nil, List.append_nil, List.append_assoc]
            rw [e6] at h6
            have h7 := bl_ch (bl_bx z.below y) HC3.out (fun b hb => by have := (HO.out.lt hb).1; simpa using this)
            go_roundw
            case rel => exact ⟨k + 1, A2, c2, by omega, by go_num, by rw [show 2 + 3 * (k + 1) = 2 + 3 * k + 3 by omega], all_take_succ _ l k hkl HAll.out (by simpa using hs), h6, h7⟩
            case measure => simp [intOf]; omega
          · go_wp2_with fail
            refine (refName_long _ _ (by omega)).mono ?_
            rintro e w2 ⟨rfl, hb2⟩
            obtain ⟨y, rfl⟩ := bx_of hb2
            clear hb2
            go_wp2
            go_ret2
            unfold RefEPost
            rw [HN.out (all_false _ l k hkl (by simpa using hs))]
            exact ⟨(by repeat (first | with_reducible exact Below.refl _ _ | with_reducible refine bl_alloc ?_ _ | with_reducible refine bl_drew ?_ | with_reducible refine bl_drewN ?_ _ | with_reducible refine bl_bx ?_ _ | with_reducible exact BX.below _ | with_reducible refine bl_set ?_ (by first | (exact Nat.le_refl _) | (simp; done) | (simp; omega)) _ | assumption)), rfl⟩
        · obtain rfl : k = m := by omega
          have hall := HAll.out
          rw [List.take_of_length_le (by rw [HL.out]; omega)] at hall HO HLk
          have HE2 := Lib.hid (HE.out hall)
          clear hall
          go_wp2
          go_loopw [4, 40, 41, 42, 43, 44, 45] (fun v _ _ _ _ _ _ wr => ∃ (j : Nat) (A' : Option Addr) (c' : Nat), 2 + 3 * k + j ≤ 8 ∧ v = .slice A' (2 + 3 * k + j) c' ∧ OwnI .u64 34 wr (w.heap.size + 1) A' c' (([0, (k : Int)] ++ namesW l) ++ List.replicate j 0) ∧ Below (w.alloc (.cells #[.bool false, .slice A k c, .bool has, .int .i64 n] 24)).heap.size (w.alloc (.cells #[.bool false, .slice A k c, .bool has, .int .i64 n] 24)) wr) (fun v _ _ _ _ _ _ _ => 8 - sliceLen v)
          case atStart => exact ⟨0, _, _, by omega, rfl, by simpa using HO.out, z.below⟩
          case round =>
            obtain ⟨j, A2, c2, hj, rfl, hO2, hB2⟩ := hrel
            obtain ⟨y, rfl⟩ := bx_of hB2
            have HO2 := Lib.hid hO2
            have hyw : w.heap.size < y.w.heap.size := y.lt_size (by first | (simp; done) | (simp; omega) | omega)
            have hlenj : (([0, (k : Int)] ++ namesW l) ++ List.replicate j 0).length = 2 + 3 * k + j := by rw [List.length_append, HLk.out, List.length_replicate]
            have HLj := Lib.hid hlenj
            have HBs : Hid (w.heap.size + 1 ≤ (y.w.alloc (.cells #[.int .u64 0] 34)).heap.size) := (by show _ ≤ _; simp; omega)
            clear hO2 hB2 hlenj
            by_cases hlt : 2 + 3 * k + j < 8
            · have hlt' : ((2 + 3 * k + j : Nat) : Int) < 8 := by omega
              go_wp2_with (at_builtin; refine wpList_append_ints rfl (.tmp 43) (.tmp 44) 27 rfl 34 .u64 8 Tryz.underlying27 info_u64 (by omega) (w.heap.size + 1) A2 c2 (([0, (k : Int)] ++ namesW l) ++ List.replicate j 0) (2 + 3 * k + j) _ _ _ [0] rfl rfl HLj.out (HO2.out.alloc _) rfl (rd_one _ _ _ _) (by rw [HLj.out]; simp; omega) HBs.out ?_; intro A3 c3 w3 HO3 HC3 HW3)
              have h6 := HO3.out
              rw [List.append_assoc, show List.replicate j (0 : Int) ++ [0] = List.replicate (j + 1) 0 from by rw [List.replicate_succ']] at h6
              have h7 := bl_ch (bl_alloc y.below _) HC3.out (fun b hb => by have := (HO2.out.lt hb).1; simpa using this)
              go_roundw
              case rel => exact ⟨j + 1, A3, c3, by omega, rfl, h6, h7⟩
              case measure => simp [sliceLen]; omega
            · have hlt' : ¬ ((2 + 3 * k + j : Nat) : Int) < 8 := by omega
              obtain rfl : j = 6 - 3 * k := by omega
              cases has
              · have HBs2 : Hid (w.heap.size + 1 ≤ (y.w.alloc (.cells #[.int .u64 0, .int .u64 0] 34)).heap.size) := (by show _ ≤ _; simp; omega)
                go_wp2_with (at_builtin; refine wpList_append_ints rfl (.tmp 54) (.tmp 55) 27 rfl 34 .u64 8 Tryz.underlying27 info_u64 (by omega) (w.heap.size + 1) A2 c2 (([0, (k : Int)] ++ namesW l) ++ List.replicate (6 - 3 * k) 0) (2 + 3 * k + (6 - 3 * k)) _ _ _ [0, 0] rfl rfl HLj.out (HO2.out.alloc _) rfl (rd_lit [0, 0] rfl) (by rw [HLj.out]; simp; omega) HBs2.out ?_; intro A3 c3 w3 HO3 HC3 HW3)
                have h6 := HO3.out
                have h7 := bl_ch (bl_alloc (bl_bx (bl_alloc (Below.refl _ _) _) y) _) HC3.out (fun b hb => by have := (HO2.out.lt hb).1; omega)
                go_ret2
                unfold RefEPost
                rw [HE2.out]
                exact ⟨h7, A3, c3, by rw [show 2 + 3 * k + (6 - 3 * k) + 2 = 10 by omega]; rfl, h6.rd, by simp only [List.length_append, HLj.out] at *; rw [length_encO]; omega, fun b hb => by have := (h6.lt hb).1; omega⟩
              · have HBs2 : Hid (w.heap.size + 1 ≤ (y.w.alloc (.cells #[.int .u64 1, .int .u64 (IntKind.u64.wrap n)] 34)).heap.size) := (by show _ ≤ _; simp; omega)
                go_wp2_with (at_builtin; refine wpList_append_ints rfl (.tmp 48) (.tmp 52) 27 rfl 34 .u64 8 Tryz.underlying27 info_u64 (by omega) (w.heap.size + 1) A2 c2 (([0, (k : Int)] ++ namesW l) ++ List.replicate (6 - 3 * k) 0) (2 + 3 * k + (6 - 3 * k)) _ _ _ [1, IntKind.u64.wrap n] rfl rfl HLj.out (HO2.out.alloc _) rfl (rd_lit [1, IntKind.u64.wrap n] rfl) (by rw [HLj.out]; simp; omega) HBs2.out ?_; intro A3 c3 w3 HO3 HC3 HW3)
                have h6 := HO3.out
                have h7 := bl_ch (bl_alloc (bl_bx (bl_alloc (Below.refl _ _) _) y) _) HC3.out (fun b hb => by have := (HO2.out.lt hb).1; omega)
                go_ret2
                unfold RefEPost
                rw [HE2.out]
                exact ⟨h7, A3, c3, by rw [show 2 + 3 * k + (6 - 3 * k) + 2 = 10 by omega]; rfl, h6.rd, by simp only [List.length_append, HLj.out] at *; rw [length_encO]; omega, fun b hb => by have := (h6.lt hb).1; omega⟩
    · have HE : Hid (l.all (fun s => decide (s.size ≤ 16)) = true → encV true l (numO has n) = some (([1, (m : Int)] ++ namesW l) ++ List.replicate (6 - 3 * m) 0 ++ encO (numO has n))) := by
        show _ → _
        intro h
        rw [encV_eq true l _ (by rw [HL.out]; omega) h, HL.out]; rfl
      have HN : Hid (l.all (fun s => decide (s.size ≤ 16)) = false → encV true l (numO has n) = none) := by
        show _ → _
        intro h
        exact encV_long _ _ _ (.inr h)
      go_enter Tryz.func5, Tryz.ntmps5
      go_wp2
      go_loopw [25, 4, 2, 3, 6, 7, 8, 26, 27, 28, 29, 30, 31, 32, 33, 34, 35, 36, 37, 38, 39] (fun i v _ _ _ _ _ _ _ _ _ _ _ _ _ _ _ _ _ _ _ wr => ∃ (k : Nat) (A' : Option Addr) (c' : Nat), k ≤ m ∧ i = .int .i64 k ∧ v = .slice A' (2 + 3 * k) c' ∧ (l.take k).all (fun s => decide (s.size ≤ 16)) = true ∧ OwnI .u64 34 wr (w.heap.size + 1) A' c' ([1, (m : Int)] ++ namesW (l.take k)) ∧ Below (w.alloc (.cells #[.bool true, .slice A m c, .bool has, .int .i64 n] 24)).heap.size (w.alloc (.cells #[.bool true, .slice A m c, .bool has, .int .i64 n] 24)) wr) (fun i _ _ _ _ _ _ _ _ _ _ _ _ _ _ _ _ _ _ _ _ _ => m - (intOf i).toNat)
      case atStart => exact ⟨0, _, _, Nat.zero_le _, rfl, rfl, rfl, by have := OwnI.of_ib (base := w.heap.size + 1) (IB.new_at .u64 34 (w.alloc (.cells #[.bool true, .slice A m c, .bool has, .int .i64 n] 24)) (w.heap.size + 1) [1, (m : Int)] (by simp)) (Nat.le_refl _) (by simp); exact this, bl_alloc (Below.refl _ _) _⟩
      case round =>
        obtain ⟨k, A', c', hk, rfl, rfl, hall, hO, hB⟩ := hrel
        obtain ⟨z, rfl⟩ := bx_of hB
        have HO := Lib.hid hO
        have HAll := Lib.hid hall
        have hzw : w.heap.size < z.w.heap.size := z.lt_size (by first | (simp; done) | (simp; omega) | omega)
        have hlenk : ([1, (m : Int)] ++ namesW (l.take k)).length = 2 + 3 * k := by
          rw [List.length_append, length_namesW _ hall, List.length_take, HL.out]; simp; omega
        have HLk := Lib.hid hlenk
        clear hO hB hall hlenk
        by_cases hlt : k < m
        · have hkl : k < l.length := by rw [HL.out]; exact hlt
          have hk' : k < (strVals l).length := by rw [length_strVals]; exact hkl
          obtain ⟨b1, o1, rfl, hb1, hc1⟩ := (HA.out.below (bl_bx (bl_alloc (Below.refl _ _) _) z)).at_ hk'
          rw [get_strVals l k hkl] at hc1
          by_cases hs : l[k].size ≤ 16
          · go_wp2_with fail
            refine (refName_ok _ _ hs).mono ?_
            rintro e w2 ⟨rfl, hI2, hb2⟩
            obtain ⟨y, rfl⟩ := bx_of hb2
            have HI2 := Lib.hid hI2
            have HO2 := Lib.hid (HO.out.bx y)
            have HBs : Hid (w.heap.size + 1 ≤ y.w.heap.size) := (by show _ ≤ _; have := y.size; omega)
            clear hb2 hI2
            go_wp2_with (at_builtin; refine wpList_append_ints rfl (.tmp 36) (.tmp 37) 27 rfl 34 .u64 8 Tryz.underlying27 info_u64 (by omega) (w.heap.size + 1) A' c' ([1, (m : Int)] ++ namesW (l.take k)) (2 + 3 * k) _ 3 3 (nameEnc (bytesOf l[k])) rfl rfl HLk.out HO2.out (length_nameEnc _ (by rw [length_bytesOf]; exact hs)) HI2.out.rd0 (by rw [HLk.out, length_nameEnc _ (by rw [length_bytesOf]; exact hs)]; omega) HBs.out ?_; intro A2 c2 w3 HO3 HC3 HW3)
            have h6 := HO3.out
            have e6 : [1, (m : Int)] ++ namesW (l.take k) ++ nameEnc (bytesOf l[k]) = [1, (m : Int)] ++ namesW (l.take (k + 1)) := by
              rw [List.take_succ_eq_append_getElem hkl]
              simp only [namesW, List.map_append, List.map_cons, List.map_nil, List.flatten_append, List.flatten_cons, List.flatten_nil, List.append_nil, List.append_assoc]
            rw [e6] at h6
            have h7 := bl_ch (bl_bx z.below y) HC3.out (fun b hb => by have := (HO.out.lt hb).1; simpa using this)
            go_roundw
            case rel => exact ⟨k + 1, A2, c2, by omega, by go_num, by rw [show 2 + 3 * (k + 1) = 2 + 3 * k + 3 by omega], all_take_succ _ l k hkl HAll.out (by simpa using hs), h6, h7⟩
            case measure => simp [intOf]; omega
          · go_wp2_with fail
            refine (refName_long _ _ (by omega)).mono ?_
            rintro e w2 ⟨rfl, hb2⟩
            obtain ⟨y, rfl⟩ := bx_of hb2
            clear hb2
            go_wp2
            go_ret2
            unfold RefEPost
            rw [HN.out (all_false _ l k hkl (by simpa using hs))]
            exact ⟨(by repeat (first | with_reducible exact Below.refl _ _ | with_reducible refine bl_alloc ?_ _ | with_reducible refine bl_drew ?_ | with_reducible refine bl_drewN ?_ _ | with_reducible refine bl_bx ?_ _ | with_reducible exact BX.below _ | with_reducible refine bl_set ?_ (by first | (exact Nat.le_refl _) | (simp; done) | (simp; omega)) _ | assumption)), rfl⟩
        · obtain rfl : k = m := by omega
          have hall := HAll.out
          rw [List.take_of_length_le (by rw [HL.out]; omega)] at hall HO HLk
          have HE2 := Lib.hid (HE.out hall)
          clear hall
          go_wp2
          go_loopw [4, 40, 41, 42, 43, 44, 45] (fun v _ _ _ _ _ _ wr => ∃ (j : Nat) (A' : Option Addr) (c' : Nat), 2 + 3 * k + j ≤ 8 ∧ v = .slice A' (2 + 3 * k + j) c' ∧ OwnI .u64 34 wr (w.heap.size + 1) A' c' (([1, (k : Int)] ++ namesW l) ++ List.replicate j 0) ∧ Below (w.alloc (.cells #[.bool true, .slice A k c, .bool has, .int .i64 n] 24)).heap.size (w.alloc (.cells #[.bool true, .slice A k c, .bool has, .int .i64 n] 24)) wr) (fun v _ _ _ _ _ _ _ => 8 - sliceLen v)
          case atStart => exact ⟨0, _, _, by omega, rfl, by simpa using HO.out, z.below⟩
          case round =>
            obtain ⟨j, A2, c2, hj, rfl, hO2, hB2⟩ := hrel
            obtain ⟨y, rfl⟩ := bx_of hB2
            have HO2 := Lib.hid hO2
            have hyw : w.heap.size < y.w.heap.size := y.lt_size (by first | (simp; done) | (simp; omega) | omega)
            have hlenj : (([1, (k : Int)] ++ namesW l) ++ List.replicate j 0).length = 2 + 3 * k + j := by rw [List.length_append, HLk.out, List.length_replicate]
            have HLj := Lib.hid hlenj
            have HBs : Hid (w.heap.size + 1 ≤ (y.w.alloc (.cells #[.int .u64 0] 34)).heap.size) := (by show _ ≤ _; simp; omega)
            clear hO2 hB2 hlenj
            by_cases hlt : 2 + 3 * k + j < 8
            · have hlt' : ((2 + 3 * k + j : Nat) : Int) < 8 := by omega
              go_wp2_with (at_builtin; refine wpList_append_ints rfl (.tmp 43) (.tmp 44) 27 rfl 34 .u64 8 Tryz.underlying27 info_u64 (by omega) (w.heap.size + 1) A2 c2 (([1, (k : Int)] ++ namesW l) ++ List.replicate j 0) (2 + 3 * k + j) _ _ _ [0] rfl rfl HLj.out (HO2.out.alloc _) rfl (rd_one _ _ _ _) (by rw [HLj.out]; simp; omega) HBs.out ?_; intro A3 c3 w3 HO3 HC3 HW3)
              have h6 := HO3.out
              rw [List.append_assoc, show List.replicate j (0 : Int) ++ [0] = List.replicate (j + 1) 0 from by rw [List.replicate_succ']] at h6
              have h7 := bl_ch (bl_alloc y.below _) HC3.out (fun b hb => by have := (HO2.out.lt hb).1; simpa using this)
              go_roundw
              case rel => exact ⟨j + 1, A3, c3, by omega, rfl, h6, h7⟩
              case measure => simp [sliceLen]; omega
            · have hlt' : ¬ ((2 + 3 * k + j : Nat) : Int) < 8 := by omega
              obtain rfl : j = 6 - 3 * k := by omega
              cases has
              · have HBs2 : Hid (w.heap.size + 1 ≤ (y.w.alloc (.cells #[.int .u64 0, .int .u64 0] 34)).heap.size) := (by show _ ≤ _; simp; omega)
                go_wp2_with (at_builtin; refine wpList_append_ints rfl (.tmp 54) (.tmp 55) 27 rfl 34 .u64 8 Tryz.underlying27 info_u64 (by omega) (w.heap.size + 1) A2 c2 (([1, (k : Int)] ++ namesW l) ++ List.replicate (6 - 3 * k) 0) (2 + 3 * k + (6 - 3 * k)) _ _ _ [0, 0] rfl rfl HLj.out (HO2.out.alloc _) rfl (rd_lit [0, 0] rfl) (by rw [HLj.out]; simp; omega) HBs2.out ?_; intro A3 c3 w3 HO3 HC3 HW3)
                have h6 := HO3.out
                have h7 := bl_ch (bl_alloc (bl_bx (bl_alloc (Below.refl _ _) _) y) _) HC3.out (fun b hb => by have := (HO2.out.lt hb).1; omega)
                go_ret2
                unfold RefEPost
                rw [HE2.out]
                exact ⟨h7, A3, c3, by rw [show 2 + 3 * k + (6 - 3 * k) + 2 = 10 by omega]; rfl, h6.rd, by simp only [List.length_append, HLj.out] at *; rw [length_encO]; omega, fun b hb => by have := (h6.lt hb).1; omega⟩
              · have HBs2 : Hid (w.heap.size + 1 ≤ (y.w.alloc (.cells #[.int .u64 1, .int .u64 (IntKind.u64.wrap n)] 34)).heap.size) := (by show _ ≤ _; simp; omega)
                go_wp2_with (at_builtin; refine wpList_append_ints rfl (.tmp 48) (.tmp 52) 27 rfl 34 .u64 8 Tryz.underlying27 info_u64 (by omega) (w.heap.size + 1) A2 c2 (([1, (k : Int)] ++ namesW l) ++ List.replicate (6 - 3 * k) 0) (2 + 3 * k + (6 - 3 * k)) _ _ _ [1, IntKind.u64.wrap n] rfl rfl HLj.out (HO2.out.alloc _) rfl (rd_lit [1, IntKind.u64.wrap n] rfl) (by rw [HLj.out]; simp; omega) HBs2.out ?_; intro A3 c3 w3 HO3 HC3 HW3)
                have h6 := HO3.out
                have h7 := bl_ch (bl_alloc (bl_bx (bl_alloc (Below.refl _ _) _) y) _) HC3.out (fun b hb => by have := (HO2.out.lt hb).1; omega)
                go_ret2
                unfold RefEPost
                rw [HE2.out]
                exact ⟨h7, A3, c3, by rw [show 2 + 3 * k + (6 - 3 * k) + 2 = 10 by omega]; rfl, h6.rd, by simp only [List.length_append, HLj.out] at *; rw [length_encO]; omega, fun b hb => by have := (h6.lt hb).1; omega⟩
end Go.Proofs.YtlbgmoijepknbaaGreat

namespace Go.Proofs.YtlbgmoijepknbaaGreat
open Go.RowKit
set_option linter.unusedVariables false
set_option linter.unusedSimpArgs false

def rst (x : Int) (k j : Nat) : Int := x / 2 ^ (min 8 (k - 8 * j) * 8)
theorem pow64 : (2 : Int) ^ (8 * 8) = 18446744073709551616 := by decide
theorem ite_two {α : Type} (A B : Prop) [Decidable A] [Decidable B] (C : Bool) (u : α) (h : C = true ↔ ¬ A ∧ ¬ B) :
    (if A then none else if B then none else some u) = if C = true then some u else none := by
  by_cases hA : A
  · rw [if_pos hA, if_neg (fun hc => (h.1 hc).1 hA)]
  · rw [if_neg hA]
    by_cases hB : B
    · rw [if_pos hB, if_neg (fun hc => (h.1 hc).2 hB)]
    · rw [if_neg hB, if_pos (h.2 ⟨hA, hB⟩)]
theorem nameDec_eq (n : Nat) (x1 x2 : Int) (hn : n ≤ 16) (h1 : 0 ≤ x1) (h2 : 0 ≤ x2) (u1 : x1 < 18446744073709551616) (u2 : x2 < 18446744073709551616) :
    nameDec (n : Int) x1 x2 = if (rst x1 n 0 == 0 && rst x2 n 1 == 0) = true then some (unpk [x1, x2] n) else none := by
  unfold nameDec
  rw [if_neg (by omega), Int.toNat_natCast]
  have hk : n = 0 ∨ (1 ≤ n ∧ n ≤ 7) ∨ n = 8 ∨ (9 ≤ n ∧ n ≤ 15) ∨ n = 16 := by omega
  have hU : unpk ([x1, x2].take ((n + 7) / 8)) n = unpk [x1, x2] n := by
    unfold unpk
    apply List.map_congr_left
    intro i hi
    have : i < n := List.mem_range.1 hi
    rw [List.getElem?_take, if_pos (by omega)]
  rw [hU]
  have d1 : x1 / 18446744073709551616 = 0 := Int.ediv_eq_zero_of_lt h1 u1
  have d2 : x2 / 18446744073709551616 = 0 := Int.ediv_eq_zero_of_lt h2 u2
  refine ite_two _ _ _ _ ?_
  rcases hk with rfl | ⟨a, b⟩ | rfl | ⟨a, b⟩ | rfl
  · simp [rst]
  · have e1 : (n + 7) / 8 = 1 := by omega
    have e2 : n % 8 = n := by omega
    have e3 : min 8 (n - 8 * 0) * 8 = n * 8 := by omega
    have e4 : min 8 (n - 8 * 1) * 8 = 0 := by omega
    have e5 : n ≠ 0 := by omega
    rw [e1, e2]
    unfold rst
    rw [e3, e4]
    simp [e5]
  · simp [rst, d1]
  · have e1 : (n + 7) / 8 = 2 := by omega
    have e2 : n % 8 = n - 8 := by omega
    have e3 : min 8 (n - 8 * 0) * 8 = 8 * 8 := by omega
    have e4 : min 8 (n - 8 * 1) * 8 = (n - 8) * 8 := by omega
    have e5 : n - 8 ≠ 0 := by omega
    rw [e1, e2]
    unfold rst
    rw [e3, e4, pow64, d1]
    simp [e5]
  · simp [rst, d1, d2]
theorem pow8 (i : Nat) : (2 : Int) ^ ((i + 1) * 8) = 256 * 2 ^ (i * 8) := by
  rw [show (i + 1) * 8 = 8 + i * 8 by omega, Int.pow_add]; rfl
theorem pow8_pos (i : Nat) : 0 < (2 : Int) ^ (i * 8) := Int.pow_pos (by omega)
theorem leN_digit (bs : List Int) (h : ∀ b ∈ bs, 0 ≤ b ∧ b ≤ 255) (i : Nat) (hi : i < bs.length) : leN bs / 2 ^ (i * 8) % 256 = bs[i] := by
  induction bs generalizing i with
  | nil => simp at hi
  | cons b r ih =>
    have hb := h b (by simp)
    cases i with
    | zero => simp [leN]; omega
    | succ i =>
      rw [leN, pow8, ← Int.ediv_ediv_of_nonneg (by omega), show (b + 256 * leN r) / 256 = leN r by omega]
      simpa using ih (fun c hc => h c (by simp [hc])) i (by simpa using hi)
theorem emod_mul256 (x m : Int) (hm : 0 < m) : x % (256 * m) = x % 256 + 256 * (x / 256 % m) := by
  have h1 : x = 256 * (x / 256) + x % 256 := (Int.mul_ediv_add_emod x 256).symm
  have h2 : x / 256 = m * (x / 256 / m) + x / 256 % m := (Int.mul_ediv_add_emod _ m).symm
  have h3 := Int.emod_nonneg (x / 256) (Int.ne_of_gt hm)
  have h4 := Int.emod_lt_of_pos (x / 256) hm
  have h5 : x = (x % 256 + 256 * (x / 256 % m)) + 256 * m * (x / 256 / m) := by
    rw [Int.mul_assoc]; omega
  rw [h5, Int.add_mul_emod_self_left]
  rw [← h5]
  apply Int.emod_eq_of_lt
  · omega
  · omega
theorem leN_digits (x : Int) (k : Nat) : leN ((List.range k).map fun i => x / 2 ^ (i * 8) % 256) = x % 2 ^ (k * 8) := by
  induction k generalizing x with
  | zero => simp [leN]
  | succ k ih =>
    rw [List.range_succ_eq_map, List.map_cons, List.map_map, leN]
    have e : ((fun i => x / 2 ^ (i * 8) % 256) ∘ Nat.succ) = fun i : Nat => (x / 256) / 2 ^ (i * 8) % 256 := by
      funext i
      simp only [Function.comp, Nat.succ_eq_add_one]
      rw [pow8, Int.ediv_ediv_of_nonneg (by omega)]
    rw [e, ih, pow8, emod_mul256 _ _ (pow8_pos k)]
    simp

theorem part_bound (bs : List Int) (h : ∀ b ∈ bs, 0 ≤ b ∧ b ≤ 255) (j : Nat) : 0 ≤ pkw bs j ∧ pkw bs j < 2 ^ (min 8 (bs.length - 8 * j) * 8) := by
  unfold pkw
  have h1 := leN_bound ((bs.drop (8 * j)).take 8) (fun b hb => h b (List.mem_of_mem_drop (List.mem_of_mem_take hb)))
  rwa [List.length_take, List.length_drop] at h1
theorem pow_le64 (k : Nat) (h : k ≤ 8) : (2 : Int) ^ (k * 8) ≤ 18446744073709551616 := by
  have : k = 0 ∨ k = 1 ∨ k = 2 ∨ k = 3 ∨ k = 4 ∨ k = 5 ∨ k = 6 ∨ k = 7 ∨ k = 8 := by omega
  rcases this with rfl | rfl | rfl | rfl | rfl | rfl | rfl | rfl | rfl <;> decide

theorem unpk_get (ws : List Int) (n i : Nat) (h : i < (unpk ws n).length) : (unpk ws n)[i] = (ws[i / 8]?.getD 0) / 2 ^ (i % 8 * 8) % 256 := by simp [unpk]

theorem name_back (s : ByteArray) (hs : s.size ≤ 16) : nameDec (s.size : Int) (pkw (bytesOf s) 0) (pkw (bytesOf s) 1) = some (bytesOf s) := by
  have hb := bytesOf_bound s
  have hl := length_bytesOf s
  obtain ⟨a0, b0⟩ := part_bound (bytesOf s) hb 0
  obtain ⟨a1, b1⟩ := part_bound (bytesOf s) hb 1
  rw [hl] at b0 b1
  have u0 := Int.lt_of_lt_of_le b0 (pow_le64 _ (Nat.min_le_left _ _))
  have u1 := Int.lt_of_lt_of_le b1 (pow_le64 _ (Nat.min_le_left _ _))
  rw [nameDec_eq s.size _ _ hs a0 a1 u0 u1]
  have r0 : rst (pkw (bytesOf s) 0) s.size 0 = 0 := Int.ediv_eq_zero_of_lt a0 b0
  have r1 : rst (pkw (bytesOf s) 1) s.size 1 = 0 := Int.ediv_eq_zero_of_lt a1 b1
  rw [r0, r1, if_pos (by decide)]
  congr 1
  apply List.ext_getElem
  · rw [length_unpk, hl]
  · intro i h1 h2
    rw [unpk_get]
    rw [length_unpk] at h1
    have hi : i < (bytesOf s).length := by omega
    rcases Nat.lt_or_ge i 8 with h8 | h8
    · rw [show i / 8 = 0 by omega, show i % 8 = i by omega]
      have := leN_digit (((bytesOf s).drop (8 * 0)).take 8) (fun b hb' => hb b (List.mem_of_mem_drop (List.mem_of_mem_take hb'))) i (by simp; omega)
      simp only [List.getElem?_cons_zero, Option.getD_some]
      unfold pkw
      rw [this]
      simp
    · rw [show i / 8 = 1 by omega, show i % 8 = i - 8 by omega]
      have := leN_digit (((bytesOf s).drop (8 * 1)).take 8) (fun b hb' => hb b (List.mem_of_mem_drop (List.mem_of_mem_take hb'))) (i - 8) (by simp; omega)
      simp only [List.getElem?_cons_succ, List.getElem?_cons_zero, Option.getD_some]
      unfold pkw
      rw [this]
      simp only [List.getElem_take, List.getElem_drop]
      congr 1
      omega
theorem u64_back (x : Int) (h : 0 ≤ x) (h' : x < 18446744073709551616) : IntKind.u64.wrap (wrap64 x) = x := by
  unfold wrap64; rw [IntKind.wrap_u64]; omega
theorem i64_back (x : Int) (h : -9223372036854775808 ≤ x) (h' : x < 9223372036854775808) : wrap64 (IntKind.u64.wrap x) = x := by
  unfold wrap64; rw [IntKind.wrap_u64]; omega

theorem nameAt_of (D : List Int) (k : Nat) (s : ByteArray) (hs : s.size ≤ 16) (h0 : D[1 + 3 * k]?.getD 0 = (s.size : Int)) (h1 : D[2 + 3 * k]?.getD 0 = pkw (bytesOf s) 0) (h2 : D[3 + 3 * k]?.getD 0 = pkw (bytesOf s) 1) :
    nameAt D k = some (bytesOf s) := by
  unfold nameAt
  rw [h0, h1, h2]
  exact name_back s hs
theorem nameEnc_str (s : ByteArray) (hs : s.size ≤ 16) : nameEnc (bytesOf s) = [(s.size : Int), pkw (bytesOf s) 0, pkw (bytesOf s) 1] := by
  rw [nameEnc_eq _ (by rw [length_bytesOf]; exact hs), length_bytesOf]

/-- The names of words that encS made. -/
theorem decS_encS (l : List ByteArray) (D : List Int) (h : encS l = some D) : decS D = some l := by
  unfold encS at h
  split at h
  · cases h
  · rename_i hn
    injection h with h
    have h1 : l.all (fun s => decide (s.size ≤ 16)) = true := by
      cases hh : l.all (fun s => decide (s.size ≤ 16))
      · exact absurd (.inr hh) hn
      · rfl
    have h2 : l.length ≤ 2 := by
      rcases Nat.lt_or_ge 2 l.length with h | h
      · exact absurd (.inl h) hn
      · exact h
    match l, h2 with
    | [], _ =>
      subst h
      rfl
    | [s], _ =>
      have hs : s.size ≤ 16 := by simpa using h1
      have e : D = [1, (s.size : Int), pkw (bytesOf s) 0, pkw (bytesOf s) 1, 0, 0, 0] := by
        rw [← h]
        simp only [namesW, List.map_cons, List.map_nil, List.flatten_cons, List.flatten_nil, List.append_nil, nameEnc_str s hs]
        rfl
      have hA := nameAt_of D 0 s hs (by rw [e]; rfl) (by rw [e]; rfl) (by rw [e]; rfl)
      unfold decS
      rw [show word0 D = 1 by rw [e]; rfl, if_neg (by omega), show (D.drop (1 + 3 * (1 : Int).toNat)).all (· == 0) = true by rw [e]; rfl, if_neg (by simp)]
      show namesDec D 1 = _
      rw [namesDec, hA]
      show some ([] ++ [strOf (bytesOf s)]) = _
      rw [strOf_bytesOf]; rfl
    | [s, t], _ =>
      have hs : s.size ≤ 16 := by simp at h1; exact h1.1
      have ht : t.size ≤ 16 := by simp at h1; exact h1.2
      have e : D = [2, (s.size : Int), pkw (bytesOf s) 0, pkw (bytesOf s) 1, (t.size : Int), pkw (bytesOf t) 0, pkw (bytesOf t) 1] := by
        rw [← h]
        simp only [namesW, List.map_cons, List.map_nil, List.flatten_cons, List.flatten_nil, List.append_nil, nameEnc_str s hs, nameEnc_str t ht]
        rfl
      have hA := nameAt_of D 0 s hs (by rw [e]; rfl) (by rw [e]; rfl) (by rw [e]; rfl)
      have hB := nameAt_of D 1 t ht (by rw [e]; rfl) (by rw [e]; rfl) (by rw [e]; rfl)
      unfold decS
      rw [show word0 D = 2 by rw [e]; rfl, if_neg (by omega), show (D.drop (1 + 3 * (2 : Int).toNat)).all (· == 0) = true by rw [e]; rfl, if_neg (by simp)]
      show namesDec D 2 = _
      rw [namesDec, namesDec, hA, hB]
      show some (([] ++ [strOf (bytesOf s)]) ++ [strOf (bytesOf t)]) = _
      rw [strOf_bytesOf, strOf_bytesOf]; rfl

theorem decV_encV (f : Bool) (l : List ByteArray) (o : Option Int) (ho : ∀ n, o = some n → -9223372036854775808 ≤ n ∧ n < 9223372036854775808) (es : List Int) (h : encV f l o = some es) : decV es = some (f, l, o) ∧ es.length = 10 := by
  unfold encV encSI at h
  cases hS : encS l with
  | none => rw [hS] at h; cases h
  | some D =>
    rw [hS] at h
    injection h with h
    have hl := length_encS hS
    have hd := decS_encS l D hS
    have e1 : es.drop 1 = D ++ encO o := by rw [← h]; rfl
    have e2 : (D ++ encO o).take 7 = D := by rw [List.take_append_of_le_length (by omega), List.take_of_length_le (by omega)]
    have e3 : word0 es = if f then 1 else 0 := by rw [← h]; rfl
    have e4 : (D ++ encO o)[7]?.getD 0 = (encO o)[0]?.getD 0 := by rw [List.getElem?_append_right (by omega), hl]
    have e5 : (D ++ encO o)[8]?.getD 0 = (encO o)[1]?.getD 0 := by rw [List.getElem?_append_right (by omega), hl]
    have hO : decO ((encO o)[0]?.getD 0) ((encO o)[1]?.getD 0) = some o := by
      cases o with
      | none => rfl
      | some n =>
        show decO 1 (IntKind.u64.wrap n) = _
        unfold decO
        rw [if_neg (by omega), if_neg (by omega), i64_back n (ho n rfl).1 (ho n rfl).2]
    refine ⟨?_, ?_⟩
    · unfold decV decSI
      rw [e1, e2, e3, e4, e5, hd, hO, if_neg (by cases f <;> simp)]
      cases f <;> rfl
    · rw [← h]
      simp only [Function.comp, List.length_append, length_encF, length_encO, hl]
theorem U64s.nil : U64s [] := fun x hx => by cases hx
theorem U64s.cons {a : Int} {l : List Int} (h : 0 ≤ a ∧ a < 18446744073709551616) (hl : U64s l) : U64s (a :: l) := fun x hx => by
  rcases List.mem_cons.1 hx with rfl | hx
  · exact h
  · exact hl x hx
theorem U64s.append {k l : List Int} (hk : U64s k) (hl : U64s l) : U64s (k ++ l) := fun x hx => by
  rcases List.mem_append.1 hx with hx | hx
  · exact hk x hx
  · exact hl x hx
theorem U64s.set {l : List Int} (hl : U64s l) (i : Nat) {v : Int} (h : 0 ≤ v ∧ v < 18446744073709551616) : U64s (l.set i v) := fun x hx => by
  rcases List.mem_or_eq_of_mem_set hx with hx | rfl
  · exact hl x hx
  · exact h
theorem encF_u64 (f : Bool) : U64s (encF f) := by
  cases f
  · exact .cons (by omega) .nil
  · exact .cons (by omega) .nil
theorem pkw_u64 (s : ByteArray) (j : Nat) : 0 ≤ pkw (bytesOf s) j ∧ pkw (bytesOf s) j < 18446744073709551616 := by
  obtain ⟨a, b⟩ := part_bound (bytesOf s) (bytesOf_bound s) j
  exact ⟨a, Int.lt_of_lt_of_le b (pow_le64 _ (Nat.min_le_left _ _))⟩
theorem namesW_u64 (l : List ByteArray) (h : l.all (fun s => decide (s.size ≤ 16)) = true) : U64s (namesW l) := by
  induction l with
  | nil => exact .nil
  | cons s l ih =>
    simp only [List.all_cons, Bool.and_eq_true, decide_eq_true_eq] at h
    unfold namesW
    rw [List.map_cons, List.flatten_cons, nameEnc_str s h.1]
    exact .append (.cons (by omega) (.cons (pkw_u64 s 0) (.cons (pkw_u64 s 1) .nil))) (ih h.2)
theorem encV_u64 (f : Bool) (l : List ByteArray) (o : Option Int) (es : List Int) (h : encV f l o = some es) : U64s es := by
  unfold encV encSI encS at h
  split at h
  · cases h
  · rename_i hn
    have h1 : l.all (fun s => decide (s.size ≤ 16)) = true := by
      cases hh : l.all (fun s => decide (s.size ≤ 16))
      · exact absurd (.inr hh) hn
      · rfl
    have h2 : ¬ 2 < l.length := fun h => hn (.inl h)
    injection h with h
    rw [← h]
    refine .append (encF_u64 f) (.append (.cons (by omega) (.append (namesW_u64 l h1) ?_)) ?_)
    · intro x hx
      rw [List.mem_replicate] at hx
      omega
    · cases o with
      | none => exact .cons (by omega) (.cons (by omega) .nil)
      | some n =>
        refine .cons (by omega) (.cons ?_ .nil)
        rw [IntKind.wrap_u64]; omega
end Go.Proofs.YtlbgmoijepknbaaGreat
