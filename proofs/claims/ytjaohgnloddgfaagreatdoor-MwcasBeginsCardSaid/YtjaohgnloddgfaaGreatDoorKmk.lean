/- The law MwcasBegins (merged). -/
import Derived.Test.YtjaohgnloddgfaaGreatDoorKmj
namespace Go.Proofs.YtjaohgnloddgfaaGreatDoor
open Go.RowKit
set_option linter.unusedVariables false
set_option linter.unusedSimpArgs false

theorem idx_any (l : List Ent) (o : Int) : (idxOff l o).isSome = l.any fun e => e.off == o := by
  rw [Bool.eq_iff_iff]
  constructor
  · intro h
    obtain ⟨q, hq⟩ := Option.isSome_iff_exists.1 h
    have h1 := List.find?_some hq
    have h2 : q < l.length := by simpa using List.mem_of_find?_eq_some hq
    rw [List.any_eq_true]
    refine ⟨l[q], List.getElem_mem h2, ?_⟩
    rwa [List.getD_eq_getElem?_getD, List.getElem?_eq_getElem h2] at h1
  · intro h
    rw [List.any_eq_true] at h
    obtain ⟨e, he, ho⟩ := h
    obtain ⟨q, hq, rfl⟩ := List.getElem_of_mem he
    cases hx : idxOff l o with
    | some _ => rfl
    | none =>
      unfold idxOff at hx
      rw [List.find?_eq_none] at hx
      have := hx q (by simpa using hq)
      rw [List.getD_eq_getElem?_getD, List.getElem?_eq_getElem hq] at this
      exact absurd ho this
theorem idx_succ {es : List Ent} {i : Nat} (hi : i < es.length) (o : Int) : (idxOff (es.take (i + 1)) o).isSome = ((idxOff (es.take i) o).isSome || (o == es[i].off)) := by
  rw [idx_any, idx_any, List.take_succ_eq_append_getElem hi, List.any_append]
  simp only [List.any_cons, List.any_nil, Bool.or_false]
  congr 1
  rw [Bool.eq_iff_iff, beq_iff_eq, beq_iff_eq]
  exact eq_comm
theorem vals0 : vals17 [] = [0, 0, 0, 0, 0, 0, 0, 0] := by simp [vals17, gt0, List.range_succ]
set_option maxRecDepth 100000 in
set_option maxHeartbeats 32000000 in
theorem walkBegins (w : World) (hT : Tab w) (th : Int) (hth : -9223372036854775808 ≤ th ∧ th < 9223372036854775808) (A : Option Addr) (m c : Nat) (es : List Ent) (hS : IsEnts w A m c es) (off : Int) (ho : 0 ≤ off ∧ off < 18446744073709551616) :
    Calls Tryz.prog 3 #[.int .i64 th, .slice A m c, .int .u64 off] w fun e w' => e = .returned (.bool true) ∧ Below w.heap.size w w' := by
  have HT := Lib.hid hT
  have HS := Lib.hid hS
  have HO := Lib.hid ho
  have HVA := Lib.hid (values17 w none 0 0 [] rfl (by omega) .nil (by simp))
  have HSU : Hid (∀ (W : World) g, IB .u64 23 W g (vals17 []) → Calls Tryz.prog 13 #[.slice (some ⟨g, 0, none⟩) 8 8] W (SetPost W (vals17 []))) := fun W g hI => setup17 W _ 8 _ rfl hI.rd0 (vals17_range [])
  have HAW : Hid (∀ W, Below w.heap.size w W → Calls Tryz.prog 15 #[] W fun e w' => e = .returned (.bool true) ∧ Below W.heap.size W w') := fun W hW => awake17 W (HT.out.ch (Ch.of_below (S := fun _ => False) hW) (fun h => h))
  have hmc : m ≤ c := hS.1.2.1
  clear hT hS ho
  go_enter Tryz.func3, Tryz.ntmps3
  go_upto_region 4 with (first
    | (go_at_call 14; refine HVA.out.mono ?_; rintro e w' ⟨g0, rfl, hI, hg, hb⟩; have HI := Lib.hid hI; obtain ⟨x0, rfl⟩ := bx_of hb; clear hI hg hb)
    | (go_at_call 13; refine (HSU.out _ _ HI.out).mono ?_; rintro e w1 ⟨p, d, t, S, rfl, hP, hcl, hb⟩; have HP := Lib.hid hP; have HCL := Lib.hid hcl; obtain ⟨x, rfl⟩ := bx_of hb; clear hP hcl hb)
    | (go_at_call 15; refine (HAW.out _ (by (repeat (first | with_reducible exact Below.refl _ _ | with_reducible refine bl_alloc ?_ _ | with_reducible refine bl_drew ?_ | with_reducible refine bl_drewN ?_ _ | with_reducible refine bl_bx ?_ _ | with_reducible exact BX.below _ | with_reducible refine bl_set ?_ (by first | (exact Nat.le_refl _) | (simp; done) | (simp; omega)) _ | assumption)))).mono ?_; rintro e w2 ⟨rfl, hb⟩; obtain ⟨y, rfl⟩ := bx_of hb; clear hb))
  obtain ⟨σ, hσ⟩ : ∃ σ : PwS, ({ dev := S, busy := List.replicate 8 false, cur := none, ops := fun _ => none } : PwS) = σ := ⟨_, rfl⟩
  have HSB : Hid (σ.dev = S ∧ σ.busy = List.replicate 8 false) := by show _ ∧ _; rw [← hσ]; exact ⟨rfl, rfl⟩
  obtain ⟨Kb, hKb⟩ : ∃ Kb : Nat → Prop, (fun b => b < x0.w.heap.size) = Kb := ⟨_, rfl⟩
  have HKb : Hid (∀ b, ¬ Kb b → w.heap.size ≤ b) := by
    rw [← hKb]
    exact fun b hb => by have h1 := x0.size; have hb : ¬ b < x0.w.heap.size := hb; omega
  have h5 := HP.out.bl0 (w' := y.w) (by (repeat (first | with_reducible exact Below.refl _ _ | with_reducible refine bl_alloc ?_ _ | with_reducible refine bl_drew ?_ | with_reducible refine bl_drewN ?_ _ | with_reducible refine bl_bx ?_ _ | with_reducible exact BX.below _ | with_reducible refine bl_set ?_ (by first | (exact Nat.le_refl _) | (simp; done) | (simp; omega)) _ | assumption)))
  have hb5 : Below w.heap.size w y.w := by (repeat (first | with_reducible exact Below.refl _ _ | with_reducible refine bl_alloc ?_ _ | with_reducible refine bl_drew ?_ | with_reducible refine bl_drewN ?_ _ | with_reducible refine bl_bx ?_ _ | with_reducible exact BX.below _ | with_reducible refine bl_set ?_ (by first | (exact Nat.le_refl _) | (simp; done) | (simp; omega)) _ | assumption))
  rw [hσ, hKb] at h5
  obtain ⟨W5, hW5⟩ : ∃ W5, y.w = W5 := ⟨_, rfl⟩
  rw [hW5] at h5 hb5 ⊢
  have H5 := Lib.hid h5
  have HB5 := Lib.hid hb5
  have hes5 := HS.out.1.bl hb5
  have HES5 := Lib.hid hes5
  have HRE : Hid (∀ e ∈ es, (0 ≤ e.off ∧ e.off < 18446744073709551616) ∧ (0 ≤ e.old ∧ e.old < 18446744073709551616) ∧ (0 ≤ e.new ∧ e.new < 18446744073709551616)) := HS.out.2.2
  have HER : Hid (∀ i, (S.thr i).err = 0) := HCL.out.err
  have hc64 : c ≤ 9223372036854775807 := HS.out.2.1
  clear h5 hb5 hes5 hσ hKb hW5 HP HCL HI HVA HSU HAW HT HS
  go_upto_if 34 with (fail)
  go_cut [1] from 35 (fun s wx => ∃ (m2 : Nat) (es2 : List Ent), m2 ≤ 8 ∧ s = .slice A m2 c ∧ EsV W5 A m2 c es2 ∧ (∀ e ∈ es2, (0 ≤ e.off ∧ e.off < 18446744073709551616) ∧ (0 ≤ e.old ∧ e.old < 18446744073709551616) ∧ (0 ≤ e.new ∧ e.new < 18446744073709551616)) ∧ wx = W5)
  case first => as_aux_lemma =>
    by_cases h8 : (m : Int) > 8
    · have h8c : (8 : Int) ≤ (c : Int) := by omega
      go_wp2
      go_meet
      exact ⟨8, es.take 8, by omega, rfl, HES5.out.take 8 (by omega), fun e he => HRE.out e (List.mem_of_mem_take he), rfl⟩
    · go_wp2
      go_meet
      exact ⟨m, es, by omega, rfl, HES5.out, HRE.out, rfl⟩
  case rest =>
    obtain ⟨m2, es2, hm8, rfl, hES, hRE, rfl⟩ := hcut
    have HES := Lib.hid hES
    have HR2 := Lib.hid hRE
    clear hES hRE HES5 HRE
    have HEX := Lib.hid (fun (W : World) (hW : Below wc.heap.size wc W) => (H5.out.bl0 hW).exec)
    rw [HSB.out.1] at HEX
    go_upto_region 7 with (go_at_call 16; refine (HEX.out _ (Below.refl _ _)).mono ?_; rintro e w' ⟨rfl, rfl⟩)
    go_cut [10] from 39 (fun s wx => s = .bool (badA th m2) ∧ wx = wc)
    case first => as_aux_lemma =>
      by_cases h1 : th < 0
      · go_wp2
        go_meet
        exact ⟨by unfold badA; simp [h1], rfl⟩
      · by_cases h2 : th ≥ 8
        · have h2' : 8 ≤ th := h2
          go_wp2
          go_meet
          exact ⟨by unfold badA; simp [h2'], rfl⟩
        · have h2' : ¬ 8 ≤ th := h2
          by_cases h3 : (m2 : Int) < 1
          · have h3' : m2 < 1 := by omega
            go_wp2
            go_meet
            exact ⟨by unfold badA; simp [h3'], rfl⟩
          · have h3' : ¬ m2 < 1 := by omega
            by_cases h4 : (m2 : Int) > 6
            · have h4' : 6 < m2 := by omega
              go_wp2
              go_meet
              exact ⟨by unfold badA; simp [h4'], rfl⟩
            · have h4' : ¬ 6 < m2 := by omega
              go_wp2
              go_meet
              refine ⟨?_, rfl⟩
              unfold badA
              simp [h1, h2', h4']
              omega
    case rest =>
      obtain ⟨rfl, rfl⟩ := hcut
      obtain ⟨wA, rfl⟩ : ∃ wA, wA = wc := ⟨wc, rfl⟩
      have HB0 : Hid (begB th m2 es2 0 = badA th m2) := by show _ = _; unfold begB entsB; simp
      go_wp2
      go_loopw [57, 10, 11, 12, 14, 58, 59, 60, 61, 62, 63, 64, 65, 66, 67, 68, 69, 70, 71, 72, 73, 74, 75, 76, 77, 78, 79, 80, 81, 82, 83, 84, 85, 86, 87, 88, 89, 90, 91, 92, 93, 94, 95, 96, 97, 98, 99, 100, 101, 102, 103, 104, 105, 106, 107, 108, 109, 110, 111, 112, 113, 114, 115, 116, 117, 118, 119, 120, 121] (fun i b _ _ _ _ _ _ _ _ _ _ _ _ _ _ _ _ _ _ _ _ _ _ _ _ _ _ _ _ _ _ _ _ _ _ _ _ _ _ _ _ _ _ _ _ _ _ _ _ _ _ _ _ _ _ _ _ _ _ _ _ _ _ _ _ _ _ _ wr => ∃ j : Nat, j ≤ m2 ∧ i = .int .i64 j ∧ b = .bool (begB th m2 es2 j) ∧ Below wA.heap.size wA wr) (fun i _ _ _ _ _ _ _ _ _ _ _ _ _ _ _ _ _ _ _ _ _ _ _ _ _ _ _ _ _ _ _ _ _ _ _ _ _ _ _ _ _ _ _ _ _ _ _ _ _ _ _ _ _ _ _ _ _ _ _ _ _ _ _ _ _ _ _ _ _ => m2 - (intOf i).toNat)
      case atStart => exact ⟨0, by omega, rfl, by rw [HB0.out], Below.refl _ _⟩
      case round =>
        obtain ⟨j, hj, rfl, rfl, hB⟩ := hrel
        obtain ⟨wo, rfl⟩ : ∃ wo, wo = wr := ⟨wr, rfl⟩
        have HB := Lib.hid hB
        by_cases hlt : j < m2
        · have hlt' : (j : Int) < (m2 : Int) := by omega
          have hjl : j < es2.length := by rw [HES.out.1]; exact hlt
          obtain ⟨g, ofs, hA, hgl, t1, t2, t3, t4⟩ := (HES.out.bl hB).ent (k := j) hjl
          have hrr := HR2.out _ (List.getElem_mem hjl)
          have heg : es2.getD j E0 = es2[j]'hjl := by rw [List.getD_eq_getElem?_getD, List.getElem?_eq_getElem hjl]; rfl
          obtain ⟨e, he⟩ : ∃ e, es2[j]'hjl = e := ⟨_, rfl⟩
          rw [he] at t1 t2 t3 t4 hrr heg
          have HSU : Hid (begB th m2 es2 (j + 1) = (begB th m2 es2 j || (!(outB 0 32 40 e.off && e.poss) || (idxOff (es2.take j) e.off).isSome))) := by
            show _ = _
            unfold begB entsB
            rw [List.range_succ, List.all_append]
            simp only [List.all_cons, List.all_nil, Bool.and_true, heg]
            generalize badA th m2 = x1
            generalize (List.range j).all _ = x2
            generalize outB 0 32 40 e.off = x3
            generalize (idxOff (es2.take j) e.off).isSome = x4
            generalize e.poss = x5
            cases x1 <;> cases x2 <;> cases x3 <;> cases x4 <;> cases x5 <;> rfl
          obtain ⟨eo, eold, enew, eex⟩ := e
          dsimp only at t1 t2 t3 t4 hrr HSU
          obtain ⟨r1, r2, r3⟩ := hrr
          obtain ⟨v0, hv0⟩ : ∃ v0, begB th m2 es2 j = v0 := ⟨_, rfl⟩
          rw [hv0] at HSU ⊢
          subst hA
          clear hv0 he heg hB HB0
          go_upto_region 11 with (fail)
          obtain ⟨W6, hW6⟩ : ∃ W6, wo.alloc (.cells #[.int .u64 eo, .int .u64 eold, .int .u64 enew, .bool eex] 33) = W6 := ⟨_, rfl⟩
          have hB6 : Below wo.heap.size wo W6 := by rw [← hW6]; (repeat (first | with_reducible exact Below.refl _ _ | with_reducible refine bl_alloc ?_ _ | with_reducible refine bl_drew ?_ | with_reducible refine bl_drewN ?_ _ | with_reducible refine bl_bx ?_ _ | with_reducible exact BX.below _ | with_reducible refine bl_set ?_ (by first | (exact Nat.le_refl _) | (simp; done) | (simp; omega)) _ | assumption))
          have kk := CB.new wo 33 #[.int .u64 eo, .int .u64 eold, .int .u64 enew, .bool eex]
          rw [hW6] at kk
          obtain ⟨ge, hge⟩ : ∃ ge, wo.heap.size = ge := ⟨_, rfl⟩
          rw [hge] at kk
          have k0 : W6.cell? ⟨ge, 0, none⟩ = some (.int .u64 eo) := kk.cell 0
          have k1 : W6.cell? ⟨ge, 1, none⟩ = some (.int .u64 eold) := kk.cell 1
          have k2 : W6.cell? ⟨ge, 2, none⟩ = some (.int .u64 enew) := kk.cell 2
          have k3 : W6.cell? ⟨ge, 3, none⟩ = some (.bool eex) := kk.cell 3
          have kl : ge < W6.heap.size := kk.lt
          have HB6 : Hid (Below wA.heap.size wA W6) := HB.out.trans (hB6.mono HB.out.size)
          rw [hW6, hge]
          clear hB6 hW6 kk hge t1 t2 t3 t4 HB
          go_cut [10] from 62 to 104 (fun s wx => s = .bool (v0 || !(outB 0 32 40 eo && (⟨eo, eold, enew, eex⟩ : Ent).poss)) ∧ wx = W6)
          case first => as_aux_lemma =>
            clear HSU
            cases v0 with
            | true =>
              go_wp2
              go_meet
              exact ⟨by simp, rfl⟩
            | false =>
              by_cases h1 : eo % 8 = 0
              · have h1' : (eo % 8 != 0) = false := by simpa using h1
                by_cases h2 : eo ≥ 2560
                · have h2' : (2560 : Int) ≤ eo := h2
                  go_wp2
                  go_meet
                  exact ⟨by unfold outB Ent.poss; first | (simp [h1, h2']; done) | (simp [h1, h2']; omega), rfl⟩
                · have h2' : ¬ (2560 : Int) ≤ eo := h2
                  by_cases h3 : eo < 2048
                  · go_wp2
                    go_meet
                    exact ⟨by unfold outB Ent.poss; first | (simp [h1, h2', h3]; done) | (simp [h1, h2', h3]; omega), rfl⟩
                  · by_cases h4 : enew ≥ 1099511627776
                    · have h4' : (1099511627776 : Int) ≤ enew := h4
                      go_wp2
                      go_meet
                      exact ⟨by unfold outB Ent.poss; first | (simp [h1, h2', h3, h4']; done) | (simp [h1, h2', h3, h4']; omega), rfl⟩
                    · have h4' : ¬ (1099511627776 : Int) ≤ enew := h4
                      cases eex with
                      | false =>
                        by_cases h5 : eold ≥ 1099511627776
                        · have h5' : (1099511627776 : Int) ≤ eold := h5
                          go_wp2
                          go_meet
                          exact ⟨by unfold outB Ent.poss; first | (simp [h1, h2', h3, h4', h5']; done) | (simp [h1, h2', h3, h4', h5']; omega), rfl⟩
                        · have h5' : ¬ (1099511627776 : Int) ≤ eold := h5
                          go_wp2
                          go_meet
                          exact ⟨by unfold outB Ent.poss; first | (simp [h1, h2', h3, h4', h5']; done) | (simp [h1, h2', h3, h4', h5']; omega), rfl⟩
                      | true =>
                        obtain ⟨z, hz⟩ : ∃ z, eold / 4611686018427387904 = z := ⟨_, rfl⟩
                        by_cases h5 : z = 0
                        · have h5' : (z != 0) = false := by simpa using h5
                          go_wp2
                          go_meet
                          exact ⟨by unfold outB Ent.poss; have hzz : eold < 4611686018427387904 := (by omega); first | (simp [h1, h2', h3, h4', hzz]; done) | (simp [h1, h2', h3, h4', hzz]; omega), rfl⟩
                        · have h5' : (z != 0) = true := by simpa using h5
                          go_wp2
                          go_meet
                          exact ⟨by unfold outB Ent.poss; have hzz : ¬ eold < 4611686018427387904 := (by omega); first | (simp [h1, h2', h3, h4', hzz]; done) | (simp [h1, h2', h3, h4', hzz]; omega), rfl⟩
              · have h1' : (eo % 8 != 0) = true := by simpa using h1
                go_wp2
                go_meet
                exact ⟨by unfold outB Ent.poss; first | (simp [h1]; done) | (simp [h1]; omega), rfl⟩
          case rest =>
            obtain ⟨rfl, rfl⟩ := hcut
            obtain ⟨w6, rfl⟩ : ∃ w6, w6 = wc := ⟨wc, rfl⟩
            obtain ⟨v1, hv1⟩ : ∃ v1, (v0 || !(outB 0 32 40 eo && (⟨eo, eold, enew, eex⟩ : Ent).poss)) = v1 := ⟨_, rfl⟩
            have HSV : Hid (begB th m2 es2 (j + 1) = (v1 || (idxOff (es2.take j) eo).isSome)) := by
              show _ = _
              rw [HSU.out, ← hv1, Bool.or_assoc]
            have HI0 : Hid ((idxOff (es2.take 0) eo).isSome = false) := rfl
            have hjc : (j : Int) ≤ (c : Int) := by have := HES.out.2.1; omega
            have hj0 : ¬ (j : Int) < 0 := by omega
            rw [hv1]
            clear hv1 HSU
            go_wp2
            go_loopw [108, 10, 14, 109, 110, 111, 112, 113, 114, 115, 116, 117, 118, 119, 120] (fun i b _ _ _ _ _ _ _ _ _ _ _ _ _ wr => ∃ q : Nat, q ≤ j ∧ i = .int .i64 q ∧ b = .bool (v1 || (idxOff (es2.take q) eo).isSome) ∧ Below w6.heap.size w6 wr) (fun i _ _ _ _ _ _ _ _ _ _ _ _ _ _ _ => j - (intOf i).toNat)
            case atStart => exact ⟨0, by omega, rfl, by rw [HI0.out]; simp, Below.refl _ _⟩
            case round =>
              obtain ⟨q, hq, rfl, rfl, hB⟩ := hrel
              have HB := Lib.hid hB
              by_cases hlq : q < j
              · have hlq' : (q : Int) < (j : Int) := by omega
                have hql : q < es2.length := by rw [HES.out.1]; omega
                obtain ⟨g3, of3, hA3, hg3, s1, s2, s3, s4⟩ := (HES.out.bl (HB6.out.trans (hB.mono HB6.out.size))).ent (k := q) hql
                have HSQ := Lib.hid (idx_succ hql eo)
                injection hA3 with hA3
                injection hA3 with e1 e2
                subst e1 e2
                obtain ⟨e, he⟩ : ∃ e, es2[q]'hql = e := ⟨_, rfl⟩
                rw [he] at s1 s2 s3 s4 HSQ
                obtain ⟨fo, fold, fnew, fex⟩ := e
                dsimp only at s1 s2 s3 s4 HSQ
                have n0 := (hB.cell (p := ⟨ge, 0, none⟩) kl).trans k0
                have nl : ge < wr.heap.size := Nat.lt_of_lt_of_le kl hB.size
                obtain ⟨v2, hv2⟩ : ∃ v2, (v1 || (idxOff (es2.take q) eo).isSome) = v2 := ⟨_, rfl⟩
                have HSW : Hid ((v1 || (idxOff (es2.take (q + 1)) eo).isSome) = (v2 || (eo == fo))) := by
                  show _ = _
                  rw [HSQ.out, ← hv2, Bool.or_assoc]
                rw [hv2]
                clear hv2 HSQ he hB
                cases v2 with
                | true =>
                  go_wp2
                  exact ⟨⟨q + 1, by omega, by go_num, by rw [HSW.out]; simp, HB.out.trans ((bl_alloc (Below.refl _ _) _ : Below wr.heap.size wr _).mono HB.out.size)⟩, by simp [intOf]; omega⟩
                | false =>
                  go_wp2
                  exact ⟨⟨q + 1, by omega, by go_num, by rw [HSW.out]; simp, HB.out.trans ((bl_alloc (Below.refl _ _) _ : Below wr.heap.size wr _).mono HB.out.size)⟩, by simp [intOf]; omega⟩
              · obtain rfl : q = j := by omega
                go_wp2
                exact ⟨⟨q + 1, by omega, by go_num, by rw [HSV.out], HB6.out.trans (HB.out.mono HB6.out.size)⟩, by simp [intOf]; omega⟩
        · have hjm : j = m2 := by omega
          subst hjm
          have hpw := H5.out.bl0 hB
          have HPW := Lib.hid hpw
          have HBA := Lib.hid (pwBeginAll hpw (by intro i; rw [HSB.out.1]; exact HER.out i) (by rw [HSB.out.2]; rfl) (by rw [HSB.out.2]; simp) th A j c es2 (HES.out.bl hB) (fun e he => ⟨(HR2.out e he).1.1, (HR2.out e he).1.2, (HR2.out e he).2.1.1, (HR2.out e he).2.1.2⟩))
          have HWB : Hid (Below w.heap.size w wo) := HB5.out.trans (hB.mono HB5.out.size)
          have HSX : Hid (σ.dev = S) := HSB.out.1
          obtain ⟨v0, hv0⟩ : ∃ v0, begB th j es2 j = v0 := ⟨_, rfl⟩
          rw [hv0] at HBA ⊢
          clear hv0 HES HR2 HB0 hB HB HEX H5 HB5 HSB HER hpw
          cases v0 with
          | true =>
            have HPX : Hid (∀ W, Below wo.heap.size wo W → PMx Kb p d t 0 32 ((40 : Nat) * 64) W σ) := fun W hW => HPW.out.bl0 hW
            have HFIN : Hid (∀ W, Below wo.heap.size wo W → Below w.heap.size w W) := fun W hW => HWB.out.trans (hW.mono HWB.out.size)
            clear HWB HPW
            go_upto_region 22 with (first
              | (go_at_call 17; refine HBA.out.mono ?_; rintro r w1 hr; unfold BegAll at hr; rw [if_pos rfl] at hr; obtain ⟨rfl, hb⟩ := hr; obtain ⟨x1, rfl⟩ := bx_of hb; clear hb HBA)
              | (go_at_call 18; refine (pwReadAll (HPX.out _ (by (repeat (first | with_reducible exact Below.refl _ _ | with_reducible refine bl_alloc ?_ _ | with_reducible refine bl_drew ?_ | with_reducible refine bl_drewN ?_ _ | with_reducible refine bl_bx ?_ _ | with_reducible exact BX.below _ | with_reducible refine bl_set ?_ (by first | (exact Nat.le_refl _) | (simp; done) | (simp; omega)) _ | assumption)))) th off HO.out).mono ?_; rintro r w2 ⟨g, pv, tv, rd, rfl, hcb, h0, he, hr, hb⟩; have HCB := Lib.hid hcb; have HRD : Hid (rd.raw = 0 ∧ rd.ended = wrongB th off ∧ rd.err = (if wrongB th off then 1 else 0)) := ⟨h0, he, hr⟩; obtain ⟨x2, rfl⟩ := bx_of hb; clear hb hcb h0 he hr))
            go_cut [18] from 151 (fun s wx => s = .bool (wrongB th off) ∧ wx = x2.w)
            case first => as_aux_lemma =>
              clear HPX HFIN HCB HRD
              have hO := HO.out
              by_cases h1 : th < 0
              · go_wp2
                go_meet
                exact ⟨by unfold wrongB; simp [h1], rfl⟩
              · by_cases h2 : th ≥ 8
                · have h2' : 8 ≤ th := h2
                  go_wp2
                  go_meet
                  exact ⟨by unfold wrongB; simp [h2'], rfl⟩
                · have h2' : ¬ 8 ≤ th := h2
                  by_cases h3 : off % 8 = 0
                  · have h3' : (off % 8 != 0) = false := by simpa using h3
                    by_cases h4 : off ≥ 2560
                    · have h4' : (2560 : Int) ≤ off := h4
                      go_wp2
                      go_meet
                      exact ⟨by unfold wrongB outB; first | (simp [h1, h2', h3, h4']; done) | (simp [h1, h2', h3, h4']; omega), rfl⟩
                    · have h4' : ¬ (2560 : Int) ≤ off := h4
                      by_cases h5 : off < 2048
                      · go_wp2
                        go_meet
                        exact ⟨by unfold wrongB outB; first | (simp [h1, h2', h3, h4', h5]; done) | (simp [h1, h2', h3, h4', h5]; omega), rfl⟩
                      · go_wp2
                        go_meet
                        exact ⟨by unfold wrongB outB; first | (simp [h1, h2', h3, h4', h5]; done) | (simp [h1, h2', h3, h4', h5]; omega), rfl⟩
                  · have h3' : (off % 8 != 0) = true := by simpa using h3
                    go_wp2
                    go_meet
                    exact ⟨by unfold wrongB outB; first | (simp [h3]; done) | (simp [h3]; omega), rfl⟩
            case rest =>
              obtain ⟨rfl, rfl⟩ := hcut
              have HVL : Hid (∀ W, Below x2.w.heap.size x2.w W → Calls Tryz.prog 19 #[.pointer (some ⟨g, 0, none⟩)] W fun e w' => e = .returned (.tuple #[.int .u64 0, .int .i64 (if wrongB th off then 1 else 8)]) ∧ Below W.heap.size W w') := by
                intro W hW
                refine (rdValue W (HCB.out.keep (hW.block g HCB.out.lt)) (by rw [HRD.out.1]; omega)).mono ?_
                rintro e w' ⟨rfl, hb⟩
                refine ⟨?_, hb⟩
                obtain ⟨q1, q2, q3⟩ := HRD.out
                unfold RdS.val
                rw [q1, q2, q3]
                cases wrongB th off <;> rfl
              have HWD : Hid (∀ W, Below x2.w.heap.size x2.w W → Calls Tryz.prog 20 #[.pointer (some ⟨g, 0, none⟩)] W fun e w' => e = .returned (.int .u64 0) ∧ Below W.heap.size W w') := by
                intro W hW
                refine (rdWord W (HCB.out.keep (hW.block g HCB.out.lt))).mono ?_
                rintro e w' ⟨rfl, hb⟩
                refine ⟨?_, hb⟩
                rw [HRD.out.1]
                simp
              clear HCB HRD
              obtain ⟨v1, hv1⟩ : ∃ v1, wrongB th off = v1 := ⟨_, rfl⟩
              rw [hv1] at HVL ⊢
              clear hv1
              have HEY : Hid (∀ W, Below wo.heap.size wo W → Calls Tryz.prog 16 #[.pointer (some ⟨d, 0, none⟩)] W fun e w' => e = .returned (.int .u64 S.exec) ∧ W = w') := fun W hW => by
                have := (HPX.out W hW).exec
                simpa only [HSX.out] using this
              cases v1 with
              | true =>
                go_wp2_with (first
                  | (go_at_call 19; refine (HVL.out _ (by (repeat (first | with_reducible exact Below.refl _ _ | with_reducible refine bl_alloc ?_ _ | with_reducible refine bl_drew ?_ | with_reducible refine bl_drewN ?_ _ | with_reducible refine bl_bx ?_ _ | with_reducible exact BX.below _ | with_reducible refine bl_set ?_ (by first | (exact Nat.le_refl _) | (simp; done) | (simp; omega)) _ | assumption)))).mono ?_; rintro e w3 ⟨rfl, hb⟩; obtain ⟨x3, rfl⟩ := bx_of hb; clear hb)
                  | (go_at_call 20; refine (HWD.out _ (by (repeat (first | with_reducible exact Below.refl _ _ | with_reducible refine bl_alloc ?_ _ | with_reducible refine bl_drew ?_ | with_reducible refine bl_drewN ?_ _ | with_reducible refine bl_bx ?_ _ | with_reducible exact BX.below _ | with_reducible refine bl_set ?_ (by first | (exact Nat.le_refl _) | (simp; done) | (simp; omega)) _ | assumption)))).mono ?_; rintro e w4 ⟨rfl, hb⟩; obtain ⟨x4, rfl⟩ := bx_of hb; clear hb)
                  | (go_at_call 16; refine (HEY.out _ (by (repeat (first | with_reducible exact Below.refl _ _ | with_reducible refine bl_alloc ?_ _ | with_reducible refine bl_drew ?_ | with_reducible refine bl_drewN ?_ _ | with_reducible refine bl_bx ?_ _ | with_reducible exact BX.below _ | with_reducible refine bl_set ?_ (by first | (exact Nat.le_refl _) | (simp; done) | (simp; omega)) _ | assumption)))).mono ?_; rintro e w5 ⟨rfl, rfl⟩))
                go_ret
                exact ⟨rfl, HFIN.out _ (by (repeat (first | with_reducible exact Below.refl _ _ | with_reducible refine bl_alloc ?_ _ | with_reducible refine bl_drew ?_ | with_reducible refine bl_drewN ?_ _ | with_reducible refine bl_bx ?_ _ | with_reducible exact BX.below _ | with_reducible refine bl_set ?_ (by first | (exact Nat.le_refl _) | (simp; done) | (simp; omega)) _ | assumption)))⟩
              | false =>
                go_wp2_with (first
                  | (go_at_call 19; refine (HVL.out _ (by (repeat (first | with_reducible exact Below.refl _ _ | with_reducible refine bl_alloc ?_ _ | with_reducible refine bl_drew ?_ | with_reducible refine bl_drewN ?_ _ | with_reducible refine bl_bx ?_ _ | with_reducible exact BX.below _ | with_reducible refine bl_set ?_ (by first | (exact Nat.le_refl _) | (simp; done) | (simp; omega)) _ | assumption)))).mono ?_; rintro e w3 ⟨rfl, hb⟩; obtain ⟨x3, rfl⟩ := bx_of hb; clear hb)
                  | (go_at_call 20; refine (HWD.out _ (by (repeat (first | with_reducible exact Below.refl _ _ | with_reducible refine bl_alloc ?_ _ | with_reducible refine bl_drew ?_ | with_reducible refine bl_drewN ?_ _ | with_reducible refine bl_bx ?_ _ | with_reducible exact BX.below _ | with_reducible refine bl_set ?_ (by first | (exact Nat.le_refl _) | (simp; done) | (simp; omega)) _ | assumption)))).mono ?_; rintro e w4 ⟨rfl, hb⟩; obtain ⟨x4, rfl⟩ := bx_of hb; clear hb)
                  | (go_at_call 16; refine (HEY.out _ (by (repeat (first | with_reducible exact Below.refl _ _ | with_reducible refine bl_alloc ?_ _ | with_reducible refine bl_drew ?_ | with_reducible refine bl_drewN ?_ _ | with_reducible refine bl_bx ?_ _ | with_reducible exact BX.below _ | with_reducible refine bl_set ?_ (by first | (exact Nat.le_refl _) | (simp; done) | (simp; omega)) _ | assumption)))).mono ?_; rintro e w5 ⟨rfl, rfl⟩))
                go_ret
                exact ⟨rfl, HFIN.out _ (by (repeat (first | with_reducible exact Below.refl _ _ | with_reducible refine bl_alloc ?_ _ | with_reducible refine bl_drew ?_ | with_reducible refine bl_drewN ?_ _ | with_reducible refine bl_bx ?_ _ | with_reducible exact BX.below _ | with_reducible refine bl_set ?_ (by first | (exact Nat.le_refl _) | (simp; done) | (simp; omega)) _ | assumption)))⟩
          | false =>
            go_upto_region 19 with (first
              | (go_at_call 17; refine HBA.out.mono ?_; rintro r w1 hr; unfold BegAll at hr; rw [if_neg (by simp)] at hr; obtain ⟨a, o, rfl, hoe, hpx, hch⟩ := hr; have HXX : Hid (o.ended = false ∧ PMx Kb p d t 0 32 ((40 : Nat) * 64) w1 { σ.setOp a o with busy := σ.busy.set 0 true } ∧ Ch (fun b => ¬ Kb b) wo w1) := ⟨hoe, hpx, hch⟩; clear hoe hpx hch HBA)
              )
            obtain ⟨wz, rfl⟩ : ∃ wz, wz = w1 := ⟨_, rfl⟩
            obtain ⟨σ2, hσ2⟩ : ∃ σ2 : PwS, ({ σ.setOp a o with busy := σ.busy.set 0 true } : PwS) = σ2 := ⟨_, rfl⟩
            have HS2 : Hid (σ2.dev = S ∧ σ2.ops a = some o) := by
              rw [← hσ2]
              exact ⟨HSX.out, by simp [PwS.setOp]⟩
            rw [hσ2] at HXX
            clear hσ2 HSX
            have HSX : Hid (σ2.dev = S) := HS2.out.1
            have HPX : Hid (∀ W, Below wz.heap.size wz W → PMx Kb p d t 0 32 ((40 : Nat) * 64) W σ2) := fun W hW => HXX.out.2.1.bl0 hW
            have HFIN : Hid (∀ W, Below wz.heap.size wz W → Below w.heap.size w W) := fun W hW => (HWB.out.trans (HXX.out.2.2.to_below HWB.out.size (fun b hb => HKb.out b hb))).trans (hW.mono (Nat.le_trans HWB.out.size HXX.out.2.2.size))
            have HOE : Hid (∀ W, Below wz.heap.size wz W → Calls Tryz.prog 21 #[.pointer (some ⟨a, 0, none⟩)] W fun e w' => e = .returned (.bool false) ∧ Below W.heap.size W w') := fun W hW => by
              obtain ⟨role, bb, h, _⟩ := HPX.out W hW
              have := opEnded (h.op a o HS2.out.2)
              rw [HXX.out.1] at this
              exact this
            have HOK : Hid (∀ W, Below wz.heap.size wz W → Calls Tryz.prog 22 #[.pointer (some ⟨a, 0, none⟩)] W fun e w' => e = .returned (.bool false) ∧ Below W.heap.size W w') := fun W hW => by
              obtain ⟨role, bb, h, _⟩ := HPX.out W hW
              have := opOK (h.op a o HS2.out.2)
              rw [HXX.out.1] at this
              exact this
            clear HXX HWB HPW HKb HS2
            go_upto_region 22 with (first
              | (go_at_call 18; refine (pwReadAll (HPX.out _ (by (repeat (first | with_reducible exact Below.refl _ _ | with_reducible refine bl_alloc ?_ _ | with_reducible refine bl_drew ?_ | with_reducible refine bl_drewN ?_ _ | with_reducible refine bl_bx ?_ _ | with_reducible exact BX.below _ | with_reducible refine bl_set ?_ (by first | (exact Nat.le_refl _) | (simp; done) | (simp; omega)) _ | assumption)))) th off HO.out).mono ?_; rintro r w2 ⟨g, pv, tv, rd, rfl, hcb, h0, he, hr, hb⟩; have HCB := Lib.hid hcb; have HRD : Hid (rd.raw = 0 ∧ rd.ended = wrongB th off ∧ rd.err = (if wrongB th off then 1 else 0)) := ⟨h0, he, hr⟩; obtain ⟨x2, rfl⟩ := bx_of hb; clear hb hcb h0 he hr))
            go_cut [18] from 151 (fun s wx => s = .bool (wrongB th off) ∧ wx = x2.w)
            case first => as_aux_lemma =>
              clear HPX HFIN HCB HRD HOE HOK
              have hO := HO.out
              by_cases h1 : th < 0
              · go_wp2
                go_meet
                exact ⟨by unfold wrongB; simp [h1], rfl⟩
              · by_cases h2 : th ≥ 8
                · have h2' : 8 ≤ th := h2
                  go_wp2
                  go_meet
                  exact ⟨by unfold wrongB; simp [h2'], rfl⟩
                · have h2' : ¬ 8 ≤ th := h2
                  by_cases h3 : off % 8 = 0
                  · have h3' : (off % 8 != 0) = false := by simpa using h3
                    by_cases h4 : off ≥ 2560
                    · have h4' : (2560 : Int) ≤ off := h4
                      go_wp2
                      go_meet
                      exact ⟨by unfold wrongB outB; first | (simp [h1, h2', h3, h4']; done) | (simp [h1, h2', h3, h4']; omega), rfl⟩
                    · have h4' : ¬ (2560 : Int) ≤ off := h4
                      by_cases h5 : off < 2048
                      · go_wp2
                        go_meet
                        exact ⟨by unfold wrongB outB; first | (simp [h1, h2', h3, h4', h5]; done) | (simp [h1, h2', h3, h4', h5]; omega), rfl⟩
                      · go_wp2
                        go_meet
                        exact ⟨by unfold wrongB outB; first | (simp [h1, h2', h3, h4', h5]; done) | (simp [h1, h2', h3, h4', h5]; omega), rfl⟩
                  · have h3' : (off % 8 != 0) = true := by simpa using h3
                    go_wp2
                    go_meet
                    exact ⟨by unfold wrongB outB; first | (simp [h3]; done) | (simp [h3]; omega), rfl⟩
            case rest =>
              obtain ⟨rfl, rfl⟩ := hcut
              have HVL : Hid (∀ W, Below x2.w.heap.size x2.w W → Calls Tryz.prog 19 #[.pointer (some ⟨g, 0, none⟩)] W fun e w' => e = .returned (.tuple #[.int .u64 0, .int .i64 (if wrongB th off then 1 else 8)]) ∧ Below W.heap.size W w') := by
                intro W hW
                refine (rdValue W (HCB.out.keep (hW.block g HCB.out.lt)) (by rw [HRD.out.1]; omega)).mono ?_
                rintro e w' ⟨rfl, hb⟩
                refine ⟨?_, hb⟩
                obtain ⟨q1, q2, q3⟩ := HRD.out
                unfold RdS.val
                rw [q1, q2, q3]
                cases wrongB th off <;> rfl
              have HWD : Hid (∀ W, Below x2.w.heap.size x2.w W → Calls Tryz.prog 20 #[.pointer (some ⟨g, 0, none⟩)] W fun e w' => e = .returned (.int .u64 0) ∧ Below W.heap.size W w') := by
                intro W hW
                refine (rdWord W (HCB.out.keep (hW.block g HCB.out.lt))).mono ?_
                rintro e w' ⟨rfl, hb⟩
                refine ⟨?_, hb⟩
                rw [HRD.out.1]
                simp
              clear HCB HRD
              obtain ⟨v1, hv1⟩ : ∃ v1, wrongB th off = v1 := ⟨_, rfl⟩
              rw [hv1] at HVL ⊢
              clear hv1
              have HEY : Hid (∀ W, Below wz.heap.size wz W → Calls Tryz.prog 16 #[.pointer (some ⟨d, 0, none⟩)] W fun e w' => e = .returned (.int .u64 S.exec) ∧ W = w') := fun W hW => by
                have := (HPX.out W hW).exec
                simpa only [HSX.out] using this
              cases v1 with
              | true =>
                go_wp2_with (first
                  | (go_at_call 19; refine (HVL.out _ (by (repeat (first | with_reducible exact Below.refl _ _ | with_reducible refine bl_alloc ?_ _ | with_reducible refine bl_drew ?_ | with_reducible refine bl_drewN ?_ _ | with_reducible refine bl_bx ?_ _ | with_reducible exact BX.below _ | with_reducible refine bl_set ?_ (by first | (exact Nat.le_refl _) | (simp; done) | (simp; omega)) _ | assumption)))).mono ?_; rintro e w3 ⟨rfl, hb⟩; obtain ⟨x3, rfl⟩ := bx_of hb; clear hb)
                  | (go_at_call 20; refine (HWD.out _ (by (repeat (first | with_reducible exact Below.refl _ _ | with_reducible refine bl_alloc ?_ _ | with_reducible refine bl_drew ?_ | with_reducible refine bl_drewN ?_ _ | with_reducible refine bl_bx ?_ _ | with_reducible exact BX.below _ | with_reducible refine bl_set ?_ (by first | (exact Nat.le_refl _) | (simp; done) | (simp; omega)) _ | assumption)))).mono ?_; rintro e w4 ⟨rfl, hb⟩; obtain ⟨x4, rfl⟩ := bx_of hb; clear hb)
                  | (go_at_call 16; refine (HEY.out _ (by (repeat (first | with_reducible exact Below.refl _ _ | with_reducible refine bl_alloc ?_ _ | with_reducible refine bl_drew ?_ | with_reducible refine bl_drewN ?_ _ | with_reducible refine bl_bx ?_ _ | with_reducible exact BX.below _ | with_reducible refine bl_set ?_ (by first | (exact Nat.le_refl _) | (simp; done) | (simp; omega)) _ | assumption)))).mono ?_; rintro e w5 ⟨rfl, rfl⟩)
                  | (go_at_call 21; refine (HOE.out _ (by (repeat (first | with_reducible exact Below.refl _ _ | with_reducible refine bl_alloc ?_ _ | with_reducible refine bl_drew ?_ | with_reducible refine bl_drewN ?_ _ | with_reducible refine bl_bx ?_ _ | with_reducible exact BX.below _ | with_reducible refine bl_set ?_ (by first | (exact Nat.le_refl _) | (simp; done) | (simp; omega)) _ | assumption)))).mono ?_; rintro e w6 ⟨rfl, hb⟩; obtain ⟨x6, rfl⟩ := bx_of hb; clear hb)
                  | (go_at_call 22; refine (HOK.out _ (by (repeat (first | with_reducible exact Below.refl _ _ | with_reducible refine bl_alloc ?_ _ | with_reducible refine bl_drew ?_ | with_reducible refine bl_drewN ?_ _ | with_reducible refine bl_bx ?_ _ | with_reducible exact BX.below _ | with_reducible refine bl_set ?_ (by first | (exact Nat.le_refl _) | (simp; done) | (simp; omega)) _ | assumption)))).mono ?_; rintro e w7 ⟨rfl, hb⟩; obtain ⟨x7, rfl⟩ := bx_of hb; clear hb))
                go_ret
                exact ⟨rfl, HFIN.out _ (by (repeat (first | with_reducible exact Below.refl _ _ | with_reducible refine bl_alloc ?_ _ | with_reducible refine bl_drew ?_ | with_reducible refine bl_drewN ?_ _ | with_reducible refine bl_bx ?_ _ | with_reducible exact BX.below _ | with_reducible refine bl_set ?_ (by first | (exact Nat.le_refl _) | (simp; done) | (simp; omega)) _ | assumption)))⟩
              | false =>
                go_wp2_with (first
                  | (go_at_call 19; refine (HVL.out _ (by (repeat (first | with_reducible exact Below.refl _ _ | with_reducible refine bl_alloc ?_ _ | with_reducible refine bl_drew ?_ | with_reducible refine bl_drewN ?_ _ | with_reducible refine bl_bx ?_ _ | with_reducible exact BX.below _ | with_reducible refine bl_set ?_ (by first | (exact Nat.le_refl _) | (simp; done) | (simp; omega)) _ | assumption)))).mono ?_; rintro e w3 ⟨rfl, hb⟩; obtain ⟨x3, rfl⟩ := bx_of hb; clear hb)
                  | (go_at_call 20; refine (HWD.out _ (by (repeat (first | with_reducible exact Below.refl _ _ | with_reducible refine bl_alloc ?_ _ | with_reducible refine bl_drew ?_ | with_reducible refine bl_drewN ?_ _ | with_reducible refine bl_bx ?_ _ | with_reducible exact BX.below _ | with_reducible refine bl_set ?_ (by first | (exact Nat.le_refl _) | (simp; done) | (simp; omega)) _ | assumption)))).mono ?_; rintro e w4 ⟨rfl, hb⟩; obtain ⟨x4, rfl⟩ := bx_of hb; clear hb)
                  | (go_at_call 16; refine (HEY.out _ (by (repeat (first | with_reducible exact Below.refl _ _ | with_reducible refine bl_alloc ?_ _ | with_reducible refine bl_drew ?_ | with_reducible refine bl_drewN ?_ _ | with_reducible refine bl_bx ?_ _ | with_reducible exact BX.below _ | with_reducible refine bl_set ?_ (by first | (exact Nat.le_refl _) | (simp; done) | (simp; omega)) _ | assumption)))).mono ?_; rintro e w5 ⟨rfl, rfl⟩)
                  | (go_at_call 21; refine (HOE.out _ (by (repeat (first | with_reducible exact Below.refl _ _ | with_reducible refine bl_alloc ?_ _ | with_reducible refine bl_drew ?_ | with_reducible refine bl_drewN ?_ _ | with_reducible refine bl_bx ?_ _ | with_reducible exact BX.below _ | with_reducible refine bl_set ?_ (by first | (exact Nat.le_refl _) | (simp; done) | (simp; omega)) _ | assumption)))).mono ?_; rintro e w6 ⟨rfl, hb⟩; obtain ⟨x6, rfl⟩ := bx_of hb; clear hb)
                  | (go_at_call 22; refine (HOK.out _ (by (repeat (first | with_reducible exact Below.refl _ _ | with_reducible refine bl_alloc ?_ _ | with_reducible refine bl_drew ?_ | with_reducible refine bl_drewN ?_ _ | with_reducible refine bl_bx ?_ _ | with_reducible exact BX.below _ | with_reducible refine bl_set ?_ (by first | (exact Nat.le_refl _) | (simp; done) | (simp; omega)) _ | assumption)))).mono ?_; rintro e w7 ⟨rfl, hb⟩; obtain ⟨x7, rfl⟩ := bx_of hb; clear hb))
                go_ret
                exact ⟨rfl, HFIN.out _ (by (repeat (first | with_reducible exact Below.refl _ _ | with_reducible refine bl_alloc ?_ _ | with_reducible refine bl_drew ?_ | with_reducible refine bl_drewN ?_ _ | with_reducible refine bl_bx ?_ _ | with_reducible exact BX.below _ | with_reducible refine bl_set ?_ (by first | (exact Nat.le_refl _) | (simp; done) | (simp; omega)) _ | assumption)))⟩
end Go.Proofs.YtjaohgnloddgfaaGreatDoor
