/- Operations: enter, load (merged). -/
import Derived.Test.YtaefkelaffijbaaGreatDoorKfd
import Derived.Test.YtaefkelaffijbaaGreatDoorKfe
import Derived.Test.YtaefkelaffijbaaGreatDoorKfs
namespace Go.Proofs.YtaefkelaffijbaaGreatDoor
open Go.RowKit
set_option linter.unusedVariables false
set_option linter.unusedSimpArgs false
/-- The first loop: the words of the entries and the changes so far. -/
structure EnInv (w1 : World) (o : OpS) (k : Nat) (A1 : Option Addr) (c1 : Nat) (A2 : Option Addr) (c2 : Nat) (wr : World) : Prop where
 wd : Sl 34 1 wr A1 (3 * k) c1 (uints (entW sumI (o.es.take k) (o.seen.take k)))
 ch : Sl 122 2 wr A2 k c2 (wcells (chgW (o.es.take k) (o.seen.take k)))
 bl : Below w1.heap.size w1 wr
 o1 : ∀ b, OwnB A1 b → w1.heap.size ≤ b
 o2 : ∀ b, OwnB A2 b → w1.heap.size ≤ b
 dj : ∀ b, OwnB A1 b → ¬ OwnB A2 b
/-- The second loop: the record so far. -/
structure ReInv (w1 : World) (rs : List (Int × Int)) (j : Nat) (A : Option Addr) (c : Nat) (wr : World) : Prop where
 sl : Sl 122 2 wr A j c (wcells (rs.take j))
 bl : Below w1.heap.size w1 wr
 ow : ∀ b, OwnB A b → w1.heap.size ≤ b
def off1 (e : Ent) : Int := if e.ex then e.off + 1 else e.off
theorem EnInv.next {w1 wr w3 w4 : World} {o : OpS} {k : Nat} {A1 A2 A3 A4 : Option Addr} {c1 c2 c3 c4 : Nat} (h : EnInv w1 o k A1 c1 A2 c2 wr) (hk : k < o.es.length) (hk' : k < o.seen.length) {wy wz : World}
 (hy : Below wr.heap.size wr wy) (hz : Below w3.heap.size w3 wz) (hC3 : Ch (OwnB A1) wy w3) (hC4 : Ch (OwnB A2) wz w4) (hW3 : ∀ b, OwnB A3 b → OwnB A1 b ∨ b = wy.heap.size) (hW4 : ∀ b, OwnB A4 b → OwnB A2 b ∨ b = wz.heap.size)
 (h3 : Sl 34 1 w3 A3 (3 * k + 3) c3 (uints (entW sumI (o.es.take k) (o.seen.take k)) ++ [.int .u64 (off1 o.es[k]), .int .u64 o.es[k].old, .int .u64 (o.es[k].after o.seen[k])]))
 (h4 : Sl 122 2 w4 A4 (k + 1) c4 (wcells (chgW (o.es.take k) (o.seen.take k)) ++ [.int .u64 o.es[k].off, .int .u64 (o.es[k].after o.seen[k])])) : EnInv w1 o (k + 1) A3 c3 A4 c4 w4 := by
 have s1 := h.bl.size
 have s2 := hy.size
 have s3 := hC3.size
 have s4 := hz.size
 have s5 := hC4.size
 have hw3 : ∀ b, OwnB A3 b → b < w3.heap.size := fun b hb => h3.lt hb
 have l1 : ∀ b, OwnB A1 b → b < wr.heap.size := fun b hb => h.wd.lt hb
 have l2 : ∀ b, OwnB A2 b → b < wr.heap.size := fun b hb => h.ch.lt hb
 refine ⟨?_, ?_, ?_, fun b hb => ?_, fun b hb => ?_, fun b hb hb4 => ?_⟩
 · rw [entW_succ sumI _ _ hk hk', uints_app]
   refine Sl.ch (S := OwnB A2) ((h3.keep (w' := wz) (fun b hb => hz.block b (hw3 b hb)))) hC4 (fun b hb hb2 => ?_)
   rcases hW3 b hb with h5 | h5
   · exact h.dj b h5 hb2
   · have := l2 b hb2; omega
 · rw [chgW_succ _ _ hk hk', wcells_snoc]; exact h4
 · refine (h.bl.trans (hy.mono s1)).trans (((hC3.to_below (B := w1.heap.size) (by omega) (fun b hb => h.o1 b hb)).trans (hz.mono (by omega))).trans (hC4.to_below (B := w1.heap.size) (by omega) (fun b hb => h.o2 b hb)))
 · rcases hW3 b hb with h5 | h5
   · exact h.o1 b h5
   · omega
 · rcases hW4 b hb with h5 | h5
   · exact h.o2 b h5
   · omega
 · rcases hW3 b hb with h5 | h5
   · rcases hW4 b hb4 with h6 | h6
     · exact h.dj b h5 h6
     · have := l1 b h5; omega
   · rcases hW4 b hb4 with h6 | h6
     · have := l2 b h6; omega
     · have := hw3 b hb; omega
theorem wr_alone (w : World) (a b : Int) : Sl 122 2 (w.alloc (.cells #[.int .u64 a, .int .u64 b] 122)) (some ⟨w.heap.size, 0, none⟩) 1 1 (wcells [(a, b)]) :=
 ⟨rfl, .inr ⟨w.heap.size, 0, _, rfl, CB.new w _ _, by omega, by unfold maxLen; omega, by simp, rfl⟩⟩
theorem starts_recW (q0 : Int) (xs : List Int) (h : 0 ≤ q0) : (starts (recW q0 xs)).Pairwise (· ≤ ·) := by
 rw [List.pairwise_iff_getElem]
 intro i j hi hj hij
 simp only [starts, recW, List.getElem_map, List.getElem_zipIdx]
 unfold startOf
 omega
theorem fits_entW {o : OpS} {cnt n : Nat} {M : Nat → Prop} (h : OpOk cnt n M o) (hn : n < 100000) : Fits (entW sumI o.es o.seen) := by
 intro x hx
 unfold entW at hx
 rw [List.mem_flatMap] at hx
 obtain ⟨⟨e, v⟩, hev, hx⟩ := hx
 have he := h.ent e (List.of_mem_zip hev).1
 obtain ⟨k, _, hk, hoff⟩ := he.wd
 have h1 := he.old
 have h2 := Ent.after_range e v he.new
 simp only [List.mem_cons, List.not_mem_nil, or_false] at hx
 rcases hx with hx | hx | hx
 · have hx' : x = if e.ex then e.off + 1 else e.off := hx
   rw [hx', hoff]
   split <;> omega
 · have hx' : x = e.old := hx
   omega
 · have hx' : x = e.after v := hx
   omega

set_option maxRecDepth 100000 in
set_option maxHeartbeats 8000000 in
theorem opEnter {K : Nat → Prop} {p d a line lines : Nat} {t : Nat → Nat} {size : Int} {w : World} {σ : PwS} {o : OpS} {cnt n : Nat} {M : Nat → Prop} (H : PMx K p d t line lines size w σ) (hK0 : K 0) (hT : Tab w) (ha : σ.ops a = some o) (hok : OpOk cnt n M o) (hn : n < 100000) (hl : line + 4 * o.k < 100000)
 (hbd : 3 * o.es.length ≤ 18) (s : Nat) (hs : 1 ≤ s ∧ s ≤ 5) :
 Calls Tryz.prog 109 #[.pointer (some ⟨a, 0, none⟩), .int .i64 (s : Int)] w fun r w' => r = .returned (.tuple #[]) ∧ PMx K p d t line lines size w' (σ.enter sumI (atW line) a o s) ∧ Ch (fun b => ¬ K b) w w' := by
 obtain ⟨role, bb, h, hK⟩ := H
 have hO := h.op a o ha
 have HP := Lib.hid h
 have HK := Lib.hid hK
 have HOK := Lib.hid hok
 obtain ⟨ea, ec, oa, oc, sb, sc, pa, pc, h1, h2, h3, h4, h4', h5, r1, r2, n1, r3, r4, r5⟩ := hO
 have HES := Lib.hid h2
 have HSE := Lib.hid h4
 have hsl := hok.sl
 have hl1 := hok.l1
 have HR3 : Hid (∀ b, OwnB ea b → b ≠ a) := fun b hb => (r3 b hb).2.1
 obtain ⟨m, hm⟩ : ∃ m, o.es.length = m := ⟨_, rfl⟩
 have HM := Lib.hid hm
 have HSL : Hid (o.seen.length = m) := by show _ = _; omega
 have HLa : a < w.heap.size := h1.lt
 have HLs : sb < w.heap.size := h4.lt
 have HLp : p < w.heap.size := h.pl.lt
 have hpa : ¬ p = a := fun he => by have := h.rp; rw [he, r1] at this; omega
 have c0 := h1.opc.c0
 have c2 := h1.opc.c2
 have c3 := h1.opc.c3
 have c5 := h1.opc.c5
 have c7 := h1.opc.c7
 have c8 := h1.opc.c8
 have f7 := h1.frozen 7
 have f8 := h1.frozen 8
 have p1 : w.cell? ⟨p, 1, none⟩ = some (.int .i64 line) := h.pl.cell 1
 have p2 : w.cell? ⟨p, 2, none⟩ = some (.int .i64 lines) := h.pl.cell 2
 have p3 : w.cell? ⟨p, 3, none⟩ = some (.int .u64 size) := h.pl.cell 3
 have HAT : Hid (∀ W, Calls Tryz.prog 53 #[.agg #[.int .i64 (line : Int), .int .i64 (lines : Int), .int .u64 size], .int .i64 (o.k : Int)] W fun e w' => e = .returned (.int .u64 (atW line o.k)) ∧ Below W.heap.size W w') := fun W => rgAt W line lines size o.k hl
 have HH1 := Lib.hid h1
 have HS7 := Lib.hid (fun (w2 : World) (hB : Below (w.setCell ⟨a, 7, none⟩ (.int .i64 s)).heap.size (w.setCell ⟨a, 7, none⟩ (.int .i64 s)) w2) (A : Option Addr) (ps : List Ins) (c : Nat) (hS : Sl 144 3 w2 A ps.length c (pcells ps)) (hA : ∀ b, OwnB A b → w.heap.size ≤ b) => PMx.enterSet h hK ha s hB A ps c hS hA)
 have HS5 := Lib.hid (PMx.stageSet h hK ha s)
 have HT1 : Hid (Tab (w.setCell ⟨a, 7, none⟩ (.int .i64 s))) := hT.ch ((Ch.refl (At a) w).set1 7 _) (fun he => by have he : 0 = a := he; have := (hK 0 hK0).1; rw [he, r1] at this; omega)
 have hatl : ∃ q : Nat, atW line o.k = (q : Int) ∧ q < 100000000 := ⟨8 * (8 * (line + 4 * o.k)), by unfold atW; omega, by omega⟩
 obtain ⟨q0, hq0, hq0l⟩ := hatl
 have HQ0 := Lib.hid hq0
 rw [hq0] at HAT
 have HLN := Lib.hid hl
 rw [hm] at c3 hbd hl1
 rw [hsl, hm] at c5
 clear h hK hok h1 h2 h3 h4 h4' h5 r1 r2 n1 r3 r4 r5 hsl hm hT hq0 hl
 go_enter Tryz.func109, Tryz.ntmps109
 go_wp2
 obtain ⟨w1, hw1⟩ : ∃ w1, w.setCell ⟨a, 7, none⟩ (.int .i64 s) = w1 := ⟨_, rfl⟩
 have hs1 : w1.heap.size = w.heap.size := by rw [← hw1]; simp
 have hC1 : Ch (At a) w w1 := by rw [← hw1]; exact (Ch.refl _ _).set1 7 _
 have hcb1 : CB w1 a 162 (opcells p t { o with stage := s } ea ec oa oc sb sc pa pc) := by rw [← hw1]; exact HH1.out.set 7 _
 have d0 : w1.cell? ⟨a, 0, none⟩ = some (.pointer (some ⟨p, 0, none⟩)) := hcb1.opc.c0
 have d2 : w1.cell? ⟨a, 2, none⟩ = some (.int .i64 o.k) := hcb1.opc.c2
 have d3 : w1.cell? ⟨a, 3, none⟩ = some (.slice ea m ec) := by have := hcb1.opc.c3; dsimp only at this; rwa [HM.out] at this
 have d5 : w1.cell? ⟨a, 5, none⟩ = some (.slice (some ⟨sb, 0, none⟩) m sc) := by have := hcb1.opc.c5; dsimp only at this; rwa [HSL.out] at this
 have d8 : w1.cell? ⟨a, 8, none⟩ = some (.slice pa o.prog.length pc) := hcb1.opc.c8
 have g8 : w1.frozen? ⟨a, 8, none⟩ = false := hcb1.frozen 8
 clear hcb1
 have q1 : w1.cell? ⟨p, 1, none⟩ = some (.int .i64 line) := (hC1.cells p 1 HLp hpa).trans p1
 have q2 : w1.cell? ⟨p, 2, none⟩ = some (.int .i64 lines) := (hC1.cells p 2 HLp hpa).trans p2
 have q3 : w1.cell? ⟨p, 3, none⟩ = some (.int .u64 size) := (hC1.cells p 3 HLp hpa).trans p3
 have hla : a < w1.heap.size := by omega
 have hlp : p < w1.heap.size := by omega
 have hls : sb < w1.heap.size := by omega
 have HES1 : Hid (Sl 174 4 w1 ea o.es.length ec (ecells o.es)) := HES.out.ch hC1 (fun b hb hba => HR3.out b hb hba)
 have HSE1 : Hid (IB .u64 34 w1 sb o.seen) := by
  refine HSE.out.ch hC1 (fun he => ?_)
  have he : sb = a := he
  obtain ⟨_, _, _, _, _, _, _, _, _, _, _, _, _, _, r1, r2, n1, _⟩ := HP.out.op a o ha
  have hx := HH1.out
  have hy := HSE.out
  unfold CB at hx
  unfold IB at hy
  rw [he, hx] at hy
  injection hy with hy
  injection hy with hy1 hy2
  exact absurd hy2 (by decide)
 rw [hw1] at HS7 HS5 HT1
 rw [hw1]
 have HSZ1 := Lib.hid hs1
 clear hs1 hw1 c0 c2 c3 c5 c7 c8 f7 f8 p1 p2 p3 HSE HES HR3 HLa HLs HLp hpa
 go_upto_region 1 with (fail)
 refine wp_region_bx (by kernel_rfl) (by kernel_rfl) ?_
 repeat (go_big_quiet_step ((go_at_call 53; exact bx_call (HAT.out _))))
 refine wpQuiet_nil ?_
 rintro _ ⟨x, rfl⟩
 have HX : Hid (EnInv w1 o 0 none 0 none 0 x.w) := ⟨Sl.nil, Sl.nil, x.below, by simp [OwnB], by simp [OwnB], by simp [OwnB]⟩
 have x3 : x.w.cell? ⟨a, 3, none⟩ = some (.slice ea m ec) := by go_simp
 obtain ⟨W0, hW0⟩ : ∃ W0, x.w = W0 := ⟨_, rfl⟩
 rw [hW0] at x3 HX
 rw [hW0]
 clear hW0
 go_wp2
 go_loopw [34, 5, 7, 8, 9, 10, 35, 36, 37, 38, 39, 40, 41, 42, 43, 44, 45, 46, 47, 48, 49, 50, 51, 52, 53, 54, 55, 56, 57, 58, 59, 60, 61, 62, 63, 64, 65, 66, 67, 68, 69, 70, 71, 72, 73, 74, 75] (fun i wd ch _ _ _ _ _ _ _ _ _ _ _ _ _ _ _ _ _ _ _ _ _ _ _ _ _ _ _ _ _ _ _ _ _ _ _ _ _ _ _ _ _ _ _ _ wr => ∃ (k : Nat) (A1 : Option Addr) (c1 : Nat) (A2 : Option Addr) (c2 : Nat), k ≤ m ∧ i = .int .i64 k ∧ wd = .slice A1 (3 * k) c1 ∧ ch = .slice A2 k c2 ∧ EnInv w1 o k A1 c1 A2 c2 wr) (fun i _ _ _ _ _ _ _ _ _ _ _ _ _ _ _ _ _ _ _ _ _ _ _ _ _ _ _ _ _ _ _ _ _ _ _ _ _ _ _ _ _ _ _ _ _ _ _ => m - (intOf i).toNat)
 case atStart => exact ⟨0, none, 0, none, 0, by omega, rfl, rfl, rfl, HX.out⟩
 case round =>
  clear HX x3
  obtain ⟨k, A1, c1, A2, c2, hk, rfl, rfl, rfl, hI⟩ := hrel
  have HI := Lib.hid hI
  clear hI
  by_cases hlt : k < m
  · have hke : k < o.es.length := by rw [HM.out]; exact hlt
    have hks : k < o.seen.length := by rw [HSL.out]; exact hlt
    have HKE := Lib.hid hke
    have HKS := Lib.hid hks
    have hwrs := HI.out.bl.size
    have e5 : wr.cell? ⟨a, 5, none⟩ = some (.slice (some ⟨sb, 0, none⟩) m sc) := (HI.out.bl.cell (p := ⟨a, 5, none⟩) hla).trans d5
    have es : wr.cell? ⟨sb, k, none⟩ = some (.int .u64 (o.seen[k]'hks)) := (HI.out.bl.cell (p := ⟨sb, k, none⟩) hls).trans (HSE1.out.cell hks)
    obtain ⟨g, off, hA', hgl, t1, t2, t3, t4⟩ := (HES1.out.keep (fun b hb => HI.out.bl.block b (HES1.out.lt hb))).ent hke
    obtain ⟨kw, _, hkw, hoff⟩ := (HOK.out.ent _ (List.getElem_mem hke)).wd
    have hnew := (HOK.out.ent _ (List.getElem_mem hke)).new
    have hold := (HOK.out.ent _ (List.getElem_mem hke)).old
    have hsr := HOK.out.sr k
    rw [gt0_eq hks] at hsr
    obtain ⟨e, he⟩ : ∃ e, o.es[k]'hke = e := ⟨_, rfl⟩
    obtain ⟨v, hv⟩ : ∃ v, o.seen[k]'hks = v := ⟨_, rfl⟩
    have HE := Lib.hid he
    have HV := Lib.hid hv
    rw [he] at t1 t2 t3 t4 hoff hnew hold
    rw [hv] at es hsr
    have HAF := Lib.hid (fun (W : World) => entAfter W e v hnew hsr)
    obtain ⟨eoff, eold, enew, eex⟩ := e
    dsimp only at t1 t2 t3 t4 hoff hnew hold
    obtain ⟨af, haf⟩ : ∃ af, (⟨eoff, eold, enew, eex⟩ : Ent).after v = af := ⟨_, rfl⟩
    have HAFE := Lib.hid haf
    unfold entV at HAF
    dsimp only at HAF
    rw [haf] at HAF
    have hor := wb_or1 kw (by omega)
    subst hoff
    subst hA'
    clear he hv hsr hold hnew haf
    have hgn : ¬ g = wr.heap.size := by omega
    have hgw : g < wr.heap.size := hgl
    have haw : a < wr.heap.size := by omega
    have hsw : sb < wr.heap.size := by omega
    cases eex with
    | true =>
     have HE1 : Hid (off1 ⟨8 * (kw : Int), eold, enew, true⟩ = (8 * (kw : Int) + 1)) := by show _ = _; simp [off1]
     go_upto_region 10 with (fail)
     refine ord_makes [] [.p [0, 1, 2, 5, 6, 7, 9], .q [3, 4, 8, 10, 11, 12], .h [13, 14, 15]] (by kernel_rfl) (fun _ _ d _ _ h => by cases d <;> exact h) (by kernel_rfl) ?_
     dsimp only [pick, List.filterMap, List.getElem?_cons_zero, List.getElem?_cons_succ]
     refine wpQuiet_nil ?_
     rintro _ ⟨x0, rfl⟩
     obtain ⟨we, hwe⟩ : ∃ we, x0.w = we := ⟨_, rfl⟩
     obtain ⟨ge, hge⟩ : ∃ ge, wr.heap.size = ge := ⟨_, rfl⟩
     have HBe : Hid (Below wr.heap.size wr we) := by rw [← hwe]; exact bl_bx (bl_alloc (Below.refl _ _) _) x0
     have HCe : Hid (CB we ge 174 #[.int .u64 (8 * (kw : Int)), .int .u64 eold, .int .u64 enew, .bool true]) := by rw [← hwe, ← hge]; exact (CB.new _ _ _).bx x0
     have hwes : ge < we.heap.size := HCe.out.lt
     have y0 := HCe.out.cell 0
     have y1 := HCe.out.cell 1
     have y2 := HCe.out.cell 2
     have y3 := HCe.out.cell 3
     simp only [List.getElem?_toArray, List.getElem?_cons_zero, List.getElem?_cons_succ] at y0 y1 y2 y3
     have y5 : we.cell? ⟨a, 5, none⟩ = some (.slice (some ⟨sb, 0, none⟩) m sc) := (HBe.out.cell (p := ⟨a, 5, none⟩) haw).trans e5
     have ys : we.cell? ⟨sb, k, none⟩ = some (.int .u64 v) := (HBe.out.cell (p := ⟨sb, k, none⟩) hsw).trans es
     have hawe : a < we.heap.size := by have := HBe.out.size; omega
     have hswe : sb < we.heap.size := by have := HBe.out.size; omega
     rw [hwe, hge]
     clear hwe
     with_reducible refine part_pure ?_
     dsimp only [pick, List.filterMap, List.getElem?_cons_zero, List.getElem?_cons_succ]
     (repeat (first | (refine pure_ex rfl ?_; apply Exists.intro; apply And.intro; (intro w; go_simp; rfl); simp only [Act.put, List.setIfInBounds_toArray, List.set_cons_succ, List.set_cons_zero]) | (refine pure_skip rfl ?_; simp only [Act.put, List.setIfInBounds_toArray, List.set_cons_succ, List.set_cons_zero]))); refine pure_nil ?_
     with_reducible refine part_makes ?_
     dsimp only [pick, List.filterMap, List.getElem?_cons_zero, List.getElem?_cons_succ]
     (repeat (go_big_quiet_step ((go_at_call 134; exact bx_call (HAF.out _)))))
     refine wpQuiet_nil ?_
     rintro _ ⟨y, rfl⟩
     with_reducible refine part_hard ?_
     dsimp only [pick, List.filterMap, List.getElem?_cons_zero, List.getElem?_cons_succ]
     have HBy : Hid (Below wr.heap.size wr (y.w.alloc (.cells #[.int .u64 (8 * (kw : Int) + 1), .int .u64 eold, .int .u64 af] 34))) := bl_alloc (bl_bx HBe.out y) _
     go_wp2_with (at_builtin; refine wpList_append_sl rfl (.tmp 45) (.tmp 58) 40 rfl 34 (.int .u64 0) 1 8 rfl (by omega) Tryz.underlying40 info_u64 (by omega) A1 (3 * k) c1 (uints (entW sumI (o.es.take k) (o.seen.take k))) ⟨y.w.heap.size, 0, none⟩ 3 3 [.int .u64 (8 * (kw : Int) + 1), .int .u64 eold, .int .u64 af] rfl rfl (HI.out.wd.keep (fun b hb => HBy.out.block b (HI.out.wd.lt hb))) rfl (by omega) (cells_three y.w 34 _ _ _) (u64_three _ _ _) (by omega) ?_; intro A3 c3 w3 HO3 HC3 HW3 HG3)
     with_reducible refine segs_end ?_
     with_reducible refine part_nil ?_
     go_upto_region 11 with (fail)
     refine ord_makes [] [.p [0, 1, 4, 5, 6, 8], .q [2, 3, 7, 9, 10, 11, 12], .h [13, 14, 15]] (by kernel_rfl) (fun _ _ d _ _ h => by cases d <;> exact h) (by kernel_rfl) ?_
     dsimp only [pick, List.filterMap, List.getElem?_cons_zero, List.getElem?_cons_succ]
     refine wpQuiet_nil ?_
     rintro _ ⟨x1, rfl⟩
     have HB36 : Hid (Below w3.heap.size w3 x1.w) := x1.below
     obtain ⟨w6, hw6⟩ : ∃ w6, x1.w = w6 := ⟨_, rfl⟩
     rw [hw6] at HB36
     rw [hw6]
     clear hw6
     have HCH3 : Hid (Ch (OwnB A1) we w6) := ((Ch.of_below (S := OwnB A1) (bl_alloc y.below _)).trans HC3.out (fun _ hb _ => hb)).trans (Ch.of_below (S := OwnB A1) HB36.out) (fun _ hb _ => hb)
     have hn1 : ∀ b, b < w1.heap.size → ¬ OwnB A1 b := fun b hb ho => by have := HI.out.o1 b ho; omega
     have hn2 : ¬ OwnB A1 ge := fun ho => by have := HI.out.wd.lt ho; omega
     have z0 := (HCH3.out.cells ge 0 hwes hn2).trans y0
     have z1 := (HCH3.out.cells ge 1 hwes hn2).trans y1
     have z2 := (HCH3.out.cells ge 2 hwes hn2).trans y2
     have z3 := (HCH3.out.cells ge 3 hwes hn2).trans y3
     have z5 := (HCH3.out.cells a 5 hawe (hn1 a hla)).trans y5
     have zs := (HCH3.out.cells sb k hswe (hn1 sb hls)).trans ys
     have hw3s := HCH3.out.size
     have hge3 : ge < w6.heap.size := by omega
     have haw3 : a < w6.heap.size := by omega
     have hsw3 : sb < w6.heap.size := by omega
     clear y0 y1 y2 y3 y5 ys hn1 hn2 e5 es t1 t2 t3 t4
     with_reducible refine part_pure ?_
     dsimp only [pick, List.filterMap, List.getElem?_cons_zero, List.getElem?_cons_succ]
     (repeat (first | (refine pure_ex rfl ?_; apply Exists.intro; apply And.intro; (intro w; go_simp; rfl); simp only [Act.put, List.setIfInBounds_toArray, List.set_cons_succ, List.set_cons_zero]) | (refine pure_skip rfl ?_; simp only [Act.put, List.setIfInBounds_toArray, List.set_cons_succ, List.set_cons_zero]))); refine pure_nil ?_
     with_reducible refine part_makes ?_
     dsimp only [pick, List.filterMap, List.getElem?_cons_zero, List.getElem?_cons_succ]
     (repeat (go_big_quiet_step ((go_at_call 134; exact bx_call (HAF.out _)))))
     refine wpQuiet_nil ?_
     rintro _ ⟨z, rfl⟩
     with_reducible refine part_hard ?_
     dsimp only [pick, List.filterMap, List.getElem?_cons_zero, List.getElem?_cons_succ]
     have HBz : Hid (Below w6.heap.size w6 (z.w.alloc (.cells #[.int .u64 (8 * (kw : Int)), .int .u64 af] 122))) := bl_alloc z.below _
     have HCz : Hid (Sl 122 2 w6 A2 k c2 (wcells (chgW (o.es.take k) (o.seen.take k)))) := (HI.out.ch.keep (fun b hb => HBe.out.block b (HI.out.ch.lt hb))).ch HCH3.out (fun b hb h1 => HI.out.dj b h1 hb)
     go_wp2_with (at_builtin; refine wpList_append_sl rfl (.tmp 60) (.tmp 73) 119 rfl 122 (.agg #[.int .u64 0, .int .u64 0]) 2 16 rfl (by omega) Tryz.underlying119 info_write (by omega) A2 k c2 (wcells (chgW (o.es.take k) (o.seen.take k))) ⟨z.w.heap.size, 0, none⟩ 1 1 [.int .u64 (8 * (kw : Int)), .int .u64 af] rfl rfl (HCz.out.keep (fun b hb => HBz.out.block b (HCz.out.lt hb))) rfl (by omega) (cells_two z.w 122 _ _) (u64_two _ _) (by omega) ?_; intro A4 c4 w4 HO4 HC4 HW4 HG4)
     with_reducible refine segs_end ?_
     with_reducible refine part_nil ?_
     go_wp2
     go_roundw
     case rel =>
      refine ⟨k + 1, A3, c3, A4, c4, by omega, by go_num, rfl, rfl, HI.out.next HKE.out HKS.out HBy.out (HB36.out.trans (HBz.out.mono HB36.out.size)) HC3.out HC4.out HW3.out (fun b hb => HW4.out b hb) ?_ ?_⟩
      · have := HO3.out
        rw [HE.out, HV.out, HAFE.out, HE1.out]; exact this
      · have := HO4.out
        rw [HE.out, HV.out, HAFE.out]; exact this
     case measure => simp [intOf]; omega
    | false =>
     have HE1 : Hid (off1 ⟨8 * (kw : Int), eold, enew, false⟩ = (8 * (kw : Int))) := by show _ = _; simp [off1]
     go_upto_region 10 with (fail)
     refine ord_makes [] [.p [0, 1, 2, 5, 6, 7, 9], .q [3, 4, 8, 10, 11, 12], .h [13, 14, 15]] (by kernel_rfl) (fun _ _ d _ _ h => by cases d <;> exact h) (by kernel_rfl) ?_
     dsimp only [pick, List.filterMap, List.getElem?_cons_zero, List.getElem?_cons_succ]
     refine wpQuiet_nil ?_
     rintro _ ⟨x0, rfl⟩
     obtain ⟨we, hwe⟩ : ∃ we, x0.w = we := ⟨_, rfl⟩
     obtain ⟨ge, hge⟩ : ∃ ge, wr.heap.size = ge := ⟨_, rfl⟩
     have HBe : Hid (Below wr.heap.size wr we) := by rw [← hwe]; exact bl_bx (bl_alloc (Below.refl _ _) _) x0
     have HCe : Hid (CB we ge 174 #[.int .u64 (8 * (kw : Int)), .int .u64 eold, .int .u64 enew, .bool false]) := by rw [← hwe, ← hge]; exact (CB.new _ _ _).bx x0
     have hwes : ge < we.heap.size := HCe.out.lt
     have y0 := HCe.out.cell 0
     have y1 := HCe.out.cell 1
     have y2 := HCe.out.cell 2
     have y3 := HCe.out.cell 3
     simp only [List.getElem?_toArray, List.getElem?_cons_zero, List.getElem?_cons_succ] at y0 y1 y2 y3
     have y5 : we.cell? ⟨a, 5, none⟩ = some (.slice (some ⟨sb, 0, none⟩) m sc) := (HBe.out.cell (p := ⟨a, 5, none⟩) haw).trans e5
     have ys : we.cell? ⟨sb, k, none⟩ = some (.int .u64 v) := (HBe.out.cell (p := ⟨sb, k, none⟩) hsw).trans es
     have hawe : a < we.heap.size := by have := HBe.out.size; omega
     have hswe : sb < we.heap.size := by have := HBe.out.size; omega
     rw [hwe, hge]
     clear hwe
     with_reducible refine part_pure ?_
     dsimp only [pick, List.filterMap, List.getElem?_cons_zero, List.getElem?_cons_succ]
     (repeat (first | (refine pure_ex rfl ?_; apply Exists.intro; apply And.intro; (intro w; go_simp; rfl); simp only [Act.put, List.setIfInBounds_toArray, List.set_cons_succ, List.set_cons_zero]) | (refine pure_skip rfl ?_; simp only [Act.put, List.setIfInBounds_toArray, List.set_cons_succ, List.set_cons_zero]))); refine pure_nil ?_
     with_reducible refine part_makes ?_
     dsimp only [pick, List.filterMap, List.getElem?_cons_zero, List.getElem?_cons_succ]
     (repeat (go_big_quiet_step ((go_at_call 134; exact bx_call (HAF.out _)))))
     refine wpQuiet_nil ?_
     rintro _ ⟨y, rfl⟩
     with_reducible refine part_hard ?_
     dsimp only [pick, List.filterMap, List.getElem?_cons_zero, List.getElem?_cons_succ]
     have HBy : Hid (Below wr.heap.size wr (y.w.alloc (.cells #[.int .u64 (8 * (kw : Int)), .int .u64 eold, .int .u64 af] 34))) := bl_alloc (bl_bx HBe.out y) _
     go_wp2_with (at_builtin; refine wpList_append_sl rfl (.tmp 45) (.tmp 58) 40 rfl 34 (.int .u64 0) 1 8 rfl (by omega) Tryz.underlying40 info_u64 (by omega) A1 (3 * k) c1 (uints (entW sumI (o.es.take k) (o.seen.take k))) ⟨y.w.heap.size, 0, none⟩ 3 3 [.int .u64 (8 * (kw : Int)), .int .u64 eold, .int .u64 af] rfl rfl (HI.out.wd.keep (fun b hb => HBy.out.block b (HI.out.wd.lt hb))) rfl (by omega) (cells_three y.w 34 _ _ _) (u64_three _ _ _) (by omega) ?_; intro A3 c3 w3 HO3 HC3 HW3 HG3)
     with_reducible refine segs_end ?_
     with_reducible refine part_nil ?_
     go_upto_region 11 with (fail)
     refine ord_makes [] [.p [0, 1, 4, 5, 6, 8], .q [2, 3, 7, 9, 10, 11, 12], .h [13, 14, 15]] (by kernel_rfl) (fun _ _ d _ _ h => by cases d <;> exact h) (by kernel_rfl) ?_
     dsimp only [pick, List.filterMap, List.getElem?_cons_zero, List.getElem?_cons_succ]
     refine wpQuiet_nil ?_
     rintro _ ⟨x1, rfl⟩
     have HB36 : Hid (Below w3.heap.size w3 x1.w) := x1.below
     obtain ⟨w6, hw6⟩ : ∃ w6, x1.w = w6 := ⟨_, rfl⟩
     rw [hw6] at HB36
     rw [hw6]
     clear hw6
     have HCH3 : Hid (Ch (OwnB A1) we w6) := ((Ch.of_below (S := OwnB A1) (bl_alloc y.below _)).trans HC3.out (fun _ hb _ => hb)).trans (Ch.of_below (S := OwnB A1) HB36.out) (fun _ hb _ => hb)
     have hn1 : ∀ b, b < w1.heap.size → ¬ OwnB A1 b := fun b hb ho => by have := HI.out.o1 b ho; omega
     have hn2 : ¬ OwnB A1 ge := fun ho => by have := HI.out.wd.lt ho; omega
     have z0 := (HCH3.out.cells ge 0 hwes hn2).trans y0
     have z1 := (HCH3.out.cells ge 1 hwes hn2).trans y1
     have z2 := (HCH3.out.cells ge 2 hwes hn2).trans y2
     have z3 := (HCH3.out.cells ge 3 hwes hn2).trans y3
     have z5 := (HCH3.out.cells a 5 hawe (hn1 a hla)).trans y5
     have zs := (HCH3.out.cells sb k hswe (hn1 sb hls)).trans ys
     have hw3s := HCH3.out.size
     have hge3 : ge < w6.heap.size := by omega
     have haw3 : a < w6.heap.size := by omega
     have hsw3 : sb < w6.heap.size := by omega
     clear y0 y1 y2 y3 y5 ys hn1 hn2 e5 es t1 t2 t3 t4
     with_reducible refine part_pure ?_
     dsimp only [pick, List.filterMap, List.getElem?_cons_zero, List.getElem?_cons_succ]
     (repeat (first | (refine pure_ex rfl ?_; apply Exists.intro; apply And.intro; (intro w; go_simp; rfl); simp only [Act.put, List.setIfInBounds_toArray, List.set_cons_succ, List.set_cons_zero]) | (refine pure_skip rfl ?_; simp only [Act.put, List.setIfInBounds_toArray, List.set_cons_succ, List.set_cons_zero]))); refine pure_nil ?_
     with_reducible refine part_makes ?_
     dsimp only [pick, List.filterMap, List.getElem?_cons_zero, List.getElem?_cons_succ]
     (repeat (go_big_quiet_step ((go_at_call 134; exact bx_call (HAF.out _)))))
     refine wpQuiet_nil ?_
     rintro _ ⟨z, rfl⟩
     with_reducible refine part_hard ?_
     dsimp only [pick, List.filterMap, List.getElem?_cons_zero, List.getElem?_cons_succ]
     have HBz : Hid (Below w6.heap.size w6 (z.w.alloc (.cells #[.int .u64 (8 * (kw : Int)), .int .u64 af] 122))) := bl_alloc z.below _
     have HCz : Hid (Sl 122 2 w6 A2 k c2 (wcells (chgW (o.es.take k) (o.seen.take k)))) := (HI.out.ch.keep (fun b hb => HBe.out.block b (HI.out.ch.lt hb))).ch HCH3.out (fun b hb h1 => HI.out.dj b h1 hb)
     go_wp2_with (at_builtin; refine wpList_append_sl rfl (.tmp 60) (.tmp 73) 119 rfl 122 (.agg #[.int .u64 0, .int .u64 0]) 2 16 rfl (by omega) Tryz.underlying119 info_write (by omega) A2 k c2 (wcells (chgW (o.es.take k) (o.seen.take k))) ⟨z.w.heap.size, 0, none⟩ 1 1 [.int .u64 (8 * (kw : Int)), .int .u64 af] rfl rfl (HCz.out.keep (fun b hb => HBz.out.block b (HCz.out.lt hb))) rfl (by omega) (cells_two z.w 122 _ _) (u64_two _ _) (by omega) ?_; intro A4 c4 w4 HO4 HC4 HW4 HG4)
     with_reducible refine segs_end ?_
     with_reducible refine part_nil ?_
     go_wp2
     go_roundw
     case rel =>
      refine ⟨k + 1, A3, c3, A4, c4, by omega, by go_num, rfl, rfl, HI.out.next HKE.out HKS.out HBy.out (HB36.out.trans (HBz.out.mono HB36.out.size)) HC3.out HC4.out HW3.out (fun b hb => HW4.out b hb) ?_ ?_⟩
      · have := HO3.out
        rw [HE.out, HV.out, HAFE.out, HE1.out]; exact this
      · have := HO4.out
        rw [HE.out, HV.out, HAFE.out]; exact this
     case measure => simp [intOf]; omega
  · obtain rfl : k = m := by omega
    have htk : o.es.take k = o.es := List.take_of_length_le (by rw [HM.out]; omega)
    have hts : o.seen.take k = o.seen := List.take_of_length_le (by rw [HSL.out]; omega)
    have HI0 := Lib.hid HI.out.bl
    have hwd := HI.out.wd
    have hch := HI.out.ch
    rw [htk, hts] at hwd hch
    have HWD := Lib.hid hwd
    have HCH := Lib.hid hch
    have HO1 := Lib.hid HI.out.o1
    have HO2 := Lib.hid HI.out.o2
    obtain ⟨xs, hxs⟩ : ∃ xs, entW sumI o.es o.seen = xs := ⟨_, rfl⟩
    rw [hxs] at HWD
    have HXS := Lib.hid hxs
    have hxl : xs.length = 3 * k := by rw [← hxs, length_entW sumI _ _ (by rw [HSL.out, HM.out]), HM.out]
    have HXL := Lib.hid hxl
    have HR0 : Hid (ReInv wr (recW (q0 : Int) xs) 0 none 0 wr) := ⟨Sl.nil, Below.refl _ _, by simp [OwnB]⟩
    obtain ⟨wl, hwl⟩ : ∃ wl, wr = wl := ⟨_, rfl⟩
    rw [hwl] at HR0 HI0 HWD HCH
    rw [hwl]
    clear htk hts hwd hch hxs hxl HI hwl
    go_wp2
    go_loopw [78, 6, 11, 12, 79, 80, 81, 82, 83, 84, 85, 86, 87, 88, 89, 90, 91, 92, 93, 94] (fun i rc _ _ _ _ _ _ _ _ _ _ _ _ _ _ _ _ _ _ wr => ∃ (j : Nat) (A : Option Addr) (c : Nat), j ≤ 3 * k ∧ i = .int .i64 j ∧ rc = .slice A j c ∧ ReInv wl (recW (q0 : Int) xs) j A c wr) (fun i _ _ _ _ _ _ _ _ _ _ _ _ _ _ _ _ _ _ _ _ => 3 * k - (intOf i).toNat)
    case atStart => exact ⟨0, none, 0, by omega, rfl, rfl, HR0.out⟩
    case round =>
     clear HR0
     obtain ⟨j, A, c, hj, rfl, rfl, hI⟩ := hrel
     have HI := Lib.hid hI
     clear hI
     by_cases hlt2 : j < 3 * k
     · have hjx : j < xs.length := by rw [HXL.out]; exact hlt2
       obtain ⟨g, off, hA', hgl, hc⟩ := (HWD.out.keep (fun b hb => HI.out.bl.block b (HWD.out.lt hb))).at_ (j := j) (by rw [length_uints]; exact hjx)
       rw [get_uints xs j hjx] at hc
       obtain ⟨v, hv⟩ : ∃ v, xs[j] = v := ⟨_, rfl⟩
       rw [hv] at hc
       have HRT : Hid ((recW (q0 : Int) xs).take (j + 1) = (recW (q0 : Int) xs).take j ++ [((q0 : Int) + 64 + 8 * (j : Int), v)]) := by show _ = _; rw [recW_take _ _ hjx, hv]
       subst hA'
       have hj3 : j < 3 * k := hlt2
       have hj3' : (j : Int) < 3 * (k : Int) := by omega
       have u1 : IntKind.u64.wrap ((q0 : Int) + 64) = (q0 : Int) + 64 := IntWalk.u64_in _ (by omega)
       have u2 : IntKind.u64.wrap (j : Int) = (j : Int) := IntWalk.u64_in _ (by omega)
       have u3 : IntKind.u64.wrap ((j : Int) * 8) = 8 * (j : Int) := by rw [Int.mul_comm]; exact IntWalk.u64_in _ (by omega)
       have u4 : IntKind.u64.wrap ((q0 : Int) + 64 + 8 * (j : Int)) = (q0 : Int) + 64 + 8 * (j : Int) := IntWalk.u64_in _ (by omega)
       have hgn : ¬ g = wr.heap.size := by omega
       clear hv hjx hlt2
       go_wp2_with (at_builtin; refine wpList_append_sl rfl (.tmp 83) (.tmp 92) 119 rfl 122 (.agg #[.int .u64 0, .int .u64 0]) 2 16 rfl (by omega) Tryz.underlying119 info_write (by omega) A j c (wcells ((recW (q0 : Int) xs).take j)) ⟨wr.heap.size, 0, none⟩ 1 1 [.int .u64 ((q0 : Int) + 64 + 8 * (j : Int)), .int .u64 v] rfl rfl (HI.out.sl.keep (fun b hb => Below.heap_alloc _ _ _ (HI.out.sl.lt hb))) rfl (by omega) (cells_two wr 122 _ _) (u64_two _ _) (by omega) ?_; intro A4 c4 w4 HO4 HC4 HW4 HG4)
       go_roundw
       case rel =>
        refine ⟨j + 1, A4, c4, by omega, by go_num, rfl, ?_, ?_, fun b hb => ?_⟩
        · rw [HRT.out, wcells_snoc]; exact HO4.out
        · exact bl_ch (bl_alloc HI.out.bl _) HC4.out (fun b hb => HI.out.ow b hb)
        · have := HI.out.bl.size
          rcases HW4.out b hb with h | h
          · exact HI.out.ow b h
          · rw [h]; simp; omega
       case measure => simp [intOf]; omega
     · obtain rfl : j = 3 * k := by omega
       have hrt : (recW (q0 : Int) xs).take (3 * k) = recW (q0 : Int) xs := List.take_of_length_le (by rw [length_recW, HXL.out]; omega)
       have hRS := HI.out.sl
       rw [hrt] at hRS
       have HRS := Lib.hid hRS
       have HRO := Lib.hid HI.out.ow
       have HBW : Hid (Below w1.heap.size w1 wr) := HI0.out.trans (HI.out.bl.mono HI0.out.size)
       have HBL := Lib.hid HI.out.bl
       have hwls := HI0.out.size
       have hwrs := HI.out.bl.size
       clear hRS hrt HI
       have haw : a < wr.heap.size := by omega
       have k8 : wr.cell? ⟨a, 8, none⟩ = some (.slice pa o.prog.length pc) := (HBW.out.cell (p := ⟨a, 8, none⟩) hla).trans d8
       have kf8 : wr.frozen? ⟨a, 8, none⟩ = false := (HBW.out.frozen (p := ⟨a, 8, none⟩) hla).trans g8
       rcases (by omega : s = 1 ∨ s = 2 ∨ s = 3 ∨ s = 4 ∨ s = 5) with rfl | rfl | rfl | rfl | rfl
       · have HPW : Hid ((starts (recW (q0 : Int) xs)).Pairwise (· ≤ ·)) := starts_recW _ _ (by omega)
         have hwrs2 : w1.heap.size ≤ wr.heap.size := by omega
         have HFS : Hid (Calls Tryz.prog 54 #[.slice A (3 * k) c] wr (StoPost wr (storesX (recW (q0 : Int) xs)))) := by
          refine memStoresQ wr A (3 * k) c (recW (q0 : Int) xs) (by rw [length_recW, HXL.out]) (by omega) (by omega) HRS.out (fun p hp => by obtain ⟨i, hi, hp1⟩ := mem_recW _ _ p hp; rw [HXL.out] at hi; omega) (.inr HPW.out)
         go_wp2_with (first | (go_at_call 54; refine HFS.out.mono ?_; rintro r w5 ⟨A5, c5, rfl, hS5, hB5, hO5⟩; have HS5' := Lib.hid hS5; have HB5 : Hid (Below w1.heap.size w1 w5) := HBW.out.trans (hB5.mono hwrs2); have HO5 := Lib.hid hO5; have m8 := (HB5.out.cell (p := ⟨a, 8, none⟩) hla).trans d8; have mf8 := (HB5.out.frozen (p := ⟨a, 8, none⟩) hla).trans g8; have hw5s := HB5.out.size; have hla5 : a < w5.heap.size := (by omega); clear hS5 hB5 hO5))
         go_end0
         have hfin := HS7.out w5 HB5.out A5 _ c5 HS5'.out (fun b hb => by have := HO5.out b hb; have := HSZ1.out; omega)
         have HQ : Hid (σ.enter sumI (atW line) a o 1 = σ.setOp a { o with stage := 1, prog := storesX (recW (q0 : Int) xs) }) := by
          show _ = _
          unfold PwS.enter
          rw [if_pos (by omega)]
          congr 2
          all_goals (unfold OpS.progOf; rw [if_pos rfl, HXS.out, HQ0.out])
         rw [HQ.out]
         exact ⟨rfl, hfin⟩
       · have HSU : Hid (Calls Tryz.prog 127 #[.slice A1 (3 * k) c1] wr fun e w' => e = .returned (.int .u64 (succW sumI xs)) ∧ wr = w') := by
          refine pwSucceeded wr (HT1.out.below HBW.out) A1 (3 * k) c1 xs HXL.out (by omega) (Sl.rdW (HWD.out.keep (fun b hb => HBL.out.block b (HWD.out.lt hb)))) ?_
          rw [← HXS.out]
          exact fits_entW HOK.out (by omega)
         have HFS : Hid (Calls Tryz.prog 54 #[.slice (some ⟨wr.heap.size, 0, none⟩) 1 1] (wr.alloc (.cells #[.int .u64 (q0 : Int), .int .u64 (succW sumI xs)] 122)) (StoPost (wr.alloc (.cells #[.int .u64 (q0 : Int), .int .u64 (succW sumI xs)] 122)) (storesX [((q0 : Int), succW sumI xs)]))) := by
          refine memStoresQ (wr.alloc (.cells #[.int .u64 (q0 : Int), .int .u64 (succW sumI xs)] 122)) (some ⟨wr.heap.size, 0, none⟩) 1 1 [((q0 : Int), succW sumI xs)] rfl (by omega) (by omega) (wr_alone wr _ _) (fun p hp => by rw [List.mem_singleton] at hp; rw [hp]; exact ⟨by show (0 : Int) ≤ (q0 : Int); omega, by show (q0 : Int) < _; omega⟩) (.inl (by omega))
         go_wp2_with (first | (go_at_call 54; refine HFS.out.mono ?_; rintro r w5 ⟨A5, c5, rfl, hS5, hB5, hO5⟩; have HS5' := Lib.hid hS5; have HB5 : Hid (Below w1.heap.size w1 w5) := (bl_alloc HBW.out _).trans (hB5.mono (by simp; omega)); have HO5 := Lib.hid hO5; have m8 := (HB5.out.cell (p := ⟨a, 8, none⟩) hla).trans d8; have mf8 := (HB5.out.frozen (p := ⟨a, 8, none⟩) hla).trans g8; have hw5s := HB5.out.size; have hla5 : a < w5.heap.size := (by omega); clear hS5 hB5 hO5) | (go_at_call 127; refine HSU.out.mono ?_; rintro e w' ⟨rfl, rfl⟩))
         go_end0
         have hfin := HS7.out w5 HB5.out A5 _ c5 HS5'.out (fun b hb => by have := HO5.out b hb; have := HSZ1.out; (have h9 : wr.heap.size ≤ b := by have h8 := HO5.out b hb; simp at h8; omega); omega)
         have HQ : Hid (σ.enter sumI (atW line) a o 2 = σ.setOp a { o with stage := 2, prog := storesX [((q0 : Int), succW sumI xs)] }) := by
          show _ = _
          unfold PwS.enter
          rw [if_pos (by omega)]
          congr 2
          all_goals (unfold OpS.progOf; rw [if_neg (by omega), if_pos rfl, HXS.out, HQ0.out])
         rw [HQ.out]
         exact ⟨rfl, hfin⟩
       · have HFS : Hid (Calls Tryz.prog 54 #[.slice A2 k c2] wr (StoPost wr (storesX (chgW o.es o.seen)))) := by
          refine memStoresQ wr A2 k c2 (chgW o.es o.seen) (by rw [length_chgW _ _ (by rw [HSL.out, HM.out]), HM.out]) (by omega) (by omega) (HCH.out.keep (fun b hb => HBL.out.block b (HCH.out.lt hb))) (fun p hp => by obtain ⟨q, hq, hp1⟩ := mem_chgW _ _ HOK.out.sl p hp; have := HOK.out.wd hq; omega) (.inl (by omega))
         go_wp2_with (first | (go_at_call 54; refine HFS.out.mono ?_; rintro r w5 ⟨A5, c5, rfl, hS5, hB5, hO5⟩; have HS5' := Lib.hid hS5; have HB5 : Hid (Below w1.heap.size w1 w5) := HBW.out.trans (hB5.mono (by omega)); have HO5 := Lib.hid hO5; have m8 := (HB5.out.cell (p := ⟨a, 8, none⟩) hla).trans d8; have mf8 := (HB5.out.frozen (p := ⟨a, 8, none⟩) hla).trans g8; have hw5s := HB5.out.size; have hla5 : a < w5.heap.size := (by omega); clear hS5 hB5 hO5))
         go_end0
         have hfin := HS7.out w5 HB5.out A5 _ c5 HS5'.out (fun b hb => by have := HO5.out b hb; have := HSZ1.out; omega)
         have HQ : Hid (σ.enter sumI (atW line) a o 3 = σ.setOp a { o with stage := 3, prog := storesX (chgW o.es o.seen) }) := by
          show _ = _
          unfold PwS.enter
          rw [if_pos (by omega)]
          congr 2
          all_goals (unfold OpS.progOf; rw [if_neg (by omega), if_neg (by omega), if_pos rfl])
         rw [HQ.out]
         exact ⟨rfl, hfin⟩
       · have HFS : Hid (Calls Tryz.prog 54 #[.slice (some ⟨wr.heap.size, 0, none⟩) 1 1] (wr.alloc (.cells #[.int .u64 (q0 : Int), .int .u64 1836515329] 122)) (StoPost (wr.alloc (.cells #[.int .u64 (q0 : Int), .int .u64 1836515329] 122)) (storesX [((q0 : Int), 1836515329)]))) := by
          refine memStoresQ (wr.alloc (.cells #[.int .u64 (q0 : Int), .int .u64 1836515329] 122)) (some ⟨wr.heap.size, 0, none⟩) 1 1 [((q0 : Int), 1836515329)] rfl (by omega) (by omega) (wr_alone wr _ _) (fun p hp => by rw [List.mem_singleton] at hp; rw [hp]; exact ⟨by show (0 : Int) ≤ (q0 : Int); omega, by show (q0 : Int) < _; omega⟩) (.inl (by omega))
         go_wp2_with (first | (go_at_call 54; refine HFS.out.mono ?_; rintro r w5 ⟨A5, c5, rfl, hS5, hB5, hO5⟩; have HS5' := Lib.hid hS5; have HB5 : Hid (Below w1.heap.size w1 w5) := (bl_alloc HBW.out _).trans (hB5.mono (by simp; omega)); have HO5 := Lib.hid hO5; have m8 := (HB5.out.cell (p := ⟨a, 8, none⟩) hla).trans d8; have mf8 := (HB5.out.frozen (p := ⟨a, 8, none⟩) hla).trans g8; have hw5s := HB5.out.size; have hla5 : a < w5.heap.size := (by omega); clear hS5 hB5 hO5))
         go_end0
         have hfin := HS7.out w5 HB5.out A5 _ c5 HS5'.out (fun b hb => by have := HO5.out b hb; have := HSZ1.out; (have h9 : wr.heap.size ≤ b := by have h8 := HO5.out b hb; simp at h8; omega); omega)
         have HQ : Hid (σ.enter sumI (atW line) a o 4 = σ.setOp a { o with stage := 4, prog := storesX [((q0 : Int), 1836515329)] }) := by
          show _ = _
          unfold PwS.enter
          rw [if_pos (by omega)]
          congr 2
          all_goals (unfold OpS.progOf; rw [if_neg (by omega), if_neg (by omega), if_neg (by omega), HQ0.out]; rfl)
         rw [HQ.out]
         exact ⟨rfl, hfin⟩
       · have HPX : Hid (PMx K p d t line lines size wr (σ.setOp a { o with stage := 5 })) := HS5.out.1.bl0 HBW.out
         have HFI := Lib.hid (opFinish HPX.out (o := { o with stage := 5 }) (if_pos rfl) true)
         go_wp2_with (go_at_call 132; refine HFI.out.mono ?_; rintro e w5 ⟨rfl, hX, hC5⟩; have HX5 := Lib.hid hX; have HC5 := Lib.hid hC5; clear hX hC5)
         go_end0
         have HQ : Hid (σ.enter sumI (atW line) a o 5 = (σ.setOp a { o with stage := 5 }).fin a { o with stage := 5 } true) := by
          show _ = _
          unfold PwS.enter
          rw [if_neg (by omega)]
          unfold PwS.fin
          refine PwS.ext' rfl rfl rfl (fun b => ?_)
          show (if b = a then _ else σ.ops b) = if b = a then _ else if b = a then _ else σ.ops b
          split <;> rfl
         rw [HQ.out]
         refine ⟨rfl, HX5.out, (HS5.out.2.trans (Ch.of_below (S := fun b => ¬ K b) HBW.out) (fun _ hb _ => hb)).trans HC5.out (fun _ hb _ => hb)⟩
section
variable {role : Nat → Nat} {K : Nat → Prop} {p d bb c a line lines : Nat} {t : Nat → Nat} {size : Int} {w w2 : World} {σ : PwS} {o oc : OpS} {cnt n N : Nat} {M : Nat → Prop} {xs : List Int}
/-- A word that was loaded is stored. -/
theorem PMx.seenSet (h : PM role p d bb t line lines size w σ) (hK : ∀ b, K b → role b = 0 ∧ b < w.heap.size) (ha : σ.ops a = some o) (hB : Below w.heap.size w w2) (q : Nat) (v : Int) (ld : Nat)
 {ea : Option Addr} {ec : Nat} {oa : Option Addr} {oc sb sc : Nat} {pa : Option Addr} {pc : Nat} (hcb : CB w a 162 (opcells p t o ea ec oa oc sb sc pa pc)) (hseq : ∀ ea' ec' oa' oc' sb' sc' pa' pc', CB w a 162 (opcells p t o ea' ec' oa' oc' sb' sc' pa' pc') → sb' = sb) :
 PMx K p d t line lines size ((w2.setCell ⟨sb, q, none⟩ (.int .u64 v)).setCell ⟨a, 6, none⟩ (.int .i64 ld)) (σ.setOp a { o with seen := o.seen.set q v, loaded := ld }) ∧ Ch (fun b => ¬ K b) w ((w2.setCell ⟨sb, q, none⟩ (.int .u64 v)).setCell ⟨a, 6, none⟩ (.int .i64 ld)) := by
 have hO := h.op a o ha
 have hr := hO.ra
 obtain ⟨ea, ec, oa, oc, sb2, sc, pa, pc, h1, h2, h3, h4, h4', h5, r1, r2, n1, r3, r4, r5⟩ := hO
 obtain rfl := hseq _ _ _ _ _ _ _ _ h1
 have hC : Ch (fun b => b = a ∨ b = sb2) w ((w2.setCell ⟨sb2, q, none⟩ (.int .u64 v)).setCell ⟨a, 6, none⟩ (.int .i64 ld)) := ((Ch.of_below (S := fun b => b = a ∨ b = sb2) hB).setCell (a := ⟨sb2, q, none⟩) (.inl (.inr rfl)) _).setCell (a := ⟨a, 6, none⟩) (.inl (.inl rfl)) _
 have hcb' : CB ((w2.setCell ⟨sb2, q, none⟩ (.int .u64 v)).setCell ⟨a, 6, none⟩ (.int .i64 ld)) a 162 (opcells p t { o with seen := o.seen.set q v, loaded := ld } ea ec oa oc sb2 sc pa pc) := by
  have := ((h1.below hB).far (p := ⟨sb2, q, none⟩) n1.symm (.int .u64 v)).set 6 (.int .i64 ld)
  have hl : (o.seen.set q v).length = o.seen.length := by simp
  unfold opcells at this ⊢
  dsimp only
  rw [hl]
  exact this
 have hib : IB .u64 34 ((w2.setCell ⟨sb2, q, none⟩ (.int .u64 v)).setCell ⟨a, 6, none⟩ (.int .i64 ld)) sb2 (o.seen.set q v) := ((h4.below hB h4.lt).set q v).far (p := ⟨a, 6, none⟩) n1 _
 exact PMx.opSet h hK (hC.mono (fun b hb _ => hb.elim (fun hb => by rw [hb]; exact r1) (fun hb => by rw [hb]; exact r2))) ⟨ea, ec, oa, oc, sb2, sc, pa, pc, hcb', h2.ch hC (fun b hb hx => hx.elim (r3 b hb).2.1 (r3 b hb).2.2), h3.ch hC (fun b hb hx => hx.elim (r4 b hb).2.1 (r4 b hb).2.2), hib, by show (o.seen.set q v).length ≤ sc; rw [List.length_set]; exact h4', h5.ch hC (fun b hb hx => hx.elim (r5 b hb).2.1 (r5 b hb).2.2), by rw [rl_old h1.lt]; exact r1, by rw [rl_old h4.lt]; exact r2, n1, fun b hb => by rw [rl_old (h2.lt hb)]; exact r3 b hb, fun b hb => by rw [rl_old (h3.lt hb)]; exact r4 b hb, fun b hb => by rw [rl_old (h5.lt hb)]; exact r5 b hb⟩
theorem opcells_sb {o : OpS} {ea ea' oa oa' pa pa' : Option Addr} {ec ec' k k' sb sb' sc sc' pc pc' : Nat} (h : CB w a 162 (opcells p t o ea ec oa k sb sc pa pc)) (h' : CB w a 162 (opcells p t o ea' ec' oa' k' sb' sc' pa' pc')) : sb' = sb := by
 have h1 := h.opc.c5
 have h2 := h'.opc.c5
 rw [h1] at h2
 injection h2 with h2
 injection h2 with h2
 injection h2 with h2
 injection h2 with h2
 exact h2.symm
theorem OpOk.seen (h : OpOk cnt n M o) {q : Nat} (hq : q < o.es.length) {v : Int} (hv : 0 ≤ v ∧ v < 4611686018427387904) (ld : Nat) : OpOk cnt n M { o with seen := o.seen.set q v, loaded := ld } := by
 refine ⟨h.th, h.k, h.l1, h.l6, h.ent, h.nd, h.perm, by show (o.seen.set _ _).length = _; rw [List.length_set]; exact h.sl, fun p => ?_⟩
 show 0 ≤ gt0 (o.seen.set _ _) p ∧ gt0 (o.seen.set _ _) p < _
 rw [gt0_set (by rw [h.sl]; exact hq)]
 split
 · exact hv
 · exact h.sr p
theorem get_kints (ks : List Nat) (j : Nat) (hj : j < ks.length) (h : j < (kints ks).length) : (kints ks)[j] = .int .i64 ((ks[j]'hj : Nat) : Int) := by simp [kints]
set_option maxRecDepth 100000 in
set_option maxHeartbeats 8000000 in
theorem opLoad (H : PMx K p d t line lines size w σ) (hK0 : K 0) (hT : Tab w) (hoc : σ.ops c = some oc) (hok : OpOk cnt n M oc) (hon : On σ.dev n xs N) (hn : n < 100000) (hl : line + 4 * oc.k < 100000) (hbd : 3 * oc.es.length ≤ 18)
 (hld : oc.loaded < oc.order.length) {v : Int} (hv : xs[wdE oc.es (oc.order.getD oc.loaded 0)]? = some v) (hvr : 0 ≤ v ∧ v < 4611686018427387904) (i : Nat) (hi : i < 8) :
 Calls Tryz.prog 107 #[.pointer (some ⟨c, 0, none⟩), .pointer (some ⟨t i, 0, none⟩)] w fun r w' => r = .returned (.tuple #[]) ∧ PMx K p d t line lines size w' (σ.load sumI (atW line) c oc i) ∧ Ch (fun b => ¬ K b) w w' := by
 have HPX := Lib.hid H
 obtain ⟨role, bb, h, hK⟩ := H
 have hO := h.op c oc hoc
 obtain ⟨ea, ec, oa, ock, sb, sc, pa, pc, h1, h2, h3, h4, h4', h5, r1, r2, n1, r3, r4, r5⟩ := hO
 obtain ⟨q, hq⟩ : ∃ q, oc.order.getD oc.loaded 0 = q := ⟨_, rfl⟩
 have hql : q < oc.es.length := by rw [← hq]; exact hok.order_get hld
 have hqe : oc.order[oc.loaded]'hld = q := by rw [← hq, List.getD_eq_getElem?_getD, List.getElem?_eq_getElem hld]; rfl
 rw [hq] at hv
 obtain ⟨w1, w2, w3⟩ := hok.wd hql
 have HEQ := Lib.hid (load_eq (sum := sumI) (at0 := atW line) (c := c) (i := i) hon hq w3 w2 hv)
 have HOKN := Lib.hid (hok.seen hql hvr (oc.loaded + 1))
 have hol := hok.order_len
 obtain ⟨m, hm⟩ : ∃ m, oc.es.length = m := ⟨_, rfl⟩
 have hl6 := hok.l6
 have hqs : q < oc.seen.length := by rw [hok.sl]; exact hql
 have hsl := hok.sl
 -- the cells
 obtain ⟨go, offo, hoA, hgo, co⟩ := h3.at_ (j := oc.loaded) (by simpa [kints] using hld)
 rw [get_kints _ _ hld, hqe] at co
 obtain ⟨g, off, hA', hgl, t1, t2, t3, t4⟩ := h2.ent hql
 have c3 := h1.opc.c3
 have c4 := h1.opc.c4
 have c5 := h1.opc.c5
 have c6 := h1.opc.c6
 have f6 := h1.frozen 6
 have fs := h4.frozen q
 obtain ⟨sv, cs⟩ : ∃ sv, w.cell? ⟨sb, q, none⟩ = some (.int .u64 sv) := ⟨_, h4.cell hqs⟩
 have hcs : c ≠ sb := n1.symm
 have hsc := n1
 have HLa : c < w.heap.size := h1.lt
 have HLs : sb < w.heap.size := h4.lt
 have hgs : ¬ g = sb := (r3 g (by rw [hA']; simp [OwnB])).2.2
 have hgc : ¬ g = c := (r3 g (by rw [hA']; simp [OwnB])).2.1
 subst hA' hoA
 have HLD : Hid (∀ W, Below w.heap.size w W → Calls Tryz.prog 61 #[.pointer (some ⟨t i, 0, none⟩), .int .u64 (oc.es.getD q E0).off] W fun e w' => e = .returned (.int .u64 v) ∧ W = w') := fun W hW => by
  rw [w3]
  exact vLoad (h.dv.below hW) i hi hon.off _ _ (by rw [hon.cur]; exact hv)
 have HER : Hid (∀ W, Below w.heap.size w W → Calls Tryz.prog 62 #[.pointer (some ⟨t i, 0, none⟩)] W fun e w' => e = .returned (.int .i64 0) ∧ W = w') := fun W hW => by
  have := vErr (h.dv.below hW) i hi
  rwa [hon.err i] at this
 have HSA := Lib.hid (fun (W : World) => entSatisfied W (oc.es[q]'hql) v (by omega))
 have heg : oc.es.getD q E0 = oc.es[q]'hql := by rw [List.getD_eq_getElem?_getD, List.getElem?_eq_getElem hql]; rfl
 rw [heg] at HLD HEQ
 have HSET := Lib.hid (fun (W : World) (hB : Below w.heap.size w W) => PMx.seenSet (σ := σ) h hK hoc hB q v (oc.loaded + 1) h1 (fun _ _ _ _ _ _ _ _ hx => opcells_sb h1 hx))
 have HEN := Lib.hid (fun (W : World) (HW : PMx K p d t line lines size W (σ.setOp c { oc with seen := oc.seen.set q v, loaded := oc.loaded + 1 })) (hTW : Tab W) => opEnter HW hK0 hTW (o := { oc with seen := oc.seen.set q v, loaded := oc.loaded + 1 }) (if_pos rfl) HOKN.out hn hl hbd 1 (by omega))
 have HTC : Hid (∀ W, Ch (fun b => ¬ K b) w W → Tab W) := fun W hW => hT.ch hW (fun h0 => h0 hK0)
 obtain ⟨e, he⟩ : ∃ e, oc.es[q]'hql = e := ⟨_, rfl⟩
 rw [he] at t1 t2 t3 t4 HLD HSA HEQ
 obtain ⟨eoff, eold, enew, eex⟩ := e
 dsimp only at t1 t2 t3 t4 HLD
 unfold entV at HSA
 dsimp only at HSA
 obtain ⟨ld, hldv⟩ : ∃ ld, oc.loaded = ld := ⟨_, rfl⟩
 obtain ⟨sat, hsat⟩ : ∃ sat, (⟨eoff, eold, enew, eex⟩ : Ent).sat v = sat := ⟨_, rfl⟩
 rw [hsat] at HSA HEQ
 rw [hm] at c3 hql
 rw [hol, hm] at c4 hld
 rw [hsl, hm] at c5
 rw [hldv] at c6 co hld HSET HEN HEQ
 have hmI : m ≤ 6 := by omega
 rw [hol, hm] at HEQ
 have e1 := wb_dirty v hvr
 have e2 := wb_busy v (by omega)
 have e3 : IntKind.i64.wrap ((ld : Int) + 1) = ((ld + 1 : Nat) : Int) := by rw [IntWalk.i64_in _ (by omega)]; omega
 have hcast : ((ld + 1 : Nat) : Int) = (ld : Int) + 1 := by omega
 rw [hcast] at HSET e3
 clear hcast
 have HFI := Lib.hid (fun (W : World) (HW : PMx K p d t line lines size W σ) => opFinish HW hoc false)
 have HCB := Lib.hid h1
 have HOL : Hid (oc.order.length = m) := by show _ = _; rw [hol, hm]
 have HSL1 : Hid ((oc.seen.set q v).length = m) := by show _ = _; rw [List.length_set, hsl, hm]
 clear h hK h1 h2 h3 h4 h4' h5 r1 r2 n1 r3 r4 r5 hok hon hv hqe hq w1 w2 w3 hol hm hl6 hqs hsl heg he hldv hsat hvr hl hbd hT HOKN
 go_enter Tryz.func107, Tryz.ntmps107
 go_wp2
 go_quiet (fail)
 cases sat with
 | false =>
  go_wp2_with (first | (go_at_call 61; refine (HLD.out _ (by (repeat (first | with_reducible (first | exact Below.refl _ _ | refine bl_alloc ?_ _ | refine bl_drew ?_ | refine bl_drewN ?_ _ | refine bl_bx ?_ _ | exact BX.below _ | refine bl_set ?_ (by first | (exact Nat.le_refl _) | (simp; done) | (simp; omega)) _) | assumption)))).mono ?_; rintro e w' ⟨rfl, rfl⟩) | (go_at_call 62; refine (HER.out _ (by (repeat (first | with_reducible (first | exact Below.refl _ _ | refine bl_alloc ?_ _ | refine bl_drew ?_ | refine bl_drewN ?_ _ | refine bl_bx ?_ _ | exact BX.below _ | refine bl_set ?_ (by first | (exact Nat.le_refl _) | (simp; done) | (simp; omega)) _) | assumption)))).mono ?_; rintro e w' ⟨rfl, rfl⟩) | (go_at_call 131; refine (HSA.out _).mono ?_; rintro e w' ⟨rfl, hb⟩; obtain ⟨x, rfl⟩ := bx_of hb; clear hb) | (go_at_call 132; (refine (HFI.out _ (HPX.out.bl0 (by (repeat (first | with_reducible (first | exact Below.refl _ _ | refine bl_alloc ?_ _ | refine bl_drew ?_ | refine bl_drewN ?_ _ | refine bl_bx ?_ _ | exact BX.below _ | refine bl_set ?_ (by first | (exact Nat.le_refl _) | (simp; done) | (simp; omega)) _) | assumption))))).mono ?_; rintro e w5 ⟨rfl, hX, hC⟩; have HX5 := Lib.hid hX; have HC5 := Lib.hid hC; clear hX hC)))
  have hq := HEQ.out
  simp only [Bool.false_eq_true, if_false] at hq
  refine bodyPost_ret (v := .tuple #[]) (by simp [results, Tryz.results107, go_sem]) rfl ?_
  rw [hq]
  exact ⟨rfl, HX5.out, (Ch.of_below (S := fun b => ¬ K b) (by (repeat (first | with_reducible (first | exact Below.refl _ _ | refine bl_alloc ?_ _ | refine bl_drew ?_ | refine bl_drewN ?_ _ | refine bl_bx ?_ _ | exact BX.below _ | refine bl_set ?_ (by first | (exact Nat.le_refl _) | (simp; done) | (simp; omega)) _) | assumption)))).trans HC5.out (fun _ hb _ => hb)⟩
 | true =>
  go_wp2_with (first | (go_at_call 61; refine (HLD.out _ (by (repeat (first | with_reducible (first | exact Below.refl _ _ | refine bl_alloc ?_ _ | refine bl_drew ?_ | refine bl_drewN ?_ _ | refine bl_bx ?_ _ | exact BX.below _ | refine bl_set ?_ (by first | (exact Nat.le_refl _) | (simp; done) | (simp; omega)) _) | assumption)))).mono ?_; rintro e w' ⟨rfl, rfl⟩) | (go_at_call 62; refine (HER.out _ (by (repeat (first | with_reducible (first | exact Below.refl _ _ | refine bl_alloc ?_ _ | refine bl_drew ?_ | refine bl_drewN ?_ _ | refine bl_bx ?_ _ | exact BX.below _ | refine bl_set ?_ (by first | (exact Nat.le_refl _) | (simp; done) | (simp; omega)) _) | assumption)))).mono ?_; rintro e w' ⟨rfl, rfl⟩) | (go_at_call 131; refine (HSA.out _).mono ?_; rintro e w' ⟨rfl, hb⟩; obtain ⟨x, rfl⟩ := bx_of hb; clear hb))
  obtain ⟨w7, hw7⟩ : ∃ w7, (x.w.setCell ⟨sb, q, none⟩ (.int .u64 v)).setCell ⟨c, 6, none⟩ (.int .i64 ((ld : Int) + 1)) = w7 := ⟨_, rfl⟩
  have hset := HSET.out x.w (by (repeat (first | with_reducible (first | exact Below.refl _ _ | refine bl_alloc ?_ _ | refine bl_drew ?_ | refine bl_drewN ?_ _ | refine bl_bx ?_ _ | exact BX.below _ | refine bl_set ?_ (by first | (exact Nat.le_refl _) | (simp; done) | (simp; omega)) _) | assumption)))
  rw [hw7] at hset
  have HSS := Lib.hid hset
  have hcl : Ch (fun b => b = c ∨ b = sb) w w7 := by
   rw [← hw7]
   exact ((Ch.of_below (S := fun b => b = c ∨ b = sb) (by (repeat (first | with_reducible (first | exact Below.refl _ _ | refine bl_alloc ?_ _ | refine bl_drew ?_ | refine bl_drewN ?_ _ | refine bl_bx ?_ _ | exact BX.below _ | refine bl_set ?_ (by first | (exact Nat.le_refl _) | (simp; done) | (simp; omega)) _) | assumption)))).setCell (a := ⟨sb, q, none⟩) (.inl (.inr rfl)) _).setCell (a := ⟨c, 6, none⟩) (.inl (.inl rfl)) _
  have g6 : w7.cell? ⟨c, 6, none⟩ = some (.int .i64 ((ld : Int) + 1)) := by rw [← hw7]; exact ((HCB.out.below (by (repeat (first | with_reducible (first | exact Below.refl _ _ | refine bl_alloc ?_ _ | refine bl_drew ?_ | refine bl_drewN ?_ _ | refine bl_bx ?_ _ | exact BX.below _ | refine bl_set ?_ (by first | (exact Nat.le_refl _) | (simp; done) | (simp; omega)) _) | assumption)))).far (p := ⟨sb, q, none⟩) hcs _ |>.set 6 _).cell 6
  have g4 : w7.cell? ⟨c, 4, none⟩ = some (.slice (some ⟨go, offo, none⟩) m ock) := by rw [← hw7, ← HOL.out]; exact ((HCB.out.below (by (repeat (first | with_reducible (first | exact Below.refl _ _ | refine bl_alloc ?_ _ | refine bl_drew ?_ | refine bl_drewN ?_ _ | refine bl_bx ?_ _ | exact BX.below _ | refine bl_set ?_ (by first | (exact Nat.le_refl _) | (simp; done) | (simp; omega)) _) | assumption)))).far (p := ⟨sb, q, none⟩) hcs _ |>.set 6 _).cell 4
  rw [hw7]
  clear hw7 hset hcl
  by_cases hlast : ld + 1 = m
  · have hb1 : ((ld : Int) + 1 == (m : Int)) = true := by rw [beq_iff_eq]; omega
    go_quiet (fail)
    go_wp2_with (go_at_call 109; refine (HEN.out _ (HSS.out.1.bl0 (by (repeat (first | with_reducible (first | exact Below.refl _ _ | refine bl_alloc ?_ _ | refine bl_drew ?_ | refine bl_drewN ?_ _ | refine bl_bx ?_ _ | exact BX.below _ | refine bl_set ?_ (by first | (exact Nat.le_refl _) | (simp; done) | (simp; omega)) _) | assumption)))) (HTC.out _ (HSS.out.2.trans (Ch.of_below (S := fun b => ¬ K b) (by (repeat (first | with_reducible (first | exact Below.refl _ _ | refine bl_alloc ?_ _ | refine bl_drew ?_ | refine bl_drewN ?_ _ | refine bl_bx ?_ _ | exact BX.below _ | refine bl_set ?_ (by first | (exact Nat.le_refl _) | (simp; done) | (simp; omega)) _) | assumption)))) (fun _ hb _ => hb)))).mono ?_; rintro e w5 ⟨rfl, hX, hC⟩; have HX5 := Lib.hid hX; have HC5 := Lib.hid hC; clear hX hC)
    go_end0
    have hq := HEQ.out
    simp only [if_true, if_pos hlast] at hq
    rw [hq]
    exact ⟨rfl, HX5.out, (HSS.out.2.trans (Ch.of_below (S := fun b => ¬ K b) (by (repeat (first | with_reducible (first | exact Below.refl _ _ | refine bl_alloc ?_ _ | refine bl_drew ?_ | refine bl_drewN ?_ _ | refine bl_bx ?_ _ | exact BX.below _ | refine bl_set ?_ (by first | (exact Nat.le_refl _) | (simp; done) | (simp; omega)) _) | assumption)))) (fun _ hb _ => hb)).trans HC5.out (fun _ hb _ => hb)⟩
  · have hb1 : ((ld : Int) + 1 == (m : Int)) = false := by rw [beq_eq_false_iff_ne]; omega
    go_quiet (fail)
    go_wp2
    go_end0
    have hq := HEQ.out
    simp only [if_true, if_neg hlast] at hq
    rw [hq]
    exact ⟨rfl, HSS.out.1.bl0 (by (repeat (first | with_reducible (first | exact Below.refl _ _ | refine bl_alloc ?_ _ | refine bl_drew ?_ | refine bl_drewN ?_ _ | refine bl_bx ?_ _ | exact BX.below _ | refine bl_set ?_ (by first | (exact Nat.le_refl _) | (simp; done) | (simp; omega)) _) | assumption))), HSS.out.2.trans (Ch.of_below (S := fun b => ¬ K b) (by (repeat (first | with_reducible (first | exact Below.refl _ _ | refine bl_alloc ?_ _ | refine bl_drew ?_ | refine bl_drewN ?_ _ | refine bl_bx ?_ _ | exact BX.below _ | refine bl_set ?_ (by first | (exact Nat.le_refl _) | (simp; done) | (simp; omega)) _) | assumption)))) (fun _ hb _ => hb)⟩
end
end Go.Proofs.YtaefkelaffijbaaGreatDoor
