/- Contracts of Encode and Decode of Option of Int. -/
import Derived.Test.YtlbgmoijepknbaaArrS
import Derived.Test.YtlbgmoijepknbaaC
namespace Go.Proofs.Ytlbgmoijepknbaa
open Go.RowKit
set_option linter.unusedVariables false

/-- A number that may be absent. -/
def PtrI (w : World) (p : Option Addr) (o : Option Int) : Prop :=
  (p = none ∧ o = none) ∨ ∃ b off n, p = some ⟨b, off, none⟩ ∧ o = some n ∧ b < w.heap.size ∧ w.cell? ⟨b, off, none⟩ = some (.int .i64 n)
theorem PtrI.below {w w' : World} {p : Option Addr} {o : Option Int} (h : PtrI w p o) (hb : Below w.heap.size w w') : PtrI w' p o := by
  rcases h with h | ⟨b, off, n, h1, h2, h3, h4⟩
  · exact .inl h
  · exact .inr ⟨b, off, n, h1, h2, Nat.lt_of_lt_of_le h3 hb.size, (hb.cell (p := ⟨b, off, none⟩) h3).trans h4⟩
def encO (o : Option Int) : List Int := match o with | some n => [1, IntKind.u64.wrap n] | none => [0, 0]

set_option maxRecDepth 100000 in
set_option maxHeartbeats 1000000 in
theorem optIEncode (w : World) (p : Option Addr) (o : Option Int) (hp : PtrI w p o)
    (g off c : Nat) (xs : List Int) (hb : IB .u64 26 w g xs) (ho : off + 2 ≤ xs.length) :
    Calls Try.prog 116 #[.agg #[.iface 80 (.agg #[])], .pointer p, .slice (some ⟨g, off, none⟩) 2 c] w
      fun e w' => EncPost w (some (encO o)) g off xs e w' := by
  have HB := Lib.hid hb
  have hgl := hb.lt
  have hmk := fun W => run_make_z (P := Try.prog) 31 26 .u64 .i64 .i64 2 2 (by omega) Try.underlying31 8 info_u64 (by omega) (by omega) W
  clear hb
  rcases hp with ⟨rfl, rfl⟩ | ⟨b, bo, n, rfl, rfl, hlt, hc⟩
  · go_enter Try.func116, Try.ntmps116
    go_wp2_with (go_at_call 117; refine (optIWords _).mono ?_; rintro e w' ⟨rfl, hb⟩; obtain ⟨x, rfl⟩ := bx_of hb; clear hb)
    obtain ⟨w1, hr1, hI1, hC1⟩ := run_copy_ints (P := Try.prog) (x.w.alloc (.cells (ia .u64 [0, 0]) 26)) 31 31 3 26 Try.underlying31 size_u64 .u64 26 (some ⟨g, off, none⟩) (some ⟨x.w.heap.size, 0, none⟩) 2 c 2 2 g off xs [0, 0] (HB.out.below (bl_alloc (bl_bx (bl_alloc (Below.refl _ _) _) x) _) hgl) rfl (fun _ => rfl) ho (IB.new x.w _).rd0
    have HR := Lib.hid hr1
    have HI1 := Lib.hid hI1
    have HC1 := Lib.hid hC1
    clear hr1 hI1 hC1
    rw [HR.out]
    go_wp2
    go_ret
    exact ⟨rfl, HI1.out, (Ch.of_below (bl_alloc (bl_bx (bl_alloc (Below.refl _ _) _) x) _)).trans HC1.out (fun _ h _ => h)⟩
  · have hltn : ¬ b = w.heap.size := by omega
    have hlt1 : b < w.heap.size + 1 := by omega
    go_enter Try.func116, Try.ntmps116
    go_wp2_with (go_at_call 117; refine (optIWords _).mono ?_; rintro e w' ⟨rfl, hb⟩; obtain ⟨x, rfl⟩ := bx_of hb; clear hb)
    have hbx : b < x.w.heap.size := x.lt_size (by simp; omega)
    have hxc : x.w.cell? ⟨b, bo, none⟩ = some (.int .i64 n) := (x.cell b bo (by simp; omega)).trans ((World.cell?_alloc_old _ _ ⟨b, bo, none⟩ (show b ≠ _ from hltn)).trans hc)
    have hwx : w.heap.size < x.w.heap.size := x.lt_size (by simp)
    refine wp_region_still_n 9 (by kernel_rfl) (by kernel_rfl) ?_
    simp only [List.take_succ_cons, List.take_zero, List.drop_succ_cons, List.drop_zero]
    repeat (go_big_quiet_step (fail))
    refine wpQuiet_nil ?_
    rintro _ ⟨nq, rfl⟩
    go_wp2_with fail
    refine (intEncode_ok _ _ _ _ [1, 0] _ ((IB.new (k := .u64) (e := 26) x.w [1, 0]).drewN _) (by simp)).mono ?_
    rintro e w2 ⟨rfl, hI2, hC2⟩
    obtain ⟨w1, hr1, hI1, hC1⟩ := run_copy_ints (P := Try.prog) w2 31 31 3 26 Try.underlying31 size_u64 .u64 26 (some ⟨g, off, none⟩) (some ⟨x.w.heap.size, 0, none⟩) 2 c 2 2 g off xs [1, IntKind.u64.wrap n] (((HB.out.below (bl_alloc (bl_bx (bl_alloc (Below.refl _ _) _) x) _) hgl).drewN nq).ch hC2 (by unfold At; have := x.size; simp at this; omega)) rfl (fun _ => rfl) ho hI2.rd0
    have HR := Lib.hid hr1
    have HI1 := Lib.hid hI1
    have HC1 := Lib.hid hC1
    have HC2 := Lib.hid hC2
    clear hr1 hI1 hC1 hI2 hC2
    go_wp2
    rw [HR.out]
    go_wp2
    go_ret
    exact ⟨rfl, HI1.out, ((Ch.of_below (bl_drewN (bl_alloc (bl_bx (bl_alloc (Below.refl _ _) _) x) _) nq)).trans HC2.out (fun b hb hb2 => by unfold At at hb; have := x.size; simp at this; omega)).trans HC1.out (fun _ h _ => h)⟩
end Go.Proofs.Ytlbgmoijepknbaa
