/- Decode of the record of the statements, for words of any number. -/
import Derived.Test.YtlbgmoijepknbaaGreatPairV
namespace Go.Proofs.YtlbgmoijepknbaaGreat
open Go.RowKit
set_option linter.unusedVariables false

def decW (xs : List Int) : Option (Bool × List ByteArray × Option Int) := if xs.length = 10 then decV xs else none

set_option maxRecDepth 100000 in
set_option maxHeartbeats 1000000 in
theorem pairBDecode_len (w : World) (A : Option Addr) (n c : Nat) (hn : n ≠ 10) :
    Calls Tryz.prog 115 #[.agg #[.iface 81 (.agg #[]), .iface 93 (.agg #[.iface 85 (.agg #[.int .i64 2, .iface 74 (.agg #[])]), .iface 87 (.agg #[.iface 62 (.agg #[])])])], .slice A n c] w (DecVPost w none) := by
  have h1 : ((n : Int) != 10) = true := by rw [bne_iff_ne]; omega
  go_enter Tryz.func115, Tryz.ntmps115
  go_wp2_with (first | (go_at_call 117; refine (pairBWords _).mono ?_; rintro e w' ⟨rfl, hb⟩; obtain ⟨x, rfl⟩ := bx_of hb; clear hb; have hx0 : w.heap.size < x.w.heap.size := x.lt_size (by first | (simp; done) | (simp; omega) | omega); have hx1 : w.heap.size + 1 < x.w.heap.size := x.lt_size (by first | (simp; done) | (simp; omega) | omega); have hx2 : w.heap.size + 1 + 1 < x.w.heap.size := x.lt_size (by first | (simp; done) | (simp; omega) | omega); have hx3 : w.heap.size + 1 + 1 + 1 < x.w.heap.size := x.lt_size (by first | (simp; done) | (simp; omega) | omega)))
  exact bodyPost_ret (v := .tuple #[.agg #[.bool false, .slice none 0 0, .pointer none], .bool false]) (by simp [results, Tryz.results115, go_sem]) rfl ⟨(by repeat (first | with_reducible exact Below.refl _ _ | with_reducible refine bl_alloc ?_ _ | with_reducible refine bl_drew ?_ | with_reducible refine bl_drewN ?_ _ | with_reducible refine bl_bx ?_ _ | with_reducible exact BX.below _ | with_reducible refine bl_set ?_ (by first | (exact Nat.le_refl _) | (simp; done) | (simp; omega)) _ | assumption)), rfl⟩

theorem pairBDecode_any (w : World) (A : Option Addr) (n c : Nat) (xs : List Int) (hn : xs.length = n) (hc : n ≤ c) (hR : Rd .u64 w A xs) (hw : U64s xs) :
    Calls Tryz.prog 115 #[.agg #[.iface 81 (.agg #[]), .iface 93 (.agg #[.iface 85 (.agg #[.int .i64 2, .iface 74 (.agg #[])]), .iface 87 (.agg #[.iface 62 (.agg #[])])])], .slice A n c] w (DecVPost w (decW xs)) := by
  unfold decW
  by_cases h : n = 10
  · subst h
    rw [if_pos hn]
    obtain ⟨g, off, rfl, hg, _⟩ := hR.at_ (i := 0) (by omega)
    exact pairBDecode w g off c xs hn hc hR hg hw
  · rw [if_neg (by omega)]
    exact pairBDecode_len w A n c h
end Go.Proofs.YtlbgmoijepknbaaGreat
