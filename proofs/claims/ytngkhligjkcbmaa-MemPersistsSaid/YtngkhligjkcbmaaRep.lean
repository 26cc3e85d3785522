/- Contract of slices.Repeat of one number, and of the law's blank. -/
import Derived.Test.YtngkhligjkcbmaaProg
import Derived.Test.YtngkhligjkcbmaaLib
import Derived.Test.YtngkhligjkcbmaaMul
namespace Go.Proofs.Ytngkhligjkcbmaa
open Go.RowKit

theorem info_u64 : (Try.prog.info? 30).map (fun i => (i.zero, i.size, i.bytes)) = some (some (.int .u64 0), 1, 8) := by kernel_rfl
theorem size_u64 : (Try.prog.info? 30).map (·.size) = some 1 := by kernel_rfl

theorem rep_splice0 (n : Nat) (v : Int) (ys : List Int) (h : ys = List.replicate (min 1 n) v) : splice (List.replicate n (0 : Int)) 0 ys = List.replicate (min 1 n) v ++ List.replicate (n - min 1 n) 0 := by
  subst h; simp [splice]
theorem rep_splice (n k m : Nat) (v : Int) (hm : m = min k (n - k)) (hk : k ≤ n) : splice (List.replicate k v ++ List.replicate (n - k) 0) k (List.replicate m v) = List.replicate (k + m) v ++ List.replicate (n - (k + m)) 0 := by
  subst hm
  unfold splice
  rw [List.take_left' (by simp), List.length_replicate, List.drop_append, List.length_replicate, List.drop_of_length_le (by simp), ← List.append_assoc, List.replicate_append_replicate]
  simp only [List.nil_append, List.drop_replicate]
  congr 2
  omega

end Go.Proofs.Ytngkhligjkcbmaa
