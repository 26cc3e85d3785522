/- Contract of Crash of a device, over a contract of Image. -/
import Derived.Test.YtljolgcmkejlnaaCrE
namespace Go.Proofs.Ytljolgcmkejlnaa
open Go.RowKit
set_option linter.unusedVariables false

/-- What Crash leaves: a new device, whose words are persistent words of a crash image. -/
def CrashPost (w : World) (S : DevS) (n : Nat) (e : Ending) (w' : World) : Prop :=
  ∃ d L K, e = .returned (.pointer (some ⟨d, 0, none⟩)) ∧ (∀ q l, S.lns[q]? = some l → K q ≤ l.hist.length) ∧ Dev w' d L (newS (S.upto K).pers n) ∧ (∀ b, Fp L b → w.heap.size ≤ b) ∧ Below w.heap.size w w'
set_option maxRecDepth 100000 in
set_option maxHeartbeats 2000000 in
theorem devCrash (w : World) (d : Nat) (S : DevS) (n : Nat) (h1 : 1 ≤ n) (h2 : n ≤ 4096) (hp : S.pers.length = 8 * n) (hf : ∀ K, (∀ q l, S.lns[q]? = some l → K q ≤ l.hist.length) → Fits (S.upto K).pers) (A : Option Addr) (m c : Nat)
    (hI : Calls Try.prog 50 #[.pointer (some ⟨d, 0, none⟩), .slice A m c] w (ImgPost w S)) :
    Calls Try.prog 28 #[.pointer (some ⟨d, 0, none⟩), .slice A m c] w (CrashPost w S n) := by
  have HI := Lib.hid hI
  have HF := Lib.hid hf
  have HP := Lib.hid hp
  clear hI hf hp
  go_enter Try.func28, Try.ntmps28
  go_wp2_with (first
    | (go_at_call 50; refine HI.out.mono ?_; rintro e w1 ⟨g, K, rfl, hK, hb, hg, hB⟩; rw [HP.out, show 8 * (8 * n) = 64 * n by omega]; have HK := Lib.hid hK; have HB := Lib.hid hb; have HG := Lib.hid hg; have HBL := Lib.hid hB; clear hK hb hg hB)
    | (go_at_call 49; refine (devFrom w1 (some ⟨g, 0, none⟩) n _ (S.upto K).pers h1 h2 (by rw [(length_upto K).1]; exact HP.out) (HF.out K HK.out) (.inr ⟨g, 0, rfl, HB.out.lt, fun i hi => by rw [Nat.zero_add]; exact HB.out.cell hi⟩)).mono ?_; rintro e w2 ⟨d2, L2, rfl, hD, hB2, hF2⟩; have HD := Lib.hid hD; have HB2 := Lib.hid hB2; have HF2 := Lib.hid hF2; clear hD hB2 hF2))
  go_ret
  exact ⟨d2, L2, K, rfl, HK.out, HD.out, fun b hb => Nat.le_trans HBL.out.size (HF2.out b hb), HBL.out.trans (HB2.out.mono HBL.out.size)⟩
end Go.Proofs.Ytljolgcmkejlnaa
