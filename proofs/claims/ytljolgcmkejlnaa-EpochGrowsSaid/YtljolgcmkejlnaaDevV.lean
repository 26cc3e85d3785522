/- Contracts of what reads a device, over a device with a footprint; a device that is on. -/
import Derived.Test.YtljolgcmkejlnaaMemA
import Derived.Test.YtljolgcmkejlnaaDevP
namespace Go.Proofs.Ytljolgcmkejlnaa
open Go.RowKit
set_option linter.unusedVariables false

section
variable {F : Nat → Prop} {d : Nat} {t : Nat → Nat} {w : World} {S : DevS} {N : Nat}
theorem vLoad (h : DV F d t w S) (i : Nat) (hi : i < 8) (hO : S.off = false) (k : Nat) (v : Int) (hk : S.cur[k]? = some v) :
    Calls Try.prog 42 #[.pointer (some ⟨t i, 0, none⟩), .int .u64 (8 * (k : Int))] w fun e w' => e = .returned (.int .u64 v) ∧ w = w' := by
  obtain ⟨_, L, rfl, h3, _⟩ := h
  obtain ⟨hl, hv⟩ := List.getElem?_eq_some_iff.1 hk
  have := thLoad_ok w d L S h3 i hi hO k hl
  rwa [hv] at this
theorem vErr (h : DV F d t w S) (i : Nat) (hi : i < 8) : Calls Try.prog 36 #[.pointer (some ⟨t i, 0, none⟩)] w fun e w' => e = .returned (.int .i64 (S.thr i).err) ∧ w = w' := by
  obtain ⟨_, L, rfl, h3, _⟩ := h
  exact thErr w d L S h3 i hi
theorem vSize (h : DV F d t w S) (i : Nat) (hi : i < 8) : Calls Try.prog 103 #[.pointer (some ⟨t i, 0, none⟩)] w fun e w' => e = .returned (.int .u64 ((S.lns.length : Int) * 64)) ∧ w = w' := by
  obtain ⟨_, L, rfl, h3, _⟩ := h
  exact thSize w d L S h3 i hi
theorem vThread (h : DV F d t w S) (i : Nat) (hi : i < 8) : Calls Try.prog 26 #[.pointer (some ⟨d, 0, none⟩), .int .i64 (i : Int)] w fun e w' => e = .returned (.pointer (some ⟨t i, 0, none⟩)) ∧ w = w' := by
  obtain ⟨_, L, rfl, h3, _⟩ := h
  exact devThread w d L S h3 i hi
end
/-- A device of n lines that is on, with those words. -/
structure On (S : DevS) (n : Nat) (xs : List Int) (N : Nat) : Prop where
  good : Good S N
  nl : S.lns.length = n
  cur : S.cur = xs
  off : S.off = false
  armed : S.armed = false
  err : ∀ j, (S.thr j).err = 0
theorem new_on (xs : List Int) (n : Nat) (hx : xs.length = 8 * n) : On (newS xs n) n xs 0 := by
  refine ⟨⟨by simpa [newS] using hx, by simpa [newS] using hx, fun q l hl => ?_, fun i hi => ⟨Nat.le_refl _, fun x c hc => by simp [newS] at hc⟩⟩, by simp [newS], rfl, rfl, rfl, fun _ => rfl⟩
  simp only [newS, List.getElem?_replicate] at hl
  split at hl
  · injection hl with hl; subst hl; simp
  · cases hl
theorem On.length {S : DevS} {n : Nat} {xs : List Int} {N : Nat} (h : On S n xs N) : xs.length = 8 * n := by rw [← h.cur, h.good.nc, h.nl]
theorem On.mono {S : DevS} {n : Nat} {xs : List Int} {N M : Nat} (h : On S n xs N) (hM : N ≤ M) : On S n xs M := ⟨h.good.mono hM, h.nl, h.cur, h.off, h.armed, h.err⟩
theorem On.store {S : DevS} {n : Nat} {xs : List Int} {N : Nat} (h : On S n xs N) (i k : Nat) (hk : k < 8 * n) (v : Int) : On (S.store i (8 * (k : Int)) v) n (xs.set k v) (N + 1) := by
  have hG := h.good.store i (8 * (k : Int)) v (by omega)
  have hw : S.wordB (8 * (k : Int)) = true := by unfold DevS.wordB; simp [h.nl]; omega
  have hq : ((8 * (k : Int)) / 8).toNat = k := by omega
  have hE : S.store i (8 * (k : Int)) v = ({ S with exec := IntKind.u64.wrap (S.exec + 1) } : DevS).write k v := by
    unfold DevS.store
    rw [hw, hq]
    simp [DevS.cntB, DevS.cnt, DevS.onB, h.off, h.armed]
  rw [hE] at hG ⊢
  exact ⟨hG, by simp [DevS.write, h.nl], by show S.cur.set k v = _; rw [h.cur], h.off, h.armed, h.err⟩
/-- What a thread loads. -/
def LdV (T : Nat) (xs : List Int) (w : World) : Prop := ∀ W, Below w.heap.size w W → ∀ (k : Nat) (v : Int), xs[k]? = some v → Calls Try.prog 42 #[.pointer (some ⟨T, 0, none⟩), .int .u64 (8 * (k : Int))] W fun e w' => e = .returned (.int .u64 v) ∧ W = w'
theorem LdV.below {T : Nat} {xs : List Int} {w w' : World} (h : LdV T xs w) (hb : Below w.heap.size w w') : LdV T xs w' := fun W hW => h W (hb.trans (hW.mono hb.size))
theorem ldV {F : Nat → Prop} {d : Nat} {t : Nat → Nat} {w : World} {S : DevS} {n N : Nat} {xs : List Int} (h : DV F d t w S) (hO : On S n xs N) (i : Nat) (hi : i < 8) : LdV (t i) xs w :=
  fun W hW k v hk => vLoad (h.below hW) i hi hO.off k v (by rw [hO.cur]; exact hk)
end Go.Proofs.Ytljolgcmkejlnaa
