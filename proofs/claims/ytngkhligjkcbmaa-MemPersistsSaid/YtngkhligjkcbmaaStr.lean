/- clear of a slice of integers, the bytes of a string. -/
import Derived.Test.YtngkhligjkcbmaaLib
import Derived.Lib.ConvBytes
namespace Go.Proofs.Ytngkhligjkcbmaa
open Go.RowKit
set_option linter.unusedVariables false

theorem run_clear_ints {P : Program} (w : World) (t ty elem : TypeId) (k : IntKind) (e : TypeId) (ht : P.underlying t = some (.slice elem)) (hz : (zeroValue elem).run P w = .ok (.int k 0) w)
    (g off n c : Nat) (xs : List Int) (hb : IB k e w g xs) (hn : 0 < n) (hfit : off + n ≤ xs.length) :
    ∃ w', (Builtin.clear_ #[t] ty #[.slice (some ⟨g, off, none⟩) n c]).run P w = .ok (.tuple #[]) w' ∧ IB k e w' g (splice xs off (List.replicate n 0)) ∧ Ch (At g) w w' := by
  have hzc : (Builtin.zeroCells (Value.cells (.int k 0)) n).toList = (List.replicate n (0 : Int)).map (Value.int k) := by
    apply List.ext_getElem
    · simp [Builtin.zeroCells, Value.cells]
    · intro i h1 h2
      simp [Builtin.zeroCells, Value.cells, Nat.mod_one]
  unfold IB ia at hb
  have hst := run_storeCells_at P g off e ((List.replicate n (0 : Int)).map (Value.int k)) 0 (xs.map (Value.int k)).toArray w hb (by simpa using hfit) (fun v hv => by
    obtain ⟨y, _, rfl⟩ := List.mem_map.1 hv
    rfl)
  simp only [Nat.add_zero] at hst
  obtain ⟨m, rfl⟩ : ∃ m, n = m + 1 := ⟨n - 1, by omega⟩
  refine ⟨w.setRow g ((xs.map (Value.int k)).toArray.toList.take off ++ (List.replicate (m + 1) (0 : Int)).map (Value.int k) ++ (xs.map (Value.int k)).toArray.toList.drop (off + ((List.replicate (m + 1) (0 : Int)).map (Value.int k)).length)).toArray, ?_, ?_, ch_setRow g _⟩
  · unfold Builtin.clear_
    simp [run_underlying ht, hz, hzc, hst, -List.map_replicate]
  · have h1 := setRow_heap w g _ ((xs.map (Value.int k)).toArray.toList.take off ++ (List.replicate (m + 1) (0 : Int)).map (Value.int k) ++ (xs.map (Value.int k)).toArray.toList.drop (off + ((List.replicate (m + 1) (0 : Int)).map (Value.int k)).length)).toArray e (0, 0) hb
    unfold IB ia
    rw [map_splice]
    simpa [splice] using h1

theorem run_bytes_strA {P : Program} (w : World) (src dst e : TypeId) (hs : P.underlying src = some (.slice e)) (he : P.underlying e = some (.int .u8)) (hd : P.underlying dst = some .string)
    (A : Option Addr) (hA : A = none ∨ ∃ g, A = some ⟨g, 0, none⟩) (n c : Nat) (ns : List Int) (hn : ns.length = n) (h : Rd .u8 w A ns) :
    (convert src dst (.slice A n c)).run P w = .ok (.string (strOf ns)) w := by
  rcases hA with rfl | ⟨g, rfl⟩
  · have : ns = [] := by
      rcases h with h | ⟨b, off, h, _⟩
      · exact h
      · cases h
    subst this
    subst hn
    rw [run_convert_bytes_string w src dst e _ _ _ hs he hd]
    simp [Conv.bytesToString, strOf]
    rfl
  · exact run_bytes_str w src dst e hs he hd g 0 n c ns hn h

/-- The bytes of a string, as numbers. -/
def bytesOf (s : ByteArray) : List Int := s.data.toList.map fun b => (b.toNat : Int)
theorem length_bytesOf (s : ByteArray) : (bytesOf s).length = s.size := by simp [bytesOf]
theorem bytesOf_bound (s : ByteArray) : ∀ b ∈ bytesOf s, 0 ≤ b ∧ b ≤ 255 := by
  intro b hb
  obtain ⟨c, _, rfl⟩ := List.mem_map.1 hb
  have := c.toNat_lt
  omega
theorem bytesWorld_below (w : World) (e : TypeId) (s : ByteArray) : Below w.heap.size w (Lib.bytesWorld w e s) :=
  ⟨by simp [Lib.bytesWorld, World.freeze, World.alloc, World.drew, -World.alloc_eq, -World.drew_eq], by simp [Lib.bytesWorld, World.freeze, World.alloc, World.drew, -World.alloc_eq, -World.drew_eq], by simp [Lib.bytesWorld, World.freeze, World.alloc, World.drew, -World.alloc_eq, -World.drew_eq],
    by rw [Lib.bytesWorld_size]; omega, fun k hk => Lib.bytesWorld_at_old w e s k hk⟩
theorem rd_bytesWorld (w : World) (e : TypeId) (s : ByteArray) : Rd .u8 (Lib.bytesWorld w e s) (some ⟨w.heap.size, 0, none⟩) (bytesOf s) := by
  refine .inr ⟨w.heap.size, 0, rfl, by rw [Lib.bytesWorld_size]; omega, fun i hi => ?_⟩
  rw [length_bytesOf] at hi
  rw [Nat.zero_add, Lib.bytesWorld_cell w e s i hi]
  have hi' : i < s.data.toList.length := by simpa using hi
  simp only [bytesOf, List.getElem_map]
  rw [List.getD, List.getElem?_eq_getElem hi']
  rfl
theorem strOf_bytesOf (s : ByteArray) : strOf (bytesOf s) = s := by
  unfold strOf bytesOf
  have : s.data.toList.map ((fun n : Int => UInt8.ofNat n.toNat) ∘ fun b : UInt8 => (b.toNat : Int)) = s.data.toList := by
    conv => rhs; rw [← List.map_id s.data.toList]
    apply List.map_congr_left
    intro b _
    simp
  rw [List.map_map, this]
theorem bytesOf_strOf (l : List Int) (h : ∀ b ∈ l, 0 ≤ b ∧ b ≤ 255) : bytesOf (strOf l) = l := by
  unfold strOf bytesOf
  simp only [List.map_map]
  apply List.ext_getElem
  · simp
  · intro i h1 h2
    have := h l[i] (List.getElem_mem h2)
    simp
    omega
end Go.Proofs.Ytngkhligjkcbmaa
