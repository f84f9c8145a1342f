/- Contracts of the reference's groups, fromGroups. Conditions: a text is shorter than 2^32. -/
import Derived.Test.YtpaplobjmmpliaaGreatDoorAs
import Derived.Test.YtpaplobjmmpliaaGreatDoorAt
namespace Go.Proofs.YtpaplobjmmpliaaGreatDoor.Ad
set_option linter.unusedVariables false
set_option linter.unusedSimpArgs false
open Go.RowKit W
def enI (n : Int) : Value := .int .i64 n
theorem el_int : Elem Tryz.prog 3 := ⟨.int .i64 0, 8, by kernel_rfl, rfl, by decide⟩
theorem empty_of {s : ByteArray} (h : s.size = 0) : s = ⟨#[]⟩ := by
  obtain ⟨b⟩ := s
  have : b.size = 0 := h
  rw [Array.size_eq_zero_iff.1 this]
theorem nums_step {ps : List (List UInt8)} {k : Nat} {done : List Int} (h : nums ps = (nums (ps.drop k)).map (done ++ ·)) (hk : k < ps.length) :
    (numV (ps.getD k []) 16 4 < 0 → nums ps = none) ∧ (¬ numV (ps.getD k []) 16 4 < 0 → nums ps = (nums (ps.drop (k + 1))).map ((done ++ [numV (ps.getD k []) 16 4]) ++ ·)) := by
  have hd : ps.drop k = ps.getD k [] :: ps.drop (k + 1) := by rw [List.drop_eq_getElem_cons hk, List.getD_eq_getElem?_getD, List.getElem?_eq_getElem hk]; rfl
  constructor
  · intro hn; rw [h, hd, nums, if_pos hn]; rfl
  · intro hn; rw [h, hd, nums, if_neg hn, Option.map_map]
    congr 1
    funext x; simp
theorem nums_end {ps : List (List UInt8)} {k : Nat} {done : List Int} (h : nums ps = (nums (ps.drop k)).map (done ++ ·)) (hk : ps.length ≤ k) : nums ps = some done := by
  rw [h, List.drop_eq_nil_of_le hk]; simp [nums]
def GroupsPost (r : Option (List Int)) (w : World) (e : Ending) (w' : World) : Prop := ∃ v, e = .returned (.tuple #[v, .bool r.isSome]) ∧ Row enI w' w.heap.size 3 v (r.getD []) ∧ Below w.heap.size w w'
theorem cutsB_getD (c : UInt8) (s : ByteArray) (k : Nat) (hk : k < (cutsB c s).length) : ∃ p : ByteArray, (cutsB c s)[k]? = some p ∧ p.data.toList = (cuts c s.data.toList).getD k [] ∧ p.size ≤ s.size := by
  refine ⟨(cutsB c s)[k], List.getElem?_eq_getElem hk, ?_, ?_⟩
  · rw [List.getD_eq_getElem?_getD, List.getElem?_eq_getElem (by rw [cutsB_len] at hk; exact hk)]; simp [cutsB]
  · have h1 : k < (cuts c s.data.toList).length := by rw [cutsB_len] at hk; exact hk
    have := cuts_short c s.data.toList ((cuts c s.data.toList)[k]) (List.getElem_mem _)
    have e : (cutsB c s)[k].size = ((cuts c s.data.toList)[k]).length := by simp [cutsB, ByteArray.size]
    rw [e]; simpa using this
theorem byte_div (n : Int) (h0 : 0 ≤ n) (h1 : n ≤ 65535) : ((UInt8.ofNat (n / 256).toNat).toNat : Int) = n / 256 := by
  rw [UInt8.toNat_ofNat', Nat.mod_eq_of_lt (by omega)]; omega
theorem byte_mod (n : Int) (h0 : 0 ≤ n) : ((UInt8.ofNat (n % 256).toNat).toNat : Int) = n % 256 := by
  rw [UInt8.toNat_ofNat', Nat.mod_eq_of_lt (by omega)]; omega
/-- One byte more in the block of an address. -/
theorem part_round {wr : World} {g m : Nat} {v y : Int} {f : Nat → UInt8} (hm : m < 16) (hy : y = ((f m).toNat : Int)) (r : Blk wr g 35 (Addr.cells ⟨v, partF f m⟩)) :
    Blk (wr.setCell ⟨g, 1 + m, none⟩ (.int .u8 y)) g 35 (Addr.cells ⟨v, partF f (m + 1)⟩) := by
  have := r.set_ (1 + m) (.int .u8 y)
  rwa [hy, cells_set, partF_set _ _ hm, ← hy] at this
theorem part_ok (v : Int) (f : Nat → UInt8) (m : Nat) : Addr.ok ⟨v, partF f m⟩ := partF_len f m
end Go.Proofs.YtpaplobjmmpliaaGreatDoor.Ad
