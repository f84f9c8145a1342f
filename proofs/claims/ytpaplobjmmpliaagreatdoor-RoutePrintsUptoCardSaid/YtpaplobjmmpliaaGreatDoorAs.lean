/- Contract of the reference's pieces. Conditions: a text is shorter than 2^32. -/
import Derived.Test.YtpaplobjmmpliaaGreatDoorAq
import Derived.Test.YtpaplobjmmpliaaGreatDoorBr
namespace Go.Proofs.YtpaplobjmmpliaaGreatDoor.Ad
set_option linter.unusedVariables false
set_option linter.unusedSimpArgs false
open Go.RowKit W
theorem el_str : Elem Tryz.prog 9 := ⟨.string ByteArray.empty, 16, by kernel_rfl, rfl, by decide⟩
def Pc (s : ByteArray) (c : UInt8) (k f : Nat) (done : List ByteArray) : Prop :=
  done.length ≤ s.size + 1 ∧ ((k ≤ s.size ∧ f ≤ k ∧ done.map (·.data.toList) ++ cuts c (s.data.toList.drop f) = cuts c s.data.toList ∧ ∀ j, f ≤ j → j < k → s.data.toList.getD j 0 ≠ c) ∨ (k = s.size + 1 ∧ done = cutsB c s))
theorem toList_mk (s : ByteArray) : (⟨s.data.toList.toArray⟩ : ByteArray) = s := by simp
theorem cutsB_of {s : ByteArray} {c : UInt8} {done : List ByteArray} (h : done.map (·.data.toList) = cuts c s.data.toList) : done = cutsB c s := by
  unfold cutsB
  rw [← h, List.map_map]
  have : ((fun l : List UInt8 => (⟨l.toArray⟩ : ByteArray)) ∘ fun x : ByteArray => x.data.toList) = id := by
    funext x; simp
  rw [this, List.map_id]
theorem extract_toList (s : ByteArray) (f k : Nat) : (s.extract f k).data.toList = (s.data.toList.drop f).take (k - f) := by
  rw [Lib.extract_data]
theorem not_mem_take {s : ByteArray} {c : UInt8} {f k : Nat} (hk : k ≤ s.size) (h : ∀ j, f ≤ j → j < k → s.data.toList.getD j 0 ≠ c) : c ∉ (s.data.toList.drop f).take (k - f) := by
  intro hm
  obtain ⟨i, hi, he⟩ := List.mem_iff_getElem.1 hm
  simp at hi
  refine h (f + i) (by omega) (by omega) ?_
  rw [List.getD_eq_getElem?_getD, List.getElem?_eq_getElem (by simp; omega)]
  simpa using he
theorem Pc.start (s : ByteArray) (c : UInt8) : Pc s c 0 0 [] := ⟨by simp, .inl ⟨by omega, by omega, rfl, fun j _ hj => by omega⟩⟩
theorem Pc.next {s : ByteArray} {c : UInt8} {k f : Nat} {done : List ByteArray} (h : Pc s c k f done) (hk : k < s.size) (hx : s[k] ≠ c) : Pc s c (k + 1) f done := by
  obtain ⟨h0, h1 | h1⟩ := h
  · refine ⟨h0, .inl ⟨by omega, by omega, h1.2.2.1, fun j h2 h3 => ?_⟩⟩
    rcases Nat.lt_or_ge j k with h4 | h4
    · exact h1.2.2.2 j h2 h4
    · rw [show j = k by omega, byte_toList s k hk]; exact hx
  · omega
theorem Pc.cut {s : ByteArray} {c : UInt8} {k f : Nat} {done : List ByteArray} (h : Pc s c k f done) (hk : k < s.size) (hx : s[k] = c) : Pc s c (k + 1) (k + 1) (done ++ [s.extract f k]) := by
  obtain ⟨h0, h1 | h1⟩ := h
  · obtain ⟨_, h2, h3, h4⟩ := h1
    have hs : s.data.toList.drop f = (s.data.toList.drop f).take (k - f) ++ c :: s.data.toList.drop (k + 1) := by
      have h5 := List.take_append_drop (k - f) (s.data.toList.drop f)
      rw [List.drop_drop, show f + (k - f) = k by omega, drop_byte s k hk, hx] at h5
      exact h5.symm
    have key : (done ++ [s.extract f k]).map (·.data.toList) ++ cuts c (s.data.toList.drop (k + 1)) = cuts c s.data.toList := by
      rw [← h3, hs, cuts_at c _ _ (not_mem_take (by omega) h4), List.map_append, List.map_cons, List.map_nil, extract_toList, List.append_assoc]; rfl
    refine ⟨?_, .inl ⟨by omega, by omega, key, fun j _ _ => by omega⟩⟩
    have h6 := congrArg List.length key
    have h7 := cuts_le c s.data.toList
    have h8 := List.length_pos_iff.2 (cuts_ne c (s.data.toList.drop (k + 1)))
    simp at h6 h7 ⊢
    omega
  · omega
theorem Pc.last {s : ByteArray} {c : UInt8} {f : Nat} {done : List ByteArray} (h : Pc s c s.size f done) : Pc s c (s.size + 1) (s.size + 1) (done ++ [s.extract f s.size]) := by
  obtain ⟨h0, h1 | h1⟩ := h
  · obtain ⟨_, h2, h3, h4⟩ := h1
    have hn := not_mem_take (Nat.le_refl _) h4
    rw [List.take_of_length_le (by simp)] at hn
    have key : (done ++ [s.extract f s.size]).map (·.data.toList) = cuts c s.data.toList := by
      rw [← h3, cuts_none c _ hn, List.map_append, List.map_cons, List.map_nil, extract_toList, List.take_of_length_le (by simp)]
    refine ⟨?_, .inr ⟨rfl, cutsB_of key⟩⟩
    have h6 := congrArg List.length key
    have h7 := cuts_le c s.data.toList
    simp at h6 h7 ⊢
    omega
  · omega
theorem Pc.done {s : ByteArray} {c : UInt8} {f k : Nat} {done : List ByteArray} (h : Pc s c k f done) (hk : s.size < k) : done = cutsB c s := by
  obtain ⟨_, h1 | h1⟩ := h
  · omega
  · exact h1.2
theorem Pc.from_le {s : ByteArray} {c : UInt8} {f k : Nat} {done : List ByteArray} (h : Pc s c k f done) (hk : k ≤ s.size) : f ≤ k := by
  obtain ⟨_, h1 | h1⟩ := h
  · exact h1.2.1
  · omega
def PiecesPost (s : ByteArray) (c : UInt8) (w : World) (e : Ending) (w' : World) : Prop := ∃ v, e = .returned v ∧ Row Value.string w' w.heap.size 9 v (cutsB c s) ∧ Below w.heap.size w w'
end Go.Proofs.YtpaplobjmmpliaaGreatDoor.Ad
