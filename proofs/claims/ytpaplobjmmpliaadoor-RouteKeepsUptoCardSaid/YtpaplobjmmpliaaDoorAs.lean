/- Contract of the reference's pieces. Conditions: a text is shorter than 2^32. -/
import Derived.Test.YtpaplobjmmpliaaDoorAq
import Derived.Test.YtpaplobjmmpliaaDoorBr
namespace Go.Proofs.YtpaplobjmmpliaaDoor.Ad
set_option linter.unusedVariables false
set_option linter.unusedSimpArgs false
open Go.RowKit W
theorem el_str : Elem Tryd.prog 9 := ⟨.string ByteArray.empty, 16, by kernel_rfl, rfl, by decide⟩
def Pc (s : ByteArray) (c : UInt8) (k f : Nat) (done : List ByteArray) : Prop :=
  done.length ≤ s.size + 1 ∧ ((k ≤ s.size ∧ f ≤ k ∧ done.map (·.data.toList) ++ cuts c (s.data.toList.drop f) = cuts c s.data.toList ∧ ∀ j, f ≤ j → j < k → s.data.toList.getD j 0 ≠ c) ∨ (k = s.size + 1 ∧ done = cutsB c s))
theorem toList_mk (s : ByteArray) : (⟨s.data.toList.toArray⟩ : ByteArray) = s := by simp
theorem cutsB_of {s : ByteArray} {c : UInt8} {done : List ByteArray} (h : done.map (·.data.toList) = cuts c s.data.toList) : done = cutsB c s := by
  unfold cutsB
  rw [← h, List.map_map]
  have : ((fun l : List UInt8 => (⟨l.toArray⟩ : ByteArray)) ∘ fun x : ByteArray => x.data.toList) = id := by
    funext x; simp
  rw [this, List.map_id]
theorem extract_toList (s : ByteArray) (f k : Nat) : (s.extract f k).data.toList = (s.data.toList.drop f).take (k - f) := by
  rw [Lib.extract_data]
theorem not_mem_take {s : ByteArray} {c : UInt8} {f k : Nat} (hk : k ≤ s.size) (h : ∀ j, f ≤ j → j < k → s.data.toList.getD j 0 ≠ c) : c ∉ (s.data.toList.drop f).take (k - f) := by
  intro hm
  obtain ⟨i, hi, he⟩ := List.mem_iff_getElem.1 hm
  simp at hi
  refine h (f + i) (by omega) (by omega) ?_
  rw [List.getD_eq_getElem?_getD, List.getElem?_eq_getElem (by simp; omega)]
  simpa using he
theorem Pc.start (s : ByteArray) (c : UInt8) : Pc s c 0 0 [] := ⟨by simp, .inl ⟨by omega, by omega, rfl, fun j _ hj => by omega⟩⟩
theorem Pc.next {s : ByteArray} {c : UInt8} {k f : Nat} {done : List ByteArray} (h : Pc s c k f done) (hk : k < s.size) (hx : s[k] ≠ c) : Pc s c (k + 1) f done := by
  obtain ⟨h0, h1 | h1⟩ := h
  · refine ⟨h0, .inl ⟨by omega, by omega, h1.2.2.1, fun j h2 h3 => ?_⟩⟩
    rcases Nat.lt_or_ge j k with h4 | h4
    · exact h1.2.2.2 j h2 h4
    · rw [show j = k by omega, byte_toList s k hk]; exact hx
  · omega
theorem Pc.cut {s : ByteArray} {c : UInt8} {k f : Nat} {done : List ByteArray} (h : Pc s c k f done) (hk : k < s.size) (hx : s[k] = c) : Pc s c (k + 1) (k + 1) (done ++ [s.extract f k]) := by
  obtain ⟨h0, h1 | h1⟩ := h
  · obtain ⟨_, h2, h3, h4⟩ := h1
    have hs : s.data.toList.drop f = (s.data.toList.drop f).take (k - f) ++ c :: s.data.toList.drop (k + 1) := by
      have h5 := List.take_append_drop (k - f) (s.data.toList.drop f)
      rw [List.drop_drop, show f + (k - f) = k by omega, drop_byte s k hk, hx] at h5
      exact h5.symm
    have key : (done ++ [s.extract f k]).map (·.data.toList) ++ cuts c (s.data.toList.drop (k + 1)) = cuts c s.data.toList := by
      rw [← h3, hs, cuts_at c _ _ (not_mem_take (by omega) h4), List.map_append, List.map_cons, List.map_nil, extract_toList, List.append_assoc]; rfl
    refine ⟨?_, .inl ⟨by omega, by omega, key, fun j _ _ => by omega⟩⟩
    have h6 := congrArg List.length key
    have h7 := cuts_le c s.data.toList
    have h8 := List.length_pos_iff.2 (cuts_ne c (s.data.toList.drop (k + 1)))
    simp at h6 h7 ⊢
    omega
  · omega
theorem Pc.last {s : ByteArray} {c : UInt8} {f : Nat} {done : List ByteArray} (h : Pc s c s.size f done) : Pc s c (s.size + 1) (s.size + 1) (done ++ [s.extract f s.size]) := by
  obtain ⟨h0, h1 | h1⟩ := h
  · obtain ⟨_, h2, h3, h4⟩ := h1
    have hn := not_mem_take (Nat.le_refl _) h4
    rw [List.take_of_length_le (by simp)] at hn
    have key : (done ++ [s.extract f s.size]).map (·.data.toList) = cuts c s.data.toList := by
      rw [← h3, cuts_none c _ hn, List.map_append, List.map_cons, List.map_nil, extract_toList, List.take_of_length_le (by simp)]
    refine ⟨?_, .inr ⟨rfl, cutsB_of key⟩⟩
    have h6 := congrArg List.length key
    have h7 := cuts_le c s.data.toList
    simp at h6 h7 ⊢
    omega
  · omega
theorem Pc.done {s : ByteArray} {c : UInt8} {f k : Nat} {done : List ByteArray} (h : Pc s c k f done) (hk : s.size < k) : done = cutsB c s := by
  obtain ⟨_, h1 | h1⟩ := h
  · omega
  · exact h1.2
theorem Pc.from_le {s : ByteArray} {c : UInt8} {f k : Nat} {done : List ByteArray} (h : Pc s c k f done) (hk : k ≤ s.size) : f ≤ k := by
  obtain ⟨_, h1 | h1⟩ := h
  · exact h1.2.1
  · omega
def PiecesPost (s : ByteArray) (c : UInt8) (w : World) (e : Ending) (w' : World) : Prop := ∃ v, e = .returned v ∧ Row Value.string w' w.heap.size 9 v (cutsB c s) ∧ Below w.heap.size w w'
set_option maxRecDepth 100000 in
set_option maxHeartbeats 2000000 in
theorem pieces_calls (s : ByteArray) (c : UInt8) (hs : s.size ≤ 4294967296) (w : World) : Calls Tryd.prog 96 #[.string s, .int .u8 c.toNat] w (PiecesPost s c w) := by
  obtain ⟨z, hz⟩ : ∃ z : Int, (c.toNat : Int) = z := ⟨_, rfl⟩
  rw [hz]
  have HZ := Lib.hid hz
  clear hz
  go_enter Tryd.func96, Tryd.ntmps96
  go_wp2
  go_loopw [5, 6, 7] (fun v i2 i wr => ∃ (k f : Nat) (done : List ByteArray), k ≤ s.size + 1 ∧ i = .int .i64 k ∧ i2 = .int .i64 f ∧ Row Value.string wr w.heap.size 9 v done ∧ Below w.heap.size w wr ∧ Pc s c k f done) (fun _ _ i _ => s.size + 1 - (intOf i).toNat)
  case atStart => exact ⟨0, 0, [], by omega, rfl, rfl, Row.nil _ _ _ _, Below.refl _ _, Pc.start s c⟩
  case round =>
    obtain ⟨k, f, done, hk, rfl, rfl, r1, r2, r3⟩ := hrel
    have RO := Lib.hid r1
    have RB := Lib.hid r2
    have RP := Lib.hid r3
    have HS : Hid (w.heap.size ≤ wr.heap.size) := Lib.hid r2.size
    have hn : done.length ≤ 1099511627776 := by have := r3.1; omega
    clear r1 r2 r3
    by_cases hle : k ≤ s.size
    · have hf := RP.out.from_le hle
      by_cases hlt : k < s.size
      · have e0 : ((k : Int) == (s.size : Int)) = false := beq_eq_false_iff_ne.2 (by omega)
        have e0' : (k == s.size) = false := beq_eq_false_iff_ne.2 (by omega)
        by_cases hx : s[k] = c
        · have e1 : ((s[k].toNat : Int) == z) = true := beq_iff_eq.2 (by rw [← HZ.out, hx])
          have RP' := Lib.hid (RP.out.cut hlt hx)
          clear hx
          go_wp2_with (at_builtin; (refine append_one (enc := Value.string) (fun _ => rfl) 94 Tryd.underlying94 el_str rfl _ _ rfl rfl (RO.out.alloc _) _ wr.heap.size rfl (cell_new _ _ _) hn (by simp; exact Nat.le_succ_of_le HS.out) ?_; intro v' w1 hr1 hg1))
          have RB1 := Row.below (RO.out.alloc _) hg1 (RB.out.alloc HS.out _) (Nat.le_refl _) (by simp; exact Nat.le_succ_of_le HS.out)
          exact ⟨⟨k + 1, k + 1, _, by omega, by go_num, by go_num, hr1, RB1, RP'.out⟩, by simp [intOf]; omega⟩
        · have e1 : ((s[k].toNat : Int) == z) = false := beq_eq_false_iff_ne.2 (by rw [← HZ.out]; intro h; exact hx (UInt8.toNat_inj.1 (by omega)))
          have RP' := Lib.hid (RP.out.next hlt hx)
          clear hx
          go_wp2
          go_roundw
          case rel => exact ⟨k + 1, f, done, by omega, by go_num, rfl, RO.out, RB.out, RP'.out⟩
          case measure => simp [intOf]; omega
      · obtain rfl : k = s.size := by omega
        have RP' := Lib.hid RP.out.last
        go_wp2_with (at_builtin; (refine append_one (enc := Value.string) (fun _ => rfl) 94 Tryd.underlying94 el_str rfl _ _ rfl rfl (RO.out.alloc _) _ wr.heap.size rfl (cell_new _ _ _) hn (by simp; exact Nat.le_succ_of_le HS.out) ?_; intro v' w1 hr1 hg1))
        have RB1 := Row.below (RO.out.alloc _) hg1 (RB.out.alloc HS.out _) (Nat.le_refl _) (by simp; exact Nat.le_succ_of_le HS.out)
        exact ⟨⟨s.size + 1, s.size + 1, _, by omega, by go_num, by go_num, hr1, RB1, RP'.out⟩, by simp [intOf]⟩
    · obtain rfl : k = s.size + 1 := by omega
      have HD : Hid (done = cutsB c s) := Lib.hid (RP.out.done (by omega))
      go_wp2
      go_ret
      exact ⟨_, rfl, by rw [← HD.out]; exact RO.out, RB.out⟩
end Go.Proofs.YtpaplobjmmpliaaDoor.Ad
