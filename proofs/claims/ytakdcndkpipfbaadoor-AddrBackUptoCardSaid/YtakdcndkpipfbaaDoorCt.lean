/- The law AddrBack, joined. Conditions: an address has sixteen bytes; a text is shorter than 2^32 - 15; the library tables hold what its text lays. -/
import Derived.Test.YtakdcndkpipfbaaDoorCs
namespace Go.Proofs.YtakdcndkpipfbaaDoor.Ad
set_option linter.unusedVariables false
set_option linter.unusedSimpArgs false
open Go.RowKit W
/-- What is asked of the numbers that the law draws. -/
theorem wrap_small {z : Int} (h : 0 ≤ z) (k : Nat) (hk : 0 < k) (hk2 : k ≤ 9) : ∃ m : Nat, wrap64 (z.tmod k) = (m : Int) ∧ m < k := by
  have h1 := Int.tmod_nonneg (k : Int) h
  have h2 := Int.tmod_lt_of_pos z (show (0 : Int) < k by omega)
  refine ⟨(z.tmod k).toNat, ?_, by omega⟩
  unfold wrap64; omega
theorem wrap_one {m : Nat} (h : m < 4) : wrap64 (1 + (m : Int)) = ((m + 1 : Nat) : Int) := by unfold wrap64; omega
theorem u64_pos (n : Int) : 0 ≤ IntKind.u64.wrap n := by simp [IntKind.wrap, IntKind.signed, IntKind.bits]; omega
theorem neq_self (a : Addr) (ha : a.ok) (w : World) : (binOp .neq 24 (.agg a.cells) (.agg a.cells)).run Tryd.prog w = .ok (.bool false) w := by have := neq_ad a a ha ha w; simpa using this
theorem ans_or (r : Option Addr) : (∃ x, r = some x ∧ ansA r = x ∧ ansE r = 0) ∨ (r = none ∧ ansA r = zeroAd ∧ ansE r = 30) := by
  cases r with
  | none => exact .inr ⟨rfl, rfl, rfl⟩
  | some x => exact .inl ⟨x, rfl, rfl, rfl⟩
theorem parse_text (l : List UInt8) (hl : l.length ≤ 100) (w : World) (hg : Gl w) : Calls Tryd.prog 22 #[.string (S l)] w fun e w' => e = .returned (.tuple #[.agg (ansA (readV l)).cells, .int .i64 (ansE (readV l))]) ∧ Below w.heap.size w w' := by
  have := parse_calls (S l) (by rw [S_size]; omega) w hg
  rwa [S_list] at this
theorem back_calls (a : Addr) (ha : a.ok) (s : ByteArray) (hs : s.size < 4294967281) (n2 n3 n4 : Int) (w : World) (hg : Gl w) : Calls Tryd.prog 5 #[.agg a.cells, .string s, .int .i64 n2, .int .i64 n3, .int .i64 n4] w fun e w' => e = .returned (.bool true) ∧ Below w.heap.size w w' := by
  obtain ⟨M, hM, hM4⟩ := wrap_small (u64_pos n2) 4 (by omega) (by omega)
  obtain ⟨g, hgg, hg8⟩ := wrap_small (u64_pos n3) 8 (by omega) (by omega)
  obtain ⟨m, hm, hm9⟩ := wrap_small (u64_pos n4) 9 (by omega) (by omega)
  have hx : (ansA (readV s.data.toList)).ok := readV_ok _
  have hT : ∀ up : Bool, ∀ k, HexOk (hexR up (grp a.b k) (M + 1)) (grp a.b k) := fun up k => hexR_ok up (grp_lt a.b k) (by omega) (by omega)
  refine back_of a (ansA (readV s.data.toList)) (ansA (readV (printV (ansA (readV s.data.toList))))) (ansA (readV (printV a))) (ansE (readV s.data.toList)) (ansE (readV (printV (ansA (readV s.data.toList))))) (ansE (readV (printV a))) n2 n3 n4 (M + 1) g m a.valid (ansA (readV s.data.toList)).valid s (S (printV (ansA (readV s.data.toList)))) (S (printV a)) (fun up => S (longT (fun k => hexR up (grp a.b k) (M + 1)) g (min (runV a.b g) m) 8)) ha hx (readV_ok _) (readV_ok _)
    (Lib.hid ?_) (Lib.hid ?_) (Lib.hid ?_) (Lib.hid ?_) (neq_self a ha) (Lib.hid ?_) (Lib.hid hgg) (Lib.hid hm)
    (Lib.hid fun w hg => parse_calls s hs w hg) (Lib.hid fun w hg => print_calls _ hx w hg) (Lib.hid fun w hg => parse_text _ print_len w hg) (Lib.hid fun w => valid_calls _ hx w)
    (Lib.hid fun w => valid_calls a ha w) (Lib.hid fun w hg => print_calls a ha w hg) (Lib.hid fun w hg => parse_text _ print_len w hg)
    (Lib.hid fun up w => long_calls a ha (M + 1) g m up (by omega) hg8 (by omega) w) (Lib.hid fun hv h4 up w hg => ?_) w hg
  · rcases ans_or (readV s.data.toList) with ⟨x, _, _, he⟩ | ⟨_, h1, he⟩
    · exact .inl he
    · refine .inr ⟨he, fun w => ?_⟩
      rw [h1]; exact neq_self zeroAd zero_ok w
  · intro he
    rcases ans_or (readV s.data.toList) with ⟨x, hr, h1, _⟩ | ⟨_, _, he2⟩
    · have hxo : x.ok := by rw [← h1]; exact readV_ok _
      have hv : x.valid = true := read_valid hr
      have hp := read_print hxo hv
      rw [h1, hp]
      exact ⟨rfl, fun w => neq_self x hxo w, hv⟩
    · rw [he2] at he; exact absurd he (by decide)
  · intro hv; rw [print_none hv]; rfl
  · intro hv
    rw [read_print ha hv]
    exact ⟨rfl, fun w => neq_self a ha w⟩
  · have hM' : wrap64 ((IntKind.u64.wrap n2).tmod 4) = (M : Int) := hM
    rw [hM']; exact wrap_one hM4
  · have h6 : a.v = 6 := by rcases valid_v hv with h | h; exact absurd h h4; exact h
    have hr : readV (longT (fun k => hexR up (grp a.b k) (M + 1)) g (min (runV a.b g) m) 8) = some a := by
      rw [read_longT ha (hT up) hg8, ← h6]
    have := parse_text (longT (fun k => hexR up (grp a.b k) (M + 1)) g (min (runV a.b g) m) 8) (by
      have h1 := runV_le8 a.b g
      have := longT_len (T := fun k => hexR up (grp a.b k) (M + 1)) (fun k => (hT up k).le) (f := g) (L := min (runV a.b g) m) (k := 8) (by omega)
      omega) w hg
    rwa [hr] at this
end Go.Proofs.YtakdcndkpipfbaaDoor.Ad
