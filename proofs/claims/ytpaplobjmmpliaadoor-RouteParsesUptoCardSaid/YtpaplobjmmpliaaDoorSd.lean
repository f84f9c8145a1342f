/- Contract of the law RouteParses. Conditions: a text is shorter than 2^32 - 15; the library tables hold what its text lays. -/
import Derived.Test.YtpaplobjmmpliaaDoorSc
import Derived.Test.YtpaplobjmmpliaaDoorRp
namespace Go.Proofs.YtpaplobjmmpliaaDoor.Ad
set_option linter.unusedVariables false
set_option linter.unusedSimpArgs false
open Go.RowKit Go.Maps W
theorem parseV_wf (l : List UInt8) : ∀ r ∈ (parseV l).1, r.wf := fun r hr => by
  unfold parseV at hr
  cases h : linesV l with
  | none => rw [h] at hr; cases hr
  | some m =>
    rw [h] at hr
    simp only at hr
    split at hr
    · exact linesV_wf _ l (Nat.le_refl _) m h r hr
    · cases hr
theorem parseV_len (l : List UInt8) : (parseV l).1.length ≤ 32 := by
  unfold parseV
  cases h : linesV l with
  | none => simp
  | some m =>
    simp only
    split
    · rename_i h2; exact may_32 h2
    · simp
set_option maxRecDepth 100000 in
set_option maxHeartbeats 4000000 in
theorem parses_calls (s : ByteArray) (hs : s.size < 4294967281) (w : World) (hg : Gl w) : Calls Tryd.prog 4 #[.string s] w fun e w' => e = .returned (.bool true) ∧ Below w.heap.size w w' := by
  have HG := Lib.hid hg
  obtain ⟨l, hl⟩ : ∃ l, s.data.toList = l := ⟨_, rfl⟩
  have hsl : s = S l := by rw [← hl]; exact (S_of s).symm
  have hll : l.length < 4294967281 := by rw [← hl]; simpa using hs
  subst hsl
  have HP := Lib.hid (fun w hg => rparse21_calls l hll w hg)
  have HR := Lib.hid (fun w => rparser_calls l hll w)
  obtain ⟨m, er, hme⟩ : ∃ m e, parseV l = (m, e) := ⟨_, _, rfl⟩
  have hwf := parseV_wf l
  have hln := parseV_len l
  rw [hme] at HP HR hwf hln
  simp only at HP HR hwf hln
  have HS : Hid (∀ p1 c1 p2 c2 w', At w' p1 m → At w' p2 m → Calls Tryd.prog 15 #[.slice p1 m.length c1, .slice p2 m.length c2] w' fun e w2 => e = .returned (.bool true) ∧ Below w'.heap.size w' w2) := Lib.hid fun p1 c1 p2 c2 w' h1 h2 => by
    have h := same_calls hwf hwf (by omega) p1 c1 p2 c2 w' h1 h2
    rwa [decide_eq_true rfl] at h
  have f1 : (er == er) = true := beq_self_eq_true er
  clear hg hl hme hwf hs
  go_enter Tryd.func4, Tryd.ntmps4
  go_upto_region 2 with (go_at_call 18; refine (HP.out _ HG.out).mono ?_; rintro e W2 ⟨p1, c1, rfl, hA1, _, hB2⟩)
  go_upto_region 3 with (go_at_call 19; refine (HR.out _).mono ?_; rintro e W3 ⟨p2, c2, rfl, hA2, _, hB3⟩)
  have HB := Lib.hid (hB2.trans (hB3.mono hB2.size))
  have HA1 := Lib.hid (hA1.later hB3)
  have HA2 := Lib.hid hA2
  clear hA1 hA2 hB2 hB3 hln
  go_wp2_with (first | (go_at_call 11; refine (known_calls _ (HG.out.later HB.out)).mono ?_; rintro e W4 ⟨rfl, hB4⟩; have HB := keep HB hB4; have HA1 := Lib.hid (HA1.out.later hB4); have HA2 := Lib.hid (HA2.out.later hB4); clear hB4) | (go_at_call 15; refine (HS.out _ _ _ _ _ HA1.out.at HA2.out.at).mono ?_; rintro e W5 ⟨rfl, hB5⟩; have HB := keep HB hB5; clear hB5))
  go_ret
  exact ⟨rfl, HB.out⟩
end Go.Proofs.YtpaplobjmmpliaaDoor.Ad
