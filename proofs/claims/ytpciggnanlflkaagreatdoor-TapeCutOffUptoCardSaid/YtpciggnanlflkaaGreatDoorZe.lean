/- The contracts at a right tape. Conditions: none beyond those that each theorem states. -/
import Derived.Test.YtpciggnanlflkaaGreatDoorZd
namespace Go.Proofs.YtpciggnanlflkaaGreatDoor.Ad
set_option linter.unusedVariables false
set_option linter.unusedSimpArgs false
open Go.RowKit Go.Maps W
theorem new_var {V W : World} {t : TypeId} {cs : Array Value} (h : W = V.alloc (.cells cs t)) : Hid (Blk W V.heap.size t cs) ∧ Below V.heap.size V W := ⟨(box1 h).1, (box1 h).2.1.out⟩
/-- What a call lays and answers of one right tape: its Snap, how many records, its bytes, its text. -/
structure Rt (xT : Tp) (xs : Int) (xn bn : Nat) (bX : List UInt8) (sX : ByteArray) : Prop where
  snap : xT.snap = xs
  len : xT.recs.length = xn
  small : xn ≤ 4096
  blen : bX.length = bn
  right : rightV xT = true
  bsmall : bn ≤ 268652557
  mine : ∀ p c w, Tin w p xn c xT → Calls Tryz.prog 11 #[.agg #[.int .i64 xs, .slice p xn c]] w fun e w' => ∃ p' c', e = .returned (.agg #[.int .i64 xs, .slice p' xn c']) ∧ Tin w' p' xn c' xT ∧ Below w.heap.size w w'
  build : ∀ p c w, Tin w p xn c xT → Calls Tryz.prog 10 #[.agg #[.int .i64 xs, .slice p xn c]] w fun e w' => ∃ q d, e = .returned (.tuple #[.slice q bn d, .int .i64 0]) ∧ BIn w' q bn d bX ∧ Below w.heap.size w w'
  read : ∀ q d w, BIn w q bn d bX → Calls Tryz.prog 18 #[.slice q bn d] w fun e w' => ∃ p' c', e = .returned (.tuple #[.agg #[.int .i64 xs, .slice p' xn c'], .int .i64 0]) ∧ Tin w' p' xn c' xT ∧ Below w.heap.size w w'
  print : ∀ p c w, Tin w p xn c xT → Gl w → Calls Tryz.prog 13 #[.agg #[.int .i64 xs, .slice p xn c]] w fun e w' => e = .returned (.tuple #[.string sX, .int .i64 0]) ∧ Below w.heap.size w w'
  parse : ∀ w, Gl w → Calls Tryz.prog 21 #[.string sX] w fun e w' => ∃ p' c', e = .returned (.tuple #[.agg #[.int .i64 xs, .slice p' xn c'], .int .i64 0, .int .i64 0]) ∧ Tin w' p' xn c' xT ∧ Below w.heap.size w w'
  same : ∀ p c q d w, Tin w p xn c xT → Tin w q xn d xT → Calls Tryz.prog 23 #[.agg #[.int .i64 xs, .slice p xn c], .agg #[.int .i64 xs, .slice q xn d]] w fun e w' => e = .returned (.bool true) ∧ Below w.heap.size w w'
  isr : ∀ p c w, Tin w p xn c xT → Calls Tryz.prog 16 #[.agg #[.int .i64 xs, .slice p xn c]] w fun e w' => e = .returned (.bool true) ∧ Below w.heap.size w w'
  isl : ∀ p c w, Tin w p xn c xT → Calls Tryz.prog 24 #[.agg #[.int .i64 xs, .slice p xn c]] w fun e w' => e = .returned (.bool true) ∧ Below w.heap.size w w'
theorem rt_bnd {x : Tp} (h : rightV x = true) : Bnd x := ⟨Nat.le_trans (right_len h) (by omega), fun r hr => Nat.le_trans (right_data h r hr) (by omega)⟩
theorem print_len {x : Tp} (h : rightV x = true) : (printT x).length ≤ 600000000 := by
  have h1 := print_take h x.recs.length
  rw [List.take_length] at h1
  exact h1
theorem bytes_len {x : Tp} (h : rightV x = true) : (bytesB x).length ≤ 268652557 := by
  have h1 := bytes_bound h x.recs.length
  rw [List.take_length] at h1
  exact h1
theorem Rt.of {x : Tp} (h : rightV x = true) : Rt x x.snap x.recs.length (bytesB x).length (bytesB x) (S (printT x)) := by
  have hb : buildV x = (bytesB x, 0) := by unfold buildV; rw [if_pos h]
  have hp : printV x = (printT x, 0) := by unfold printV; rw [if_pos h]
  have hr := read_back h
  have hs := parse_back h
  have hl := right_len h
  refine ⟨rfl, rfl, hl, rfl, h, bytes_len h, fun p c w k => mine_t k (rt_bnd h), fun p c w k => ?_, fun q d w k => ?_, fun p c w k hg => ?_, fun w hg => ?_, fun p c q d w k k2 => ?_, fun p c w k => ?_, fun p c w k => ?_⟩
  · have := build_t k; rw [hb] at this; exact this
  · have := read_t k (by have := bytes_len h; omega); rw [hr] at this; exact this
  · have := print_t k hg; rw [hp] at this; exact this
  · have := parse_t (l := printT x) (w := w) (by have := print_len h; omega) hg; rw [hs] at this; exact this
  · have := sameTape_t k k2 (by omega) (by omega); rw [decide_eq_true rfl] at this; exact this
  · have := right_t k; rw [h] at this; exact this
  · have := lright_t k (by omega); rw [h] at this; exact this
theorem same_b {b : List UInt8} {p q : Option Go.Addr} {n c m d : Nat} {w : World} (h : BIw w p n c b) (k : BIw w q m d b) : Calls Tryz.prog 15 #[.slice p n c, .slice q m d] w fun e w' => e = .returned (.bool true) ∧ Below w.heap.size w w' := by
  have := same_t h k
  rwa [decide_eq_true rfl] at this
theorem parse_two (l : List UInt8) : ((parseV l).2.1 = 0 ∧ (parseV l).2.2 = 0 ∧ printT (parseV l).1 = l ∧ rightV (parseV l).1 = true) ∨ ((parseV l).1 = ⟨0, []⟩ ∧ (parseV l).2.2 = 2 ∧ 1 ≤ (parseV l).2.1) := by
  rcases parse_is l with ⟨h1, h2, h3⟩ | ⟨k, h1, h2⟩
  · exact .inl ⟨by rw [h1], by rw [h1], h2, h3⟩
  · exact .inr ⟨by rw [h1], by rw [h1], by rw [h1]; show (1 : Int) ≤ (k : Int); omega⟩
/-- The letters of a right tape. -/
theorem rt_letters {x : Tp} (h : rightV x = true) : ∃ xs xn bn bX sX, Rt x xs xn bn bX sX ∧ bX = bytesB x ∧ sX = S (printT x) := ⟨_, _, _, _, _, Rt.of h, rfl, rfl⟩
end Go.Proofs.YtpciggnanlflkaaGreatDoor.Ad
