/- The contracts told by tapes and bytes in memory; two operations that a region may do in either order. Conditions: none beyond those that each theorem states. -/
import Derived.Test.YtpciggnanlflkaaGreatDoorF3
import Derived.Test.YtpciggnanlflkaaGreatDoorYb
namespace Go.Proofs.YtpciggnanlflkaaGreatDoor.Ad
set_option linter.unusedVariables false
set_option linter.unusedSimpArgs false
open Go.RowKit Go.Maps W
def Rec.wf (r : Rec) : Prop := (-9223372036854775808 ≤ r.tk ∧ r.tk ≤ 9223372036854775807) ∧ (-9223372036854775808 ≤ r.node ∧ r.node ≤ 9223372036854775807) ∧ (-9223372036854775808 ≤ r.long ∧ r.long ≤ 9223372036854775807)
def Tp.wf (t : Tp) : Prop := (-9223372036854775808 ≤ t.snap ∧ t.snap ≤ 9223372036854775807) ∧ ∀ r ∈ t.recs, r.wf
def Bnd (t : Tp) : Prop := t.recs.length ≤ 1048576 ∧ ∀ r ∈ t.recs, r.data.length ≤ 1048576
/-- Bytes in memory. -/
def BIn (w : World) (q : Option Go.Addr) (n d : Nat) (l : List UInt8) : Prop := n = l.length ∧ BAt w q l ∧ SlOk q n d ∧ ∀ a, q = some a → ∃ g o, a = ⟨g, o, none⟩ ∧ g < w.heap.size
theorem BIn.later {w w' : World} {q : Option Go.Addr} {n d : Nat} {l : List UInt8} (h : BIn w q n d l) (hb : Below w.heap.size w w') : BIn w' q n d l :=
  ⟨h.1, h.2.1.later hb, h.2.2.1, fun a ha => by obtain ⟨g, o, h1, h2⟩ := h.2.2.2 a ha; exact ⟨g, o, h1, Nat.lt_of_lt_of_le h2 hb.size⟩⟩
theorem BIn.of {w : World} {B : Nat} {v : Value} {l : List UInt8} (h : w.ownsRow B 5 1 v l.length (Lib.byteCells l)) : ∃ q d, v = .slice q l.length d ∧ BIn w q l.length d l := by
  obtain ⟨q, d, e, h1, _, h2⟩ := own_bytes h
  refine ⟨q, d, e, rfl, h1, h2, fun a ha => ?_⟩
  rcases h.2 with ⟨h3, _⟩ | ⟨g, cap, cur, h3, _, h4, _⟩
  · rw [e] at h3; injection h3 with h3 _; rw [h3] at ha; cases ha
  · rw [e] at h3; injection h3 with h3 _
    rw [h3] at ha; injection ha with ha
    exact ⟨g, 0, ha.symm, (Array.getElem?_eq_some_iff.1 h4).1⟩
/-- Bytes in memory, wherever an empty list points. -/
def BIw (w : World) (q : Option Go.Addr) (n d : Nat) (l : List UInt8) : Prop := n = l.length ∧ BAt w q l ∧ SlOk q n d
theorem BIw.later {w w' : World} {q : Option Go.Addr} {n d : Nat} {l : List UInt8} (h : BIw w q n d l) (hb : Below w.heap.size w w') : BIw w' q n d l := ⟨h.1, h.2.1.later hb, h.2.2⟩
theorem BIn.w {w : World} {q : Option Go.Addr} {n d : Nat} {l : List UInt8} (h : BIn w q n d l) : BIw w q n d l := ⟨h.1, h.2.1, h.2.2.1⟩
section
variable {t : Tp} {p : Option Go.Addr} {n c : Nat} {w : World}
theorem mine_t (h : Tin w p n c t) (hb : Bnd t) : Calls Tryz.prog 11 #[.agg #[.int .i64 t.snap, .slice p n c]] w fun e w' => ∃ p' c', e = .returned (.agg #[.int .i64 t.snap, .slice p' n c']) ∧ Tin w' p' n c' t ∧ Below w.heap.size w w' := by
  obtain ⟨rfl, h1, h2⟩ := h
  refine (mine_calls t p c w h1 hb.1 hb.2).mono ?_
  rintro e w' ⟨v, ds, rfl, h3, h4⟩
  obtain ⟨p', c', rfl, h5⟩ := Tin.of h3
  exact ⟨p', c', rfl, h5, h4⟩
theorem build_t (h : Tin w p n c t) : Calls Tryz.prog 10 #[.agg #[.int .i64 t.snap, .slice p n c]] w fun e w' => ∃ q d, e = .returned (.tuple #[.slice q (buildV t).1.length d, .int .i64 (buildV t).2]) ∧ BIn w' q (buildV t).1.length d (buildV t).1 ∧ Below w.heap.size w w' := by
  obtain ⟨rfl, h1, h2⟩ := h
  refine (build_calls t p c w h1).mono ?_
  rintro e w' ⟨v, rfl, h3, h4⟩
  obtain ⟨q, d, rfl, h5⟩ := BIn.of h3
  exact ⟨q, d, rfl, h5, h4⟩
theorem rbuild_t (h : Tin w p n c t) : Calls Tryz.prog 12 #[.agg #[.int .i64 t.snap, .slice p n c]] w fun e w' => ∃ q d, e = .returned (.tuple #[.slice q (buildV t).1.length d, .int .i64 (buildV t).2]) ∧ BIn w' q (buildV t).1.length d (buildV t).1 ∧ Below w.heap.size w w' := by
  obtain ⟨rfl, h1, h2⟩ := h
  refine (rbuild_calls t p c w h1).mono ?_
  rintro e w' ⟨v, rfl, h3, h4⟩
  obtain ⟨q, d, rfl, h5⟩ := BIn.of h3
  exact ⟨q, d, rfl, h5, h4⟩
theorem print_t (h : Tin w p n c t) (hg : Gl w) : Calls Tryz.prog 13 #[.agg #[.int .i64 t.snap, .slice p n c]] w fun e w' => e = .returned (.tuple #[.string (S (printV t).1), .int .i64 (printV t).2]) ∧ Below w.heap.size w w' := by
  obtain ⟨rfl, h1, h2⟩ := h
  exact print_calls t p c w h1 hg
theorem rprint_t (h : Tin w p n c t) : Calls Tryz.prog 14 #[.agg #[.int .i64 t.snap, .slice p n c]] w fun e w' => e = .returned (.tuple #[.string (S (printV t).1), .int .i64 (printV t).2]) ∧ Below w.heap.size w w' := by
  obtain ⟨rfl, h1, h2⟩ := h
  exact rprint_calls t p c w h1
theorem right_t (h : Tin w p n c t) : Calls Tryz.prog 16 #[.agg #[.int .i64 t.snap, .slice p n c]] w fun e w' => e = .returned (.bool (rightV t)) ∧ Below w.heap.size w w' := by
  obtain ⟨rfl, h1, h2⟩ := h
  exact right_calls t p c w h1
theorem rright_t (h : Tin w p n c t) : Calls Tryz.prog 17 #[.agg #[.int .i64 t.snap, .slice p n c]] w fun e w' => e = .returned (.bool (rightV t)) ∧ Below w.heap.size w w' := by
  obtain ⟨rfl, h1, h2⟩ := h
  exact rright_calls t p c w h1
theorem same_t {q : Option Go.Addr} {l : List UInt8} {m d : Nat} {p : Option Go.Addr} {n c : Nat} {k : List UInt8} (h : BIw w p n c k) (h2 : BIw w q m d l) : Calls Tryz.prog 15 #[.slice p n c, .slice q m d] w fun e w' => e = .returned (.bool (decide (k = l))) ∧ Below w.heap.size w w' :=
  same_calls k l p q n m c d h.1 h2.1 w h.2.1 h2.2.1
theorem read_t {l : List UInt8} (h : BIn w p n c l) (hl : l.length ≤ 1099511627776) : Calls Tryz.prog 18 #[.slice p n c] w fun e w' => ∃ p' c', e = .returned (.tuple #[.agg #[.int .i64 (readV8 l).1.snap, .slice p' (readV8 l).1.recs.length c'], .int .i64 (readV8 l).2]) ∧ Tin w' p' (readV8 l).1.recs.length c' (readV8 l).1 ∧ Below w.heap.size w w' := by
  obtain ⟨rfl, h1, h2, h3⟩ := h
  refine (read_calls l p _ c rfl hl w h1 h2 h3).mono ?_
  rintro e w' ⟨v, ds, rfl, h4, h5⟩
  obtain ⟨p', c', rfl, h6⟩ := Tin.of h4
  exact ⟨p', c', rfl, h6, h5⟩
theorem own_t {l : List UInt8} (h : BIw w p n c l) (hl : l.length ≤ 140737488355328) : Calls Tryz.prog 19 #[.slice p n c] w fun e w' => ∃ q d, e = .returned (.slice q n d) ∧ BIn w' q n d l ∧ Below w.heap.size w w' := by
  obtain ⟨rfl, h1, h2⟩ := h
  refine (own_calls l p _ c rfl hl w h1).mono ?_
  rintro e w' ⟨v, rfl, h4, h5⟩
  obtain ⟨q, d, rfl, h6⟩ := BIn.of h4
  exact ⟨q, d, rfl, h6, h5⟩
theorem parse_t {l : List UInt8} (hl : l.length < 4294967281) (hg : Gl w) : Calls Tryz.prog 21 #[.string (S l)] w fun e w' => ∃ p' c', e = .returned (.tuple #[.agg #[.int .i64 (parseV l).1.snap, .slice p' (parseV l).1.recs.length c'], .int .i64 (parseV l).2.1, .int .i64 (parseV l).2.2]) ∧ Tin w' p' (parseV l).1.recs.length c' (parseV l).1 ∧ Below w.heap.size w w' := by
  refine (parse_calls l hl w hg).mono ?_
  rintro e w' ⟨v, ds, rfl, h4, h5⟩
  obtain ⟨p', c', rfl, h6⟩ := Tin.of h4
  exact ⟨p', c', rfl, h6, h5⟩
theorem sameTape_t {u : Tp} {q : Option Go.Addr} {m d : Nat} (h : Tin w p n c t) (k : Tin w q m d u) (hn : n ≤ 4294967296) (hm : m ≤ 4294967296) : Calls Tryz.prog 23 #[.agg #[.int .i64 t.snap, .slice p n c], .agg #[.int .i64 u.snap, .slice q m d]] w fun e w' => e = .returned (.bool (decide (t = u))) ∧ Below w.heap.size w w' := by
  obtain ⟨rfl, h1, h2⟩ := h
  obtain ⟨rfl, k1, k2⟩ := k
  exact sameTape_calls t u p q c d w h1 k1 hn hm
end
section
variable {P : Program} {ops : Array Oper} {Q : Exit → Act → World → Prop} {md : Region.Mode} {S : World → Prop} {late : Nat → Bool}
/-- Two that may come in either order. -/
theorem anyT_step2 (i j : Nat) {o o2 : Oper} {fuel : Nat} {listed : Array Bool} {a : Act} {w : World} (hr : Region.ready md ops listed = [i, j]) (ho : ops[i]? = some o) (ho2 : ops[j]? = some o2) (hw : Region.wanted o (yielded ops a.tmps) = true) (hw2 : Region.wanted o2 (yielded ops a.tmps) = true)
    (h : Oper.wp P o a w (fun a' w' => (late i = true ∨ S w') ∧ wpAnyT P md ops Q S late fuel (listed.setIfInBounds i true) a' w') Q)
    (h2 : Oper.wp P o2 a w (fun a' w' => (late j = true ∨ S w') ∧ wpAnyT P md ops Q S late fuel (listed.setIfInBounds j true) a' w') Q) : wpAnyT P md ops Q S late (fuel + 1) listed a w := by
  refine ⟨fun h0 => absurd (hr ▸ h0) (by simp), fun k hk => ?_⟩
  rw [hr] at hk
  simp only [List.mem_cons, List.not_mem_nil, or_false] at hk
  rcases hk with rfl | rfl
  · unfold wpOp
    simp only [ho, hw, if_true]
    exact .inl h
  · unfold wpOp
    simp only [ho2, hw2, if_true]
    exact .inl h2
end
end Go.Proofs.YtpciggnanlflkaaGreatDoor.Ad
