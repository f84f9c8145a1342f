/- A list of records of one's own, each with data of its own. Conditions: none beyond those that each theorem states. -/
import Derived.Test.YtpciggnanlflkaaGreatDoorWe
namespace Go.Proofs.YtpciggnanlflkaaGreatDoor.Ad
set_option linter.unusedVariables false
set_option linter.unusedSimpArgs false
open Go.RowKit Go.Maps W
def cellsR : List Rec → List Value → List Value
  | r :: l, d :: ds => recC r d ++ cellsR l ds
  | _, _ => []
theorem recC_len (r : Rec) (d : Value) : (recC r d).length = 5 := rfl
theorem cellsR_len : ∀ (l : List Rec) (ds : List Value), ds.length = l.length → (cellsR l ds).length = l.length * 5
  | [], [], _ => rfl
  | r :: l, d :: ds, h => by
    rw [cellsR, List.length_append, recC_len, cellsR_len l ds (by simpa using h), List.length_cons]; omega
  | [], _ :: _, h => by cases h
  | _ :: _, [], h => by cases h
theorem cellsR_snoc (r : Rec) (d : Value) : ∀ (l : List Rec) (ds : List Value), ds.length = l.length → cellsR (l ++ [r]) (ds ++ [d]) = cellsR l ds ++ recC r d
  | [], [], _ => by simp [cellsR]
  | x :: l, y :: ds, h => by
    have ih := cellsR_snoc r d l ds (by simpa using h)
    simp only [List.cons_append, cellsR, ih, List.append_assoc]
  | [], _ :: _, h => by cases h
  | _ :: _, [], h => by cases h
theorem cellsR_get : ∀ (l : List Rec) (ds : List Value) (i : Nat) (r : Rec) (d : Value), l[i]? = some r → ds[i]? = some d → ∀ j v, (recC r d)[j]? = some v → (cellsR l ds)[i * 5 + j]? = some v
  | x :: l, y :: ds, 0, r, d, hr, hd, j, v, hv => by
    simp only [List.getElem?_cons_zero, Option.some.injEq] at hr hd
    subst hr; subst hd
    rw [cellsR, Nat.zero_mul, Nat.zero_add, List.getElem?_append_left (List.getElem?_eq_some_iff.1 hv).1]; exact hv
  | x :: l, y :: ds, i + 1, r, d, hr, hd, j, v, hv => by
    have ih := cellsR_get l ds i r d (by simpa using hr) (by simpa using hd) j v hv
    rw [cellsR, List.getElem?_append_right (by rw [recC_len]; omega), recC_len, show (i + 1) * 5 + j - 5 = i * 5 + j by omega]; exact ih
  | [], _, _, _, _, h, _, _, _, _ => by simp at h
  | _ :: _, [], _, _, _, _, h, _, _, _ => by simp at h
theorem recC_one (r : Rec) (p : Option Go.Addr) (n c : Nat) : ∀ u ∈ recC r (.slice p n c), u.oneCell' = true := fun u hu => by
  simp only [recC, List.mem_cons, List.not_mem_nil, or_false] at hu
  rcases hu with rfl | rfl | rfl | rfl | rfl <;> rfl
structure TO (w : World) (B : Nat) (v : Value) (l : List Rec) (ds : List Value) : Prop where
  own : w.ownsRow B 48 5 v l.length (cellsR l ds)
  len : ds.length = l.length
  data : ∀ (i : Nat) (r : Rec) (d : Value), l[i]? = some r → ds[i]? = some d → w.ownsRow B 5 1 d r.data.length (Lib.byteCells r.data)
  dj : ds.Pairwise Dj
theorem own_bytes {w : World} {B : Nat} {d : Value} {l : List UInt8} (h : w.ownsRow B 5 1 d l.length (Lib.byteCells l)) : ∃ p c, d = .slice p l.length c ∧ BAt w p l ∧ (∀ a, p = some a → B ≤ a.block) ∧ SlOk p l.length c := by
  rcases h.2 with ⟨h1, h2⟩ | ⟨g, cap, cur, e, hB, hg, hnc, hcm, hcs, htk⟩
  · exact ⟨none, 0, by rw [h1, h2], .inl (List.eq_nil_of_length_eq_zero h2), (fun a ha => by cases ha), by rw [h2]; exact Nat.le_refl _, fun _ => rfl⟩
  · refine ⟨_, cap, e, .inr ⟨g, 0, rfl, (Array.getElem?_eq_some_iff.1 hg).1, fun i hi => ?_⟩, (fun a ha => by injection ha with ha; subst ha; exact hB), hnc, fun h => by cases h⟩
    rw [S_size] at hi
    have h1 : (Lib.byteCells l)[i]? = some (.int .u8 (l[i]'hi).toNat) := by simp [Lib.byteCells, hi]
    have h2 := World.ownsRow.cells h (by rw [e]; rfl) i _ h1
    rw [Addr.add_lit] at h2
    rw [h2]; rfl
theorem TO.rat {w : World} {B : Nat} {v : Value} {l : List Rec} {ds : List Value} (h : TO w B v l ds) : ∃ p c, v = .slice p l.length c ∧ RAt w p l ∧ (∀ a, p = some a → B ≤ a.block) ∧ SlOk p l.length c := by
  rcases h.own.2 with ⟨h1, h2⟩ | ⟨g, cap, cur, e, hB, hg, hnc, hcm, hcs, htk⟩
  · exact ⟨none, 0, by rw [h1, h2], .inl (List.eq_nil_of_length_eq_zero h2), (fun a ha => by cases ha), by rw [h2]; exact Nat.le_refl _, fun _ => rfl⟩
  · refine ⟨_, cap, e, .inr ⟨g, 0, rfl, (Array.getElem?_eq_some_iff.1 hg).1, fun i r hr => ?_⟩, (fun a ha => by injection ha with ha; subst ha; exact hB), hnc, fun h => by cases h⟩
    have hi := (List.getElem?_eq_some_iff.1 hr).1
    obtain ⟨d, hd⟩ : ∃ d, ds[i]? = some d := ⟨_, List.getElem?_eq_getElem (by rw [h.len]; exact hi)⟩
    obtain ⟨p, c, rfl, hb, _, hs⟩ := own_bytes (h.data i r d hr hd)
    refine ⟨p, c, fun j u hu => ?_, hb, hs⟩
    have h2 := World.ownsRow.cells h.own (by rw [e]; rfl) _ _ (cellsR_get l ds i r _ hr hd j u hu)
    rw [Addr.add_lit] at h2
    rw [show 0 + i * 5 + j = 0 + (i * 5 + j) by omega]; exact h2
theorem TO.nil (w : World) (B : Nat) : TO w B (.slice none 0 0) [] [] := ⟨World.ownsRow_nil _ _ _ _, rfl, fun i r d h => by simp at h, .nil⟩
theorem TO.later {w w' : World} {B : Nat} {v : Value} {l : List Rec} {ds : List Value} (h : TO w B v l ds) (hb : Below w.heap.size w w') : TO w' B v l ds :=
  ⟨own_later h.own hb, h.len, fun i r d hr hd => own_later (h.data i r d hr hd) hb, h.dj⟩
theorem TO.base {w : World} {B B' : Nat} {v : Value} {l : List Rec} {ds : List Value} (h : TO w B v l ds) (hb : B' ≤ B) : TO w B' v l ds :=
  ⟨own_base h.own hb, h.len, fun i r d hr hd => own_base (h.data i r d hr hd) hb, h.dj⟩
/-- What leaves the blocks of the list and of its data alone leaves the list. -/
theorem TO.fr {S : Nat → Prop} {w w' : World} {B : Nat} {v : Value} {l : List Rec} {ds : List Value} (h : TO w B v l ds) (hf : Fr S w w') (hv : ∀ k, v.ownBlock = some k → ¬ S k) (hd : ∀ d ∈ ds, ∀ k, d.ownBlock = some k → ¬ S k) : TO w' B v l ds :=
  ⟨hf.own h.own hv, h.len, fun i r d hr hdd => hf.own (h.data i r d hr hdd) (hd d (List.mem_of_getElem? hdd)), h.dj⟩
theorem rec_u8 : (5 : TypeId) ≠ 48 := by decide
theorem TO.get {w : World} {B : Nat} {v : Value} {l : List Rec} {ds : List Value} (h : TO w B v l ds) {d : Value} (hd : d ∈ ds) : ∃ (i : Nat) (r : Rec), l[i]? = some r ∧ ds[i]? = some d := by
  obtain ⟨i, hi⟩ := List.getElem?_of_mem hd
  have := (List.getElem?_eq_some_iff.1 hi).1
  exact ⟨i, _, List.getElem?_eq_getElem (by rw [← h.len]; exact this), hi⟩
theorem TO.dlt {w : World} {B : Nat} {v : Value} {l : List Rec} {ds : List Value} (h : TO w B v l ds) {d : Value} (hd : d ∈ ds) : ∀ k, d.ownBlock = some k → B ≤ k ∧ k < w.heap.size := by
  obtain ⟨i, r, hr, hdd⟩ := h.get hd
  exact (h.data i r d hr hdd).lt
/-- One record more, with data that is newer. -/
theorem TO.push {w w1 w' : World} {B : Nat} {v v' : Value} {l : List Rec} {ds : List Value} (h : TO w B v l ds) (hw : Below w.heap.size w w1) (hB : B ≤ w.heap.size) (r : Rec) (d : Value) (hd : w1.ownsRow w.heap.size 5 1 d r.data.length (Lib.byteCells r.data))
    (hown : w'.ownsRow B 48 5 v' (l.length + 1) (cellsR l ds ++ recC r d)) (ha : Ap v w1 v' w') : TO w' B v' (l ++ [r]) (ds ++ [d]) := by
  have h1 := h.later hw
  have hne : ∀ {x : Value} {n : Nat} {xs : List Value}, w1.ownsRow B 5 1 x n xs → w'.ownsRow B 5 1 x n xs := fun {x n xs} hx => ha.fr.own hx fun k h2 h3 => own_types hx h1.own rec_u8 k h2 h3
  refine ⟨by rw [List.length_append, cellsR_snoc r d l ds h.len]; exact hown, by simp [h.len], fun i q x hq hx => ?_, ?_⟩
  · by_cases hi : i < l.length
    · rw [List.getElem?_append_left hi] at hq
      rw [List.getElem?_append_left (by rw [h.len]; exact hi)] at hx
      exact hne (h1.data i q x hq hx)
    · rw [List.getElem?_append_right (by omega)] at hq
      rw [List.getElem?_append_right (by rw [h.len]; omega), h.len] at hx
      obtain ⟨e1, e2⟩ : i - l.length = 0 ∧ q = r := by
        rcases hk : i - l.length with _ | k
        · rw [hk] at hq; simpa [eq_comm] using hq
        · rw [hk] at hq; simp at hq
      rw [e1] at hx
      simp at hx
      subst hx; subst e2
      exact hne (own_base hd hB)
  · rw [List.pairwise_append]
    refine ⟨h.dj, List.pairwise_singleton _ _, fun x hx y hy k h2 h3 => ?_⟩
    rw [List.mem_singleton.1 hy] at h3
    have h4 := h.dlt hx k h2
    have h5 := hd.lt k h3
    omega
/-- A struct that an append takes. -/
theorem rec_info : (Tryz.prog.info? 48).map (fun i => (i.zero, i.size, i.bytes)) = some (some (.agg #[.int .i64 0, .int .i64 0, .bool false, .int .i64 0, .slice none 0 0]), 5, 56) := by kernel_rfl
end Go.Proofs.YtpciggnanlflkaaGreatDoor.Ad
