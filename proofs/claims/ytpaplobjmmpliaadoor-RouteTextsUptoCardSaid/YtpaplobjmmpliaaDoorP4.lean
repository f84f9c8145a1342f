/- A list of routes copied, its row told; a table asked for, either way. Conditions: addresses have sixteen bytes, numbers lie within 64 bits. The walk of RouteTexts. Conditions: addresses have sixteen bytes, numbers lie within 64 bits, at most 1048576 routes, the text at most 1048576 letters; the library tables hold what its text lays. -/
import Derived.Test.YtpaplobjmmpliaaDoorP3
import Derived.Test.YtpaplobjmmpliaaDoorRk
import Derived.Test.YtpaplobjmmpliaaDoorRn
import Derived.Deep.AppendLies
import Derived.Shelf.Abstract
namespace Go.Proofs.YtpaplobjmmpliaaDoor.Ad
set_option linter.unusedVariables false
set_option linter.unusedSimpArgs false
open Go.RowKit Go.Maps W
set_option maxRecDepth 100000 in
set_option maxHeartbeats 4000000 in
theorem own_row {l : List Rt} (hl : ∀ r ∈ l, r.ok) (hb : l.length ≤ 1048576) (p : Option Go.Addr) (c : Nat) (w : World) (hp : At w p l) (hn : p = none → c = 0) : Calls Tryd.prog 10 #[.slice p l.length c] w fun e w' =>
    ∃ v, e = .returned v ∧ w'.ownsRow w.heap.size 44 19 v l.length (flat l) ∧ Below w.heap.size w w' := by
  obtain ⟨i0, hi, hz0, hz1, hz2⟩ := info_parts (show (Tryd.prog.info? 44).map (fun i => (i.zero, i.size, i.bytes)) = some (some (.agg zeroRt.cells), 19, 40) by kernel_rfl)
  have HC : Hid (∀ ad, p = some ad → ∀ j u, (flat l)[j]? = some u → w.cell? (ad.add j) = some u) := Lib.hid fun ad had j u hu => by
    rcases hp with h | ⟨g, o, h1, h2, h3⟩
    · subst h; cases hu
    · rw [h1] at had; injection had with had; subst had
      rw [Addr.add_lit]
      exact has_cells hl h3 j u hu
  have HF := Lib.hid (flat_len hl)
  have HL := Lib.hid hl
  cases p with
  | none =>
    obtain rfl := hn rfl
    obtain rfl : l = [] := by
      rcases hp with h | ⟨g, o, h1, _⟩
      · exact h
      · cases h1
    go_enter Tryd.func10, Tryd.ntmps10
    go_wp2_with (at_builtin; refine wpList_append_own_none rfl _ _ 22 rfl w.heap.size 44 i0 19 Tryd.underlying22 hi _ 0 [] rfl (World.ownsRow_nil _ _ _ _) rfl ?_)
    go_ret
    exact ⟨_, rfl, World.ownsRow_nil _ _ _ _, Below.refl _ _⟩
  | some ad =>
    obtain ⟨n, hnn⟩ : ∃ n, l.length = n := ⟨_, rfl⟩
    rw [hnn] at HF hb ⊢
    have HN := Lib.hid hnn
    clear hp hl hn hnn
    go_enter Tryd.func10, Tryd.ntmps10
    go_wp2_with (at_builtin; refine wpList_append_own _ rfl _ _ 22 rfl w.heap.size 44 i0 _ 19 40 Tryd.underlying22 hi hz0 hz1 hz2 (by rfl) (by omega) _ 0 [] rfl (World.ownsRow_nil _ _ _ _) ad n c (flat l) rfl HF.out (HC.out ad rfl) (flat_one l) (by unfold maxLen; omega) (by omega) (Nat.le_refl _) ?_; intro v' w1 hown hgrow hnil)
    go_ret
    exact ⟨v', rfl, by simpa using hown, (Below.refl _ w).grown hgrow (Nat.le_refl _) (by intro k hk; cases hk)⟩
def errV (m : Bool) : Int := if m = true then 0 else 1
/-- New, either way. -/
theorem new_any {l : List Rt} (hl : ∀ r ∈ l, r.wf) (p : Option Go.Addr) (c : Nat) (w : World) (hp : AtS w p l) : Calls Tryd.prog 9 #[.slice p l.length c] w fun e w' =>
    ∃ t, e = .returned (.tuple #[t, .int .i64 (errV (mayV l))]) ∧ (mayV l = true → Tab w.heap.size w' t (sortV l)) ∧ (mayV l = false → t = .pointer none) ∧ Below w.heap.size w w' := by
  cases hm : mayV l
  · refine (new_no hl hm p c w hp.at).mono ?_
    rintro e w' ⟨rfl, hB⟩
    exact ⟨_, rfl, (fun h => by cases h), (fun _ => rfl), hB⟩
  · refine (new_calls hl hm p c w hp).mono ?_
    rintro e w' ⟨t, rfl, hT, hB⟩
    exact ⟨t, rfl, (fun _ => hT), (fun h => by cases h), hB⟩
/-- One operation of a region that draws its order: the only one that may come up. -/
theorem any_step {P : Program} {md : Region.Mode} {ops : Array Oper} {Q : Exit → Act → World → Prop} {fuel : Nat} {listed : Array Bool} {a : Act} {w : World} (i : Nat) {o : Oper} (hr : Region.ready md ops listed = [i]) (ho : ops[i]? = some o) (hg : o.guard = none)
    (h : Oper.wp P o a w (wpAny P md ops Q fuel (listed.setIfInBounds i true)) Q) : wpAny P md ops Q (fuel + 1) listed a w :=
  wpAny_ready hr (by simp) (AllReady.cons ho (fun K hK => by rw [if_pos (by simp [Region.wanted, hg])]; exact Oper.wp_mono hK h) AllReady.nil)
/-- .. or one of two. -/
theorem any_step2 {P : Program} {md : Region.Mode} {ops : Array Oper} {Q : Exit → Act → World → Prop} {fuel : Nat} {listed : Array Bool} {a : Act} {w : World} (i j : Nat) {o p : Oper} (hr : Region.ready md ops listed = [i, j]) (ho : ops[i]? = some o) (hp : ops[j]? = some p) (hg : o.guard = none) (hgp : p.guard = none)
    (h : Oper.wp P o a w (wpAny P md ops Q fuel (listed.setIfInBounds i true)) Q) (h2 : Oper.wp P p a w (wpAny P md ops Q fuel (listed.setIfInBounds j true)) Q) : wpAny P md ops Q (fuel + 1) listed a w :=
  wpAny_ready hr (by simp) (AllReady.cons ho (fun K hK => by rw [if_pos (by simp [Region.wanted, hg])]; exact Oper.wp_mono hK h)
    (AllReady.cons hp (fun K hK => by rw [if_pos (by simp [Region.wanted, hgp])]; exact Oper.wp_mono hK h2) AllReady.nil))
theorem wp_slice1 {o : Oper} {a : Act} {w : World} {K : Act → World → Prop} {Q : Exit → Act → World → Prop} (x : Operand) (ho : o.op = .buildSlice 22 1 #[(0, x)])
    (r : Rt) (hr : r.ok) (hx : a.eval x = .agg r.vals.toArray)
    (h : K (a.put o.dst (.slice (some ⟨w.heap.size, 0, none⟩) 1 1)) (w.alloc (.cells r.cells 44))) : o.wp Tryd.prog a w K Q := by
  obtain ⟨i0, hi, hz0, hz1, hz2⟩ := info_parts (show (Tryd.prog.info? 44).map (fun i => (i.zero, i.size, i.bytes)) = some (some (.agg zeroRt.cells), 19, 40) by kernel_rfl)
  refine wp_buildSlice 22 44 1 _ ho r.cells i0 _ Tryd.underlying22 hi hz0 (by rw [hz1]; omega) (by rw [hz1]; omega) ?_ h
  rw [hz1]
  have e : (Array.map (fun (x : Nat × Operand) => match x with | (i, x) => (i, a.eval x)) #[(0, x)]).toList = [(0, .agg r.vals.toArray)] := by simp [hx]
  have := fill_rt hr
  rw [← e] at this
  exact this
theorem full_at {w : World} {g : Nat} {r : Rt} (h : Blk w g 44 r.cells) : w.rangeAt g 0 r.vals := fun j v hj => by
  rw [Nat.zero_add, h.cell]; simpa [Rt.cells] using hj
theorem own_lat {w w' : World} {B : Nat} {E : TypeId} {size : Nat} {v : Value} {n : Nat} {xs : List Value} (h : w.ownsRow B E size v n xs) (hb : Below w.heap.size w w') : w'.ownsRow B E size v n xs := by
  rcases h with ⟨h1, h2⟩
  refine ⟨h1, ?_⟩
  rcases h2 with h2 | ⟨g, cap, cur, e, hB, hg, r⟩
  · exact .inl h2
  · exact .inr ⟨g, cap, cur, e, hB, (hb.block g (Array.getElem?_eq_some_iff.1 hg).1).trans hg, r⟩
/-- A call of a Go function as one such step. -/
theorem wp_enter {P : Program} {o : Oper} {a : Act} {w : World} {K : Act → World → Prop} {Q : Exit → Act → World → Prop} (f : FuncId) (args : Array Value) (hrun : (execOp a.eval o).run P w = .ok (.enter f args) w)
    (h : Calls P f args w fun e w' => ∃ v, e = .returned v ∧ K (a.put o.dst v) w') : o.wp P a w K Q := by
  unfold Oper.wp
  rw [hrun, Oper.upon_enter]
  refine h.mono fun e w' ⟨v, he, hk⟩ => ?_
  subst he; exact hk
end Go.Proofs.YtpaplobjmmpliaaDoor.Ad
namespace Go.Proofs.YtpaplobjmmpliaaDoor.Ad
set_option linter.unusedVariables false
set_option linter.unusedSimpArgs false
open Go.RowKit Go.Maps W
theorem parsed_wf (l : List UInt8) : ∀ r ∈ (parseV l).1, r.wf := fun r hr => by
  unfold parseV at hr
  cases h : linesV l with
  | none => rw [h] at hr; cases hr
  | some m =>
    rw [h] at hr
    simp only at hr
    split at hr
    · exact linesV_wf _ l (Nat.le_refl _) m h r hr
    · cases hr
theorem parsed_len (l : List UInt8) : (parseV l).1.length ≤ 32 := by
  unfold parseV
  cases h : linesV l with
  | none => simp
  | some m =>
    simp only
    split
    · rename_i h2; exact may_32 h2
    · simp
theorem sorted_wf {k : List Rt} (hk : ∀ r ∈ k, r.wf) : ∀ r ∈ sortV k, r.wf := sortV_wf hk
/-- A printed list, read. -/
theorem back_calls {k : List Rt} (hk : ∀ r ∈ k, r.wf) (hm : mayV k = true) (w : World) (hg : Gl w) : Calls Tryd.prog 18 #[.string (S (linesT (sortV k)))] w fun e w' =>
    ∃ p c, e = .returned (.tuple #[.slice p k.length c, .int .i64 0]) ∧ AtS w' p (sortV k) ∧ (∀ a, p = some a → w.heap.size ≤ a.block) ∧ Below w.heap.size w w' := by
  have hl := printed_le (fun r hr => (hk r hr).ok) hm
  have h := rparse21_calls (linesT (sortV k)) (by omega) w hg
  rw [print_back (fun r hr => (hk r hr).ok) hm] at h
  simp only [sortV_len] at h
  exact h
/-- A list that may be, printed. -/
theorem printk_calls {k : List Rt} (hk : ∀ r ∈ k, r.wf) (hm : mayV k = true) (p : Option Go.Addr) (c : Nat) (w : World) (hp : AtS w p k) (hg : Gp w) : Calls Tryd.prog 21 #[.slice p k.length c] w fun e w' =>
    e = .returned (.tuple #[.string (S (linesT (sortV k))), .int .i64 0]) ∧ Below w.heap.size w w' := by
  have h := printl_calls hk p c w hp hg
  have e : printR k = (linesT (sortV k), 0) := by unfold printR; rw [hm]; rfl
  rw [e] at h
  exact h
/-- .. and when it is in order. -/
theorem prints_calls {k : List Rt} (hk : ∀ r ∈ k, r.wf) (hm : mayV k = true) (p : Option Go.Addr) (c : Nat) (w : World) (hp : AtS w p (sortV k)) (hg : Gp w) : Calls Tryd.prog 21 #[.slice p k.length c] w fun e w' =>
    e = .returned (.tuple #[.string (S (linesT (sortV k))), .int .i64 0]) ∧ Below w.heap.size w w' := by
  have hok : ∀ r ∈ k, r.ok := fun r hr => (hk r hr).ok
  have h := printk_calls (k := sortV k) (sortV_wf hk) (sort_all hok hm).2 p c w hp hg
  rw [sort_again hok hm, sortV_len] at h
  exact h
/-- A list that may not be, printed. -/
theorem printn_calls {k : List Rt} (hk : ∀ r ∈ k, r.wf) (hm : mayV k = false) (p : Option Go.Addr) (c : Nat) (w : World) (hp : AtS w p k) (hg : Gp w) : Calls Tryd.prog 21 #[.slice p k.length c] w fun e w' =>
    e = .returned (.tuple #[.string ⟨#[]⟩, .int .i64 1]) ∧ Below w.heap.size w w' := by
  have h := printl_calls hk p c w hp hg
  have e : printR k = ([], 1) := by unfold printR; rw [hm]; rfl
  rw [e] at h
  exact h
theorem alls_calls {k : List Rt} (hk : ∀ r ∈ k, r.wf) (hm : mayV k = true) (B : Nat) (t : Value) (w : World) (ht : Tab B w t (sortV k)) : Calls Tryd.prog 16 #[t] w fun e w' =>
    ∃ p c, e = .returned (.slice p k.length c) ∧ AtS w' p (sortV k) ∧ (∀ a, p = some a → w.heap.size ≤ a.block) ∧ Below w.heap.size w w' := by
  have h := all_calls (sortV_wf hk) (by rw [sortV_len]; exact may_32 hm) B t w ht
  rw [sortV_len] at h
  exact h
theorem sames_calls {k : List Rt} (hk : ∀ r ∈ k, r.wf) (hm : mayV k = true) (p1 : Option Go.Addr) (c1 : Nat) (p2 : Option Go.Addr) (c2 : Nat) (w : World) (h1 : AtS w p1 (sortV k)) (h2 : AtS w p2 (sortV k)) :
    Calls Tryd.prog 15 #[.slice p1 k.length c1, .slice p2 k.length c2] w fun e w' => e = .returned (.bool true) ∧ Below w.heap.size w w' := by
  have h := same_calls (sortV_wf hk) (sortV_wf hk) (by rw [sortV_len]; have := may_32 hm; omega) p1 c1 p2 c2 w h1.at h2.at
  rw [decide_eq_true rfl, sortV_len] at h
  exact h
theorem S_self (l : List UInt8) : ((S l).toList != (S l).toList) = false := bne_self_eq_false _
/-- What Parse answers: a list that may be, or an error. -/
theorem parse_ways (l : List UInt8) : parseV l = ([], 1) ∨ parseV l = ([], 2) ∨ ∃ k, parseV l = (k, 0) ∧ mayV k = true := by
  unfold parseV
  cases linesV l with
  | none => exact .inr (.inl rfl)
  | some m =>
    simp only
    by_cases h : mayV m = true
    · rw [if_pos h]; exact .inr (.inr ⟨m, rfl, h⟩)
    · rw [if_neg h]; exact .inl rfl
set_option maxRecDepth 100000 in
set_option maxHeartbeats 4000000 in
theorem texts_calls {l : List Rt} (hl : ∀ r ∈ l, r.wf) (hb : l.length ≤ 1048576) (s : ByteArray) (hs : s.size ≤ 1048576) (p : Option Go.Addr) (c : Nat) (w : World) (hp : At w p l) (hn : p = none → c = 0) (hg : Gp w) :
    Calls Tryd.prog 7 #[.slice p l.length c, .string s] w fun e w' => e = .returned (.bool true) ∧ Below w.heap.size w w' := by
  have HG := Lib.hid hg
  obtain ⟨sl, hsl⟩ : ∃ l, s.data.toList = l := ⟨_, rfl⟩
  have hse : s = S sl := by rw [← hsl]; exact (S_of s).symm
  have hll : sl.length < 4294967281 := by rw [← hsl]; have : s.data.toList.length = s.size := by rw [Array.length_toList]; rfl
                                          omega
  subst hse
  have HOW := Lib.hid (fun w' (h : Below w.heap.size w w') => own_calls (fun r hr => (hl r hr).ok) hb p c w' (hp.later h) hn)
  have HSP := Lib.hid (fun w hg => rparse21_calls sl hll w hg)
  have HTL : Hid (∀ k, parseV sl = (k, 0) → ∀ r ∈ k, r.wf) := Lib.hid fun k hk r hr => parsed_wf sl r (by rw [hk]; exact hr)
  obtain ⟨m1, hm1⟩ : ∃ m, mayV l = m := ⟨_, rfl⟩
  have hways := parse_ways sl
  clear hp hn hg hs hsl hll
  cases m1
  · have HNW := Lib.hid (fun p c w' (h : AtS w' p l) => new_no hl hm1 p c w' h.at)
    have HPR := Lib.hid (fun p c w' (h : AtS w' p l) hg => printn_calls hl hm1 p c w' h hg)
    obtain ⟨n, hnn⟩ : ∃ n, l.length = n := ⟨_, rfl⟩
    rw [hnn] at HOW HNW HPR ⊢
    clear hnn hb hl hm1
    go_enter Tryd.func7, Tryd.ntmps7
    have HB := Lib.hid (Below.refl w.heap.size w)
    go_upto_region 2 with (first | (go_at_call 10; refine (HOW.out _ HB.out).mono ?_; rintro e W2 ⟨p1, c1, rfl, hA1, _, hB2⟩; have HB := keep HB hB2) | (go_at_call 9; refine (HNW.out _ _ _ hA1).mono ?_; rintro e W3 ⟨rfl, hB3⟩; have HB := keep HB hB3))
    clear hA1 hB2 hB3
    go_upto_region 3 with (first | (go_at_call 10; refine (HOW.out _ HB.out).mono ?_; rintro e W4 ⟨p2, c2, rfl, hA2, _, hB4⟩; have HB := keep HB hB4) | (go_at_call 21; refine (HPR.out _ _ _ hA2 (HG.out.later HB.out)).mono ?_; rintro e W5 ⟨rfl, hB5⟩; have HB := keep HB hB5))
    clear hA2 hB4 hB5
    go_upto_region 10 with (go_at_call 11; refine (known_calls _ (HG.out.later HB.out).gl).mono ?_; rintro e W6 ⟨rfl, hB6⟩; have HB := keep HB hB6; clear hB6)
    rcases hways with h | h | ⟨k, h, hm⟩
    · rw [h] at HSP
      clear h HTL
      go_wp2_with (go_at_call 18; refine (HSP.out _ (HG.out.later HB.out).gl).mono ?_; rintro e WA ⟨p5, c5, rfl, _, _, hBA⟩)
      go_ret
      exact ⟨rfl, (keep HB hBA).out⟩
    · rw [h] at HSP
      clear h HTL
      go_wp2_with (go_at_call 18; refine (HSP.out _ (HG.out.later HB.out).gl).mono ?_; rintro e WA ⟨p5, c5, rfl, _, _, hBA⟩)
      go_ret
      exact ⟨rfl, (keep HB hBA).out⟩
    · have hk := HTL.out k h
      rw [h] at HSP
      have HNW := Lib.hid (fun p c w' (h : AtS w' p k) => new_calls hk hm p c w' h)
      have HPR := Lib.hid (fun p c w' (h : AtS w' p k) hg => printk_calls hk hm p c w' h hg)
      have HPA := Lib.hid (fun w' hg => back_calls hk hm w' hg)
      have HAL := Lib.hid (fun t w' (h : Tab w.heap.size w' t (sortV k)) => alls_calls hk hm w.heap.size t w' h)
      have HSA := Lib.hid (fun p1 c1 p2 c2 w' h1 h2 => sames_calls hk hm p1 c1 p2 c2 w' h1 h2)
      simp only at HSP
      obtain ⟨nk, hnk⟩ : ∃ n, k.length = n := ⟨_, rfl⟩
      obtain ⟨qk, hqk⟩ : ∃ q, linesT (sortV k) = q := ⟨_, rfl⟩
      rw [hnk] at HSP HNW HPR HPA HAL HSA
      rw [hqk] at HPR HPA
      have f2 : ((nk : Int) == (nk : Int)) = true := beq_self_eq_true _
      clear h hnk hqk hm hk HTL
      go_upto_region 13 with (go_at_call 18; refine (HSP.out _ (HG.out.later HB.out).gl).mono ?_; rintro e WA ⟨p5, c5, rfl, hA5, _, hBA⟩)
      have HB := keep HB hBA
      have HA5 := Lib.hid hA5
      clear hBA hA5
      go_upto_region 14 with (go_at_call 9; refine (HNW.out _ _ _ HA5.out).mono ?_; rintro e WB ⟨t2, rfl, hT2, hBB⟩)
      have HT2 : Hid (Tab w.heap.size WB t2 (sortV k)) := Lib.hid (hT2.mono HB.out.size)
      have HB := keep HB hBB
      have HA5 := Lib.hid (HA5.out.later hBB)
      obtain ⟨g2, _, rfl⟩ := HT2.out.ptr
      clear hBB hT2
      go_upto_region 15 with (go_at_call 21; refine (HPR.out _ _ _ HA5.out (HG.out.later HB.out)).mono ?_; rintro e WC ⟨rfl, hBC⟩)
      have HB := keep HB hBC
      have HT2 := Lib.hid (HT2.out.later hBC)
      clear hBC
      go_upto_region 16 with (go_at_call 18; refine (HPA.out _ (HG.out.later HB.out).gl).mono ?_; rintro e WD ⟨p6, c6, rfl, hA6, _, hBD⟩)
      have HB := keep HB hBD
      have HT2 := Lib.hid (HT2.out.later hBD)
      have HA6 := Lib.hid hA6
      clear hBD hA6
      go_wp2_with (first | (go_at_call 16; refine (HAL.out _ _ HT2.out).mono ?_; rintro e WE ⟨p7, c7, rfl, hA7, _, hBE⟩; have HB := keep HB hBE; have HA6 := Lib.hid (HA6.out.later hBE)) | (go_at_call 15; refine (HSA.out _ _ _ _ _ HA6.out hA7).mono ?_; rintro e WF ⟨rfl, hBF⟩; have HB := keep HB hBF))
      go_ret
      exact ⟨rfl, HB.out⟩
  · have HNW := Lib.hid (fun p c w' (h : AtS w' p l) => new_calls hl hm1 p c w' h)
    have HPR := Lib.hid (fun p c w' (h : AtS w' p l) hg => printk_calls hl hm1 p c w' h hg)
    have HPS := Lib.hid (fun p c w' (h : AtS w' p (sortV l)) hg => prints_calls hl hm1 p c w' h hg)
    have HPA := Lib.hid (fun w' hg => back_calls hl hm1 w' hg)
    have HAL := Lib.hid (fun t w' (h : Tab w.heap.size w' t (sortV l)) => alls_calls hl hm1 w.heap.size t w' h)
    have HSA := Lib.hid (fun p1 c1 p2 c2 w' h1 h2 => sames_calls hl hm1 p1 c1 p2 c2 w' h1 h2)
    obtain ⟨n, hnn⟩ : ∃ n, l.length = n := ⟨_, rfl⟩
    obtain ⟨q, hq⟩ : ∃ q, linesT (sortV l) = q := ⟨_, rfl⟩
    rw [hnn] at HOW HNW HPR HPS HPA HAL HSA ⊢
    rw [hq] at HPR HPS HPA
    clear hnn hb hl hm1 hq
    have f1 := S_self q
    go_enter Tryd.func7, Tryd.ntmps7
    have HB := Lib.hid (Below.refl w.heap.size w)
    go_upto_region 2 with (first | (go_at_call 10; refine (HOW.out _ HB.out).mono ?_; rintro e W2 ⟨p1, c1, rfl, hA1, _, hB2⟩; have HB := keep HB hB2) | (go_at_call 9; refine (HNW.out _ _ _ hA1).mono ?_; rintro e W3 ⟨t, rfl, hT, hB3⟩))
    have HT : Hid (Tab w.heap.size W3 t (sortV l)) := Lib.hid (hT.mono HB.out.size)
    have HB := keep HB hB3
    obtain ⟨g, _, rfl⟩ := HT.out.ptr
    clear hA1 hB2 hB3 hT
    go_upto_region 3 with (first | (go_at_call 10; refine (HOW.out _ HB.out).mono ?_; rintro e W4 ⟨p2, c2, rfl, hA2, _, hB4⟩; have HB := keep HB hB4; have HT := Lib.hid (HT.out.later hB4)) | (go_at_call 21; refine (HPR.out _ _ _ hA2 (HG.out.later HB.out)).mono ?_; rintro e W5 ⟨rfl, hB5⟩; have HB := keep HB hB5; have HT := Lib.hid (HT.out.later hB5)))
    clear hA2 hB4 hB5
    go_upto_region 6 with (go_at_call 11; refine (known_calls _ (HG.out.later HB.out).gl).mono ?_; rintro e W6 ⟨rfl, hB6⟩; have HB := keep HB hB6; have HT := Lib.hid (HT.out.later hB6); clear hB6)
    go_upto_region 7 with (go_at_call 18; refine (HPA.out _ (HG.out.later HB.out).gl).mono ?_; rintro e W7 ⟨p3, c3, rfl, hA3, _, hB7⟩)
    have HB := keep HB hB7
    have HT := Lib.hid (HT.out.later hB7)
    have HA3 := Lib.hid hA3
    clear hB7 hA3
    go_upto_region 8 with (go_at_call 21; refine (HPS.out _ _ _ HA3.out (HG.out.later HB.out)).mono ?_; rintro e W8 ⟨rfl, hB8⟩)
    have HB := keep HB hB8
    have HT := Lib.hid (HT.out.later hB8)
    have HA3 := Lib.hid (HA3.out.later hB8)
    clear hB8
    go_upto_region 10 with (first | (go_at_call 16; refine (HAL.out _ _ HT.out).mono ?_; rintro e W9 ⟨p4, c4, rfl, hA4, _, hB9⟩; have HB := keep HB hB9; have HA3 := Lib.hid (HA3.out.later hB9)) | (go_at_call 15; refine (HSA.out _ _ _ _ _ HA3.out hA4).mono ?_; rintro e W10 ⟨rfl, hB10⟩; have HB := keep HB hB10))
    clear hB9 hA4 hB10 HA3 HT
    rcases hways with h | h | ⟨k, h, hm⟩
    · rw [h] at HSP
      clear h HTL
      go_wp2_with (go_at_call 18; refine (HSP.out _ (HG.out.later HB.out).gl).mono ?_; rintro e WA ⟨p5, c5, rfl, _, _, hBA⟩)
      go_ret
      exact ⟨rfl, (keep HB hBA).out⟩
    · rw [h] at HSP
      clear h HTL
      go_wp2_with (go_at_call 18; refine (HSP.out _ (HG.out.later HB.out).gl).mono ?_; rintro e WA ⟨p5, c5, rfl, _, _, hBA⟩)
      go_ret
      exact ⟨rfl, (keep HB hBA).out⟩
    · have hk := HTL.out k h
      rw [h] at HSP
      have HNW := Lib.hid (fun p c w' (h : AtS w' p k) => new_calls hk hm p c w' h)
      have HPR := Lib.hid (fun p c w' (h : AtS w' p k) hg => printk_calls hk hm p c w' h hg)
      have HPA := Lib.hid (fun w' hg => back_calls hk hm w' hg)
      have HAL := Lib.hid (fun t w' (h : Tab w.heap.size w' t (sortV k)) => alls_calls hk hm w.heap.size t w' h)
      have HSA := Lib.hid (fun p1 c1 p2 c2 w' h1 h2 => sames_calls hk hm p1 c1 p2 c2 w' h1 h2)
      simp only at HSP
      obtain ⟨nk, hnk⟩ : ∃ n, k.length = n := ⟨_, rfl⟩
      obtain ⟨qk, hqk⟩ : ∃ q, linesT (sortV k) = q := ⟨_, rfl⟩
      rw [hnk] at HSP HNW HPR HPA HAL HSA
      rw [hqk] at HPR HPA
      have f2 : ((nk : Int) == (nk : Int)) = true := beq_self_eq_true _
      clear h hnk hqk hm hk HTL
      go_upto_region 13 with (go_at_call 18; refine (HSP.out _ (HG.out.later HB.out).gl).mono ?_; rintro e WA ⟨p5, c5, rfl, hA5, _, hBA⟩)
      have HB := keep HB hBA
      have HA5 := Lib.hid hA5
      clear hBA hA5
      go_upto_region 14 with (go_at_call 9; refine (HNW.out _ _ _ HA5.out).mono ?_; rintro e WB ⟨t2, rfl, hT2, hBB⟩)
      have HT2 : Hid (Tab w.heap.size WB t2 (sortV k)) := Lib.hid (hT2.mono HB.out.size)
      have HB := keep HB hBB
      have HA5 := Lib.hid (HA5.out.later hBB)
      obtain ⟨g2, _, rfl⟩ := HT2.out.ptr
      clear hBB hT2
      go_upto_region 15 with (go_at_call 21; refine (HPR.out _ _ _ HA5.out (HG.out.later HB.out)).mono ?_; rintro e WC ⟨rfl, hBC⟩)
      have HB := keep HB hBC
      have HT2 := Lib.hid (HT2.out.later hBC)
      clear hBC
      go_upto_region 16 with (go_at_call 18; refine (HPA.out _ (HG.out.later HB.out).gl).mono ?_; rintro e WD ⟨p6, c6, rfl, hA6, _, hBD⟩)
      have HB := keep HB hBD
      have HT2 := Lib.hid (HT2.out.later hBD)
      have HA6 := Lib.hid hA6
      clear hBD hA6
      go_wp2_with (first | (go_at_call 16; refine (HAL.out _ _ HT2.out).mono ?_; rintro e WE ⟨p7, c7, rfl, hA7, _, hBE⟩; have HB := keep HB hBE; have HA6 := Lib.hid (HA6.out.later hBE)) | (go_at_call 15; refine (HSA.out _ _ _ _ _ HA6.out hA7).mono ?_; rintro e WF ⟨rfl, hBF⟩; have HB := keep HB hBF))
      go_ret
      exact ⟨rfl, HB.out⟩
end Go.Proofs.YtpaplobjmmpliaaDoor.Ad
