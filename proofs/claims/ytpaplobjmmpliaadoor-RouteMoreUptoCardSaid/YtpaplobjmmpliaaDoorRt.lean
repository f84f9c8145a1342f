/- Contract of the law RouteFinds. Conditions: addresses have sixteen bytes, numbers lie within 64 bits, at most 1048576 routes and destinations; the library tables hold what its text lays. -/
import Derived.Test.YtpaplobjmmpliaaDoorRr
namespace Go.Proofs.YtpaplobjmmpliaaDoor.Ad
set_option linter.unusedVariables false
set_option linter.unusedSimpArgs false
open Go.RowKit Go.Maps W
/-- A slice of addresses. -/
def AtA (w : World) (q : Option Go.Addr) (ds : List Addr) : Prop := ds = [] ∨ ∃ g o, q = some ⟨g, o, none⟩ ∧ g < w.heap.size ∧ ∀ (i : Nat) (a : Addr), ds[i]? = some a → w.rangeAt g (o + i * 17) a.vals
theorem AtA.later {w w' : World} {q : Option Go.Addr} {ds : List Addr} (h : AtA w q ds) (hb : Below w.heap.size w w') : AtA w' q ds := by
  rcases h with h | ⟨g, o, h1, h2, h3⟩
  · exact .inl h
  · exact .inr ⟨g, o, h1, Nat.lt_of_lt_of_le h2 hb.size, fun i a ha j v hv => (hb.cell (by exact h2)).trans (h3 i a ha j v hv)⟩
/-- What the law's world holds. -/
structure Fw (w : World) (t : Value) (s : List Rt) (W : World) : Prop where
  below : Below w.heap.size w W
  gl : Gl W
  tab : Tab w.heap.size W t s
theorem Fw.later {w W W' : World} {t : Value} {s : List Rt} (h : Fw w t s W) (hb : Below W.heap.size W W') : Fw w t s W' := ⟨h.below.trans (hb.mono h.below.size), h.gl.later hb, h.tab.later hb⟩
set_option maxRecDepth 100000 in
set_option maxHeartbeats 4000000 in
theorem finds_no {l : List Rt} (hl : ∀ r ∈ l, r.wf) (hm : mayV l = false) (hb : l.length ≤ 1048576) (p : Option Go.Addr) (c : Nat) (v : Value) (w : World) (hp : At w p l) (hn : p = none → c = 0) (hg : Gl w) :
    Calls Tryd.prog 3 #[.slice p l.length c, v] w fun e w' => e = .returned (.bool true) ∧ Below w.heap.size w w' := by
  have HP := Lib.hid hp
  have HG := Lib.hid hg
  have HOW := Lib.hid (own_calls (fun r hr => (hl r hr).ok) hb p c w hp hn)
  have HNW := Lib.hid (fun p c w' (h : At w' p l) => new_no hl hm p c w' h)
  have HMY := Lib.hid (fun w' (h : Below w.heap.size w w') => rmay_calls hl p c w' (hp.later h))
  rw [hm] at HMY
  obtain ⟨n, hnn⟩ : ∃ n, l.length = n := ⟨_, rfl⟩
  rw [hnn] at HOW HNW HMY ⊢
  clear hp hg hm hl hb hn hnn
  go_enter Tryd.func3, Tryd.ntmps3
  go_upto_region 2 with (first | (go_at_call 10; refine HOW.out.mono ?_; rintro e W2 ⟨p1, c1, rfl, hA1, _, hB2⟩) | (go_at_call 9; refine (HNW.out _ _ _ hA1.at).mono ?_; rintro e W3 ⟨rfl, hB3⟩))
  have HB := Lib.hid (hB2.trans (hB3.mono hB2.size))
  clear hB2 hB3 hA1
  go_wp2_with (first | (go_at_call 11; refine (known_calls _ (HG.out.later HB.out)).mono ?_; rintro e W4 ⟨rfl, hB4⟩; have HB := keep HB hB4; clear hB4) | (go_at_call 12; refine (HMY.out _ HB.out).mono ?_; rintro e W5 ⟨rfl, hB5⟩; have HB := keep HB hB5; clear hB5))
  go_ret
  exact ⟨rfl, HB.out⟩
set_option maxRecDepth 100000 in
set_option maxHeartbeats 4000000 in
theorem finds_yes {l : List Rt} (hl : ∀ r ∈ l, r.wf) (hm : mayV l = true) {ds : List Addr} (hd : ∀ a ∈ ds, a.ok) (hdb : ds.length ≤ 1048576) (p : Option Go.Addr) (c : Nat) (q : Option Go.Addr) (d : Nat) (w : World) (hp : At w p l) (hn : p = none → c = 0) (hq : AtA w q ds) (hg : Gl w) :
    Calls Tryd.prog 3 #[.slice p l.length c, .slice q ds.length d] w fun e w' => e = .returned (.bool true) ∧ Below w.heap.size w w' := by
  have HP := Lib.hid hp
  have HQ := Lib.hid hq
  have HG := Lib.hid hg
  have HD := Lib.hid hd
  have h32 := may_32 hm
  have HOW := Lib.hid (own_calls (fun r hr => (hl r hr).ok) (by omega) p c w hp hn)
  have HNW := Lib.hid (fun p c w' (h : AtS w' p l) => new_calls hl hm p c w' h)
  have HMY := Lib.hid (fun w' (h : Below w.heap.size w w') => rmay_calls hl p c w' (hp.later h))
  rw [hm] at HMY
  have HFI : Hid (∀ t w' a, a.ok → Tab w.heap.size w' t (sortV l) → Calls Tryd.prog 13 #[t, .agg a.vals.toArray] w' fun e w2 => e = .returned (.tuple #[.int .i64 (findV l a).1, .int .i64 (findV l a).2]) ∧ Below w'.heap.size w' w2) := Lib.hid fun t w' a ha ht => by
    have h := find_calls (sortV_wf hl) (by rw [sortV_len]; omega) w.heap.size t w' ht a ha
    rw [find_sort (fun r hr => (hl r hr).ok) (may_good hm)] at h
    exact h
  have HRF : Hid (∀ w' a, a.ok → Below w.heap.size w w' → Calls Tryd.prog 14 #[.slice p l.length c, .agg a.vals.toArray] w' fun e w2 => e = .returned (.tuple #[.int .i64 (findV l a).1, .int .i64 (findV l a).2]) ∧ Below w'.heap.size w' w2) := Lib.hid fun w' a ha h => rfind_calls hl h32 p c w' (hp.later h) a ha
  have HAL := Lib.hid (fun t w' (h : Tab w.heap.size w' t (sortV l)) => all_calls (sortV_wf hl) (by rw [sortV_len]; omega) w.heap.size t w' h)
  have HRA := Lib.hid (fun w' (h : Below w.heap.size w w') => rall_calls hl hm p c w' (hp.later h))
  have HSA : Hid (∀ p1 c1 p2 c2 w', At w' p1 (sortV l) → At w' p2 (sortV l) → Calls Tryd.prog 15 #[.slice p1 l.length c1, .slice p2 l.length c2] w' fun e w2 => e = .returned (.bool true) ∧ Below w'.heap.size w' w2) := Lib.hid fun p1 c1 p2 c2 w' h1 h2 => by
    have h := same_calls (sortV_wf hl) (sortV_wf hl) (by rw [sortV_len]; omega) p1 c1 p2 c2 w' h1 h2
    rw [decide_eq_true rfl, sortV_len] at h
    exact h
  simp only [sortV_len] at HAL
  obtain ⟨n, hnn⟩ : ∃ n, l.length = n := ⟨_, rfl⟩
  obtain ⟨m, hmm⟩ : ∃ m, ds.length = m := ⟨_, rfl⟩
  have HDM := Lib.hid hmm
  rw [hmm] at hdb
  rw [hnn] at HOW HNW HMY HRF HAL HRA HSA
  rw [hnn, hmm]
  clear hp hg hm hl hn hnn hmm hq hd h32
  go_enter Tryd.func3, Tryd.ntmps3
  go_upto_region 2 with (first | (go_at_call 10; refine HOW.out.mono ?_; rintro e W2 ⟨p1, c1, rfl, hA1, _, hB2⟩) | (go_at_call 9; refine (HNW.out _ _ _ hA1).mono ?_; rintro e W3 ⟨t, rfl, hT, hB3⟩))
  have HB := hB2.trans (hB3.mono hB2.size)
  have hT2 := hT.mono hB2.size
  obtain ⟨g0, _, rfl⟩ := hT2.ptr
  have HA : Hid (Fw w (.pointer (some ⟨g0, 0, none⟩)) (sortV l) W3) := Lib.hid ⟨HB, HG.out.later HB, hT2⟩
  clear hB2 hB3 hA1 HB hT hT2 HOW HNW
  go_upto_region 6 with (first | (go_at_call 11; refine (known_calls _ HA.out.gl).mono ?_; rintro e W4 ⟨rfl, hB4⟩; have HA := Lib.hid (HA.out.later hB4); clear hB4) | (go_at_call 12; refine (HMY.out _ HA.out.below).mono ?_; rintro e W5 ⟨rfl, hB5⟩; have HA := Lib.hid (HA.out.later hB5); clear hB5))
  clear HMY
  go_wp2
  go_loopw [7, 8, 9, 10, 11] (fun u _ _ _ _ wr => ∃ k : Nat, u = .int .i64 k ∧ k ≤ m ∧ Hid (Fw w (.pointer (some ⟨g0, 0, none⟩)) (sortV l) wr)) (fun u _ _ _ _ _ => m - (intOf u).toNat)
  case atStart => exact ⟨0, rfl, Nat.zero_le _, HA⟩
  case round =>
    obtain ⟨k, rfl, hk, HA⟩ := hrel
    by_cases hlt : k < m
    · have e1 : decide ((k : Int) < (m : Int)) = true := decide_eq_true (by omega)
      have e1' : decide (k < m) = true := decide_eq_true hlt
      have HK : Hid (k < ds.length) := Lib.hid (by have := HDM.out; omega)
      obtain ⟨a, ha⟩ : ∃ r, ds[k]? = some r := ⟨_, List.getElem?_eq_getElem HK.out⟩
      have hao := Lib.hid (HD.out a (List.mem_of_getElem? ha))
      have hap := HQ.out.later HA.out.below
      have HAI := Lib.hid ha
      clear ha
      rcases hap with hap | ⟨g, o, rfl, hgl, hh⟩
      · have := HK.out; rw [hap] at this; exact absurd this (Nat.not_lt_zero _)
      have HX := Lib.hid (hh k a HAI.out)
      have HGL := Lib.hid hgl
      clear hh hgl
      have FI := Lib.hid (fun w' h => HFI.out (.pointer (some ⟨g0, 0, none⟩)) w' a hao.out h)
      have RF := Lib.hid (fun w' h => HRF.out w' a hao.out h)
      obtain ⟨x, hx⟩ : ∃ x, (findV l a).1 = x := ⟨_, rfl⟩
      obtain ⟨y, hy⟩ : ∃ x, (findV l a).2 = x := ⟨_, rfl⟩
      rw [hx, hy] at FI RF
      have f1 : (x != x) = false := bne_self_eq_false _
      have f2 : (y != y) = false := bne_self_eq_false _
      clear hx hy
      go_upto_region 10 with (first | (refine wpList_load_at rfl 35 _ rfl g (o + k * 17) a.vals _ rfl HX.out Tryd.underlying35 rfl (by as_aux_lemma => exact asz hao.out) ?_) | (go_at_call 13; refine (FI.out _ HA.out.tab).mono ?_; rintro e W6 ⟨rfl, hB6⟩))
      have HA := Lib.hid (HA.out.later hB6)
      have HX : Hid (W6.rangeAt g (o + k * 17) a.vals) := Lib.hid fun j v hv => (hB6.cell (by exact HGL.out)).trans (HX.out j v hv)
      clear hB6
      go_wp2_with (first | (refine wpList_load_at rfl 35 _ rfl g (o + k * 17) a.vals _ rfl HX.out Tryd.underlying35 rfl (by as_aux_lemma => exact asz hao.out) ?_) | (go_at_call 14; refine (RF.out _ HA.out.below).mono ?_; rintro e W7 ⟨rfl, hB7⟩; have HA := Lib.hid (HA.out.later hB7); clear hB7))
      exact ⟨⟨k + 1, by go_num, by omega, HA⟩, by simp [intOf]; omega⟩
    · have e1 : decide ((k : Int) < (m : Int)) = false := decide_eq_false (by omega)
      have e1' : decide (k < m) = false := decide_eq_false hlt
      clear hlt
      go_wp2_with (first | (go_at_call 16; refine (HAL.out _ _ HA.out.tab).mono ?_; rintro e W8 ⟨p1, c1, rfl, hP1, _, hB8⟩; have HA := Lib.hid (HA.out.later hB8); clear hB8) | (go_at_call 17; refine (HRA.out _ HA.out.below).mono ?_; rintro e W9 ⟨p2, c2, rfl, hP2, _, hB9⟩; have HA := Lib.hid (HA.out.later hB9)) | (go_at_call 15; refine (HSA.out _ _ _ _ _ (hP1.later hB9).at hP2.at).mono ?_; rintro e W10 ⟨rfl, hB10⟩; have HA := Lib.hid (HA.out.later hB10); clear hB10))
      go_ret
      exact ⟨rfl, HA.out.below⟩
theorem finds_calls {l : List Rt} (hl : ∀ r ∈ l, r.wf) {ds : List Addr} (hd : ∀ a ∈ ds, a.ok) (hb : l.length ≤ 1048576) (hdb : ds.length ≤ 1048576) (p : Option Go.Addr) (c : Nat) (q : Option Go.Addr) (d : Nat) (w : World) (hp : At w p l) (hn : p = none → c = 0) (hq : AtA w q ds) (hg : Gl w) :
    Calls Tryd.prog 3 #[.slice p l.length c, .slice q ds.length d] w fun e w' => e = .returned (.bool true) ∧ Below w.heap.size w w' := by
  cases hm : mayV l
  · exact finds_no hl hm hb p c _ w hp hn hg
  · exact finds_yes hl hm hd hdb p c q d w hp hn hq hg
end Go.Proofs.YtpaplobjmmpliaaDoor.Ad
