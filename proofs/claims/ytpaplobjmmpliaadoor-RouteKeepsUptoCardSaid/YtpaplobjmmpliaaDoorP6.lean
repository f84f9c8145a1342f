/- Lists of routes that own their memory: what a store and an append leave of the others. Conditions: none beyond those that each theorem states. All, Parse and own: the row of routes that they hand out owns its memory. Conditions: a text is shorter than 2^32 - 15; addresses have sixteen bytes, numbers lie within 64 bits; the library tables hold what its text lays. What marked does to its lists, plain, and its words for memory. Conditions: none beyond those that each theorem states. Contract of the law's own marked: all lists hold what they held; each is written full, and lengthened. Conditions: at most six lists of at most 32 routes, each with memory of its own. Words for the memory that RouteKeeps asks for: lists kept and their copies, each with memory of its own. Conditions: none beyond those that each theorem states. The walk of RouteKeeps. Conditions: addresses have sixteen bytes, numbers lie within 64 bits, at most 1048576 routes and destinations; the library tables hold what its text lays. -/
import Derived.Test.YtpaplobjmmpliaaDoorP3
import Derived.Test.YtpaplobjmmpliaaDoorRk
import Derived.Test.YtpaplobjmmpliaaDoorRn
import Derived.Test.YtpaplobjmmpliaaDoorRo
import Derived.Deep.AppendLies
import Derived.Laws.OwnMore
namespace Go.Proofs.YtpaplobjmmpliaaDoor.Ad
set_option linter.unusedVariables false
set_option linter.unusedSimpArgs false
open Go.RowKit W
/-- Outside the blocks of S all stands as it stood. -/
structure Fr (S : Nat → Prop) (w w' : World) : Prop where
  os : w'.os = w.os
  tape : w'.tape = w.tape
  output : w'.output = w.output
  size : w.heap.size ≤ w'.heap.size
  block : ∀ k, k < w.heap.size → ¬ S k → w'.heap[k]? = w.heap[k]?
theorem Fr.of {S : Nat → Prop} {w w' : World} (h : Below w.heap.size w w') : Fr S w w' := ⟨h.os, h.tape, h.output, h.size, fun k hk _ => h.block k hk⟩
theorem Fr.refl (S : Nat → Prop) (w : World) : Fr S w w := Fr.of (Below.refl _ _)
theorem Fr.trans {S : Nat → Prop} {w w' w'' : World} (h : Fr S w w') (k : Fr S w' w'') : Fr S w w'' :=
  ⟨k.os.trans h.os, k.tape.trans h.tape, k.output.trans h.output, Nat.le_trans h.size k.size, fun j hj hS => (k.block j (Nat.lt_of_lt_of_le hj h.size) hS).trans (h.block j hj hS)⟩
theorem Fr.mono {S T : Nat → Prop} {w w' : World} (h : Fr S w w') (hS : ∀ k, k < w.heap.size → S k → T k) : Fr T w w' := ⟨h.os, h.tape, h.output, h.size, fun k hk hT => h.block k hk fun hs => hT (hS k hk hs)⟩
theorem Fr.below {S : Nat → Prop} {B : Nat} {w w' : World} (h : Fr S w w') (hB : ∀ k, k < B → ¬ S k) (hw : B ≤ w.heap.size) : Below B w w' := ⟨h.os, h.tape, h.output, h.size, fun k hk => h.block k (Nat.lt_of_lt_of_le hk hw) (hB k hk)⟩
theorem Fr.grown {w w' : World} {row : Option Nat} (h : w.grownBy w' row) : Fr (fun k => row = some k) w w' := ⟨h.os, h.tape, h.output, h.size, fun k hk hS => h.block k hk fun e => hS e.symm⟩
theorem Fr.cell {S : Nat → Prop} {w w' : World} (h : Fr S w w') {a : Go.Addr} {u : Value} (hc : w.cell? a = some u) (hS : ¬ S a.block) : w'.cell? a = some u :=
  (World.cell?_of_block (h.block a.block (World.block_lt_of_cell? w a hc) hS)).trans hc
theorem Fr.range {S : Nat → Prop} {w w' : World} (h : Fr S w w') {g o : Nat} {vs : List Value} (hr : w.rangeAt g o vs) (hS : ¬ S g) : w'.rangeAt g o vs := fun j v hv => h.cell (hr j v hv) hS
theorem Fr.own {S : Nat → Prop} {w w' : World} (h : Fr S w w') {B : Nat} {E : TypeId} {size : Nat} {v : Value} {n : Nat} {xs : List Value} (ho : w.ownsRow B E size v n xs) (hS : ∀ k, v.ownBlock = some k → ¬ S k) : w'.ownsRow B E size v n xs := by
  rcases ho with ⟨h1, h2⟩
  refine ⟨h1, ?_⟩
  rcases h2 with h2 | ⟨g, cap, cur, e, hB, hg, r⟩
  · exact .inl h2
  · exact .inr ⟨g, cap, cur, e, hB, (h.block g (Array.getElem?_eq_some_iff.1 hg).1 (hS g (by rw [e]; rfl))).trans hg, r⟩
theorem Fr.blk {S : Nat → Prop} {w w' : World} (h : Fr S w w') {g : Nat} {t : TypeId} {cs : Array Value} (hb : Blk w g t cs) (hS : ¬ S g) : Blk w' g t cs := (h.block g hb.lt hS).trans hb
theorem fr_set {w : World} {g j : Nat} {u : Value} : Fr (fun k => k = g) w (w.setCell ⟨g, j, none⟩ u) := ⟨rfl, rfl, rfl, by simp [World.setCell], fun k _ hk => heap_setCell_other w ⟨g, j, none⟩ k u hk⟩
theorem fr_sets (g : Nat) : ∀ (vs : List Value) (o : Nat) (w : World), Fr (fun k => k = g) w (w.setCells g o vs)
  | [], _, w => Fr.refl _ w
  | v :: vs, o, w => Fr.trans fr_set (fr_sets g vs (o + 1) _)
/-- Values laid over a list from a place on. -/
def setMany (xs : List Value) (o : Nat) : List Value → List Value
  | [] => xs
  | v :: vs => setMany (xs.set o v) (o + 1) vs
theorem own_sets {B : Nat} {E : TypeId} {size g n cap : Nat} : ∀ (vs : List Value) (o : Nat) (xs : List Value) (w : World), w.ownsRow B E size (.slice (some ⟨g, 0, none⟩) n cap) n xs → (w.setCells g o vs).ownsRow B E size (.slice (some ⟨g, 0, none⟩) n cap) n (setMany xs o vs)
  | [], _, _, _, h => h
  | v :: vs, o, xs, w, h => own_sets vs (o + 1) (xs.set o v) _ (h.stored o v).1
theorem setMany_mid : ∀ (vs A M Z : List Value), M.length = vs.length → setMany (A ++ (M ++ Z)) A.length vs = A ++ (vs ++ Z)
  | [], A, M, Z, h => by obtain rfl := List.eq_nil_of_length_eq_zero h; rfl
  | v :: vs, A, [], Z, h => by cases h
  | v :: vs, A, m :: M, Z, h => by
    have ih := setMany_mid vs (A ++ [v]) M Z (by simpa using h)
    rw [setMany, List.set_append_right _ _ (Nat.le_refl _), Nat.sub_self]
    simp only [List.length_append, List.length_singleton, List.append_assoc, List.singleton_append] at ih
    simpa using ih
theorem flat_split {xs : List Rt} {k : Nat} {r : Rt} (hr : xs[k]? = some r) : flat xs = flat (xs.take k) ++ (r.vals ++ flat (xs.drop (k + 1))) := by
  obtain ⟨hk, he⟩ := List.getElem?_eq_some_iff.1 hr
  conv => lhs; rw [← List.take_append_drop k xs, List.drop_eq_getElem_cons hk, he]
  simp [flat]
theorem flat_set {xs : List Rt} (hx : ∀ x ∈ xs, x.ok) {k : Nat} (hk : k < xs.length) {r : Rt} (hr : r.ok) : setMany (flat xs) (k * 19) r.vals = flat (xs.set k r) := by
  have h1 := flat_split (List.getElem?_eq_getElem hk)
  have h2 := flat_split (xs := xs.set k r) (k := k) (r := r) (by simp [hk])
  have hl : (flat (xs.take k)).length = k * 19 := by
    rw [flat_len fun x hx' => hx x (List.mem_of_mem_take hx'), List.length_take, Nat.min_eq_left (by omega)]
  have hd : (xs.set k r).drop (k + 1) = xs.drop (k + 1) := by rw [List.drop_set_of_lt (by omega)]
  have ht : (xs.set k r).take k = xs.take k := by rw [List.take_set_of_le (by omega)]
  rw [h1, h2, hd, ht, ← hl]
  exact setMany_mid _ _ _ _ (by rw [vals_len (hx _ (List.getElem_mem hk)), vals_len hr])
/-- One route stored into a list that owns its memory. -/
theorem own_store {w : World} {B g n cap k : Nat} {xs : List Rt} {r : Rt} (h : w.ownsRow B 44 19 (.slice (some ⟨g, 0, none⟩) n cap) n (flat xs)) (hx : ∀ x ∈ xs, x.ok) (hn : xs.length = n) (hk : k < n) (hr : r.ok) :
    (w.setCells g (k * 19) r.vals).ownsRow B 44 19 (.slice (some ⟨g, 0, none⟩) n cap) n (flat (xs.set k r)) := by
  rw [← flat_set hx (by omega) hr]
  exact own_sets _ _ _ _ h
theorem own_there {w : World} {B g n cap k : Nat} {xs : List Rt} (h : w.ownsRow B 44 19 (.slice (some ⟨g, 0, none⟩) n cap) n (flat xs)) (hk : k < n) : w.there g (k * 19) 19 := fun j hj => by
  have h1 := h.cellAt (k * 19 + j) (by omega)
  refine ⟨?_, h.frozenAt _⟩
  rw [h1, List.getElem?_eq_getElem (by have := h.1; omega)]; rfl
/-- What an append onto an own row leaves: the row itself grown in place, or a new block and all else as it was. -/
theorem append_two {P : Program} (w : World) (t ty e : TypeId) (i : TypeInfo) (z : Value) (size bytes : Nat) (ht : P.underlying t = some (.slice e)) (hi : P.info? e = some i) (hz : i.zero = some z)
    (hsize : i.size = size) (hby : i.bytes = bytes) (hzs : z.cells.size = size) (hsz : 0 < size)
    (B : Nat) (v : Value) (n : Nat) (xs : List Value) (hown : w.ownsRow B e size v n xs)
    (ad : Go.Addr) (m c : Nat) (news : List Value) (hl : news.length = m * size) (hnews : ∀ j u, news[j]? = some u → w.cell? (ad.add j) = some u) (h1 : ∀ u ∈ news, u.oneCell' = true)
    (hm : 0 < m) (h63 : n + m ≤ maxLen) (hbytes : (n + m) * bytes ≤ 140737488355328) (hB : B ≤ w.heap.size) :
    ∃ g cap w', (Builtin.append_ #[t, t] ty #[v, .slice (some ad) m c]).run P w = .ok (.slice (some ⟨g, 0, none⟩) (n + m) cap) w' ∧
      w'.ownsRow B e size (.slice (some ⟨g, 0, none⟩) (n + m) cap) (n + m) (xs ++ news) ∧ ((v.ownBlock = some g ∧ w.grownBy w' (some g)) ∨ (g = w.heap.size ∧ w.grownBy w' none)) ∧ g < w'.heap.size := by
  obtain ⟨g, cap, w', hr, ho, hgr, hat, hlt⟩ := run_append_lies (P := P) w t ty B e i z size bytes ht hi hz hsize hby hzs hsz v n xs hown ad m c news hl hnews h1 hm h63 hbytes hB w.heap.size rfl
  have hsmall : n + m ≤ 9223372036854775807 := by simp only [maxLen] at h63; omega
  refine ⟨g, cap, w', hr, ho, ?_, hlt⟩
  rcases hown.2 with ⟨rfl, rfl⟩ | ⟨g0, cap0, cur, rfl, hbg, hg, hnc, hcm, hcs, htake⟩
  · right
    refine ⟨?_, hgr⟩
    rcases hat with h | h
    · cases h
    · exact h
  · by_cases hroom : n + m ≤ cap0
    · have hfit : n * i.size + news.length ≤ cur.size := by rw [hl, hcs, hsize, ← Nat.add_mul]; exact Nat.mul_le_mul_right _ hroom
      have hr2 := run_append_room (P := P) w t ty e i ht hi g0 n cap0 cur hg ad m c news (by rw [hsize]; exact hl) hnews h1 hroom hfit
      rw [hr] at hr2
      injection hr2 with h3 h4
      injection h3 with h5
      injection h5 with h5
      injection h5 with h5
      subst h5
      exact .inl ⟨rfl, hgr⟩
    · have holds : ∀ j u, xs[j]? = some u → w.cell? ((⟨g0, 0, none⟩ : Go.Addr).add j) = some u := hown.cells (g := g0) rfl
      have hr2 := run_append_grow (P := P) w t ty e i z ht hi hz ⟨g0, 0, none⟩ n cap0 xs (by rw [hsize]; exact hown.1) holds ad m c news (by rw [hsize]; exact hl) hnews (by omega) (by omega) (growslice_fits (by omega) (by rw [hby]; exact hbytes))
      rw [hr] at hr2
      injection hr2 with h3 h4
      injection h3 with h5
      injection h5 with h5
      injection h5 with h5
      subst h5
      refine .inr ⟨rfl, ?_⟩
      rw [h4]
      exact ⟨rfl, rfl, rfl, by simp, fun k hk _ => heap_alloc_old w.drew _ hk⟩
theorem wpList_append_two {P : Program} {w : World} {ops : Array Oper} {rest : List Oper} {o : Oper} {a : Act} {Q : Exit → Act → World → Prop} (hgd : o.guard = none) (s x : Operand) (t : TypeId)
    (ho : o.op = .call { callee := .builtin .append, args := #[s, x], argTypes := #[t, t] })
    (e : TypeId) (i : TypeInfo) (z : Value) (size bytes : Nat) (ht : P.underlying t = some (.slice e)) (hi : P.info? e = some i) (hz : i.zero = some z)
    (hsize : i.size = size) (hby : i.bytes = bytes) (hzs : z.cells.size = size) (hsz : 0 < size)
    (B : Nat) (v : Value) (n : Nat) (xs : List Value) (hs : a.eval s = v) (hown : w.ownsRow B e size v n xs)
    (ad : Go.Addr) (m c : Nat) (news : List Value) (hx : a.eval x = .slice (some ad) m c) (hl : news.length = m * size) (hnews : ∀ j u, news[j]? = some u → w.cell? (ad.add j) = some u) (h1 : ∀ u ∈ news, u.oneCell' = true)
    (hm : 0 < m) (h63 : n + m ≤ maxLen) (hbytes : (n + m) * bytes ≤ 140737488355328) (hB : B ≤ w.heap.size)
    (h : ∀ g cap w', w'.ownsRow B e size (.slice (some ⟨g, 0, none⟩) (n + m) cap) (n + m) (xs ++ news) → ((v.ownBlock = some g ∧ w.grownBy w' (some g)) ∨ (g = w.heap.size ∧ w.grownBy w' none)) → g < w'.heap.size → wpList P ops Q rest (a.put o.dst (.slice (some ⟨g, 0, none⟩) (n + m) cap)) w') : wpList P ops Q (o :: rest) a w :=
  wpList_plain hgd fun K hK => by
    obtain ⟨g, cap, w', hr, h2, h3, h4⟩ := append_two (P := P) w t o.type e i z size bytes ht hi hz hsize hby hzs hsz B v n xs hown ad m c news hl hnews h1 hm h63 hbytes hB
    unfold Oper.wp execOp
    simp only [ho, resolve, invoke, builtin, Sem.run_bind, Sem.run_pure, Result.andThen_ok, List.map_toArray, List.map_cons, List.map_nil, hs, hx, hr]
    exact hK _ _ (h g cap w' h2 h3 h4)
end Go.Proofs.YtpaplobjmmpliaaDoor.Ad
namespace Go.Proofs.YtpaplobjmmpliaaDoor.Ad
set_option linter.unusedVariables false
set_option linter.unusedSimpArgs false
open Go.RowKit Go.Maps W
set_option maxRecDepth 100000 in
set_option maxHeartbeats 4000000 in
theorem parse_row (l : List UInt8) (hl : l.length < 4294967281) (w : World) (hg : Gl w) : Calls Tryd.prog 18 #[.string (S l)] w fun e w' =>
    ∃ v, e = .returned (.tuple #[v, .int .i64 (parseV l).2]) ∧ w'.ownsRow w.heap.size 44 19 v (parseV l).1.length (flat (parseV l).1) ∧ Below w.heap.size w w' := by
  have HG := Lib.hid hg
  have hz := zeroRt_ok
  obtain ⟨i0, hi, hz0, hz1, hz2⟩ := info_parts (show (Tryd.prog.info? 44).map (fun i => (i.zero, i.size, i.bytes)) = some (some (.agg zeroRt.cells), 19, 40) by kernel_rfl)
  obtain ⟨pm, pe, hpv⟩ : ∃ m e, parseV l = (m, e) := ⟨_, _, rfl⟩
  have HPV := Lib.hid hpv
  rw [hpv]
  clear hg hpv
  go_enter Tryd.func18, Tryd.ntmps18
  go_wp2
  go_loopw [0, 4, 5, 6, 7, 8, 9] (fun u0 u4 _ _ _ _ _ wr => ∃ (t : List UInt8) (acc : List Rt), u0 = .string (S t) ∧ acc.length + t.length ≤ l.length ∧ Hid (wr.ownsRow w.heap.size 44 19 u4 acc.length (flat acc)) ∧ Hid (∀ r ∈ acc, r.wf) ∧ Hid (linesV l = (linesV t).map (acc ++ ·)) ∧ Hid (Below w.heap.size w wr)) (fun u0 _ _ _ _ _ _ _ => strLen u0)
  case atStart => exact ⟨l, [], rfl, by simp, Lib.hid (World.ownsRow_nil _ _ _ _), Lib.hid (fun r hr => by cases hr), Lib.hid (by simp), Lib.hid (Below.refl _ _)⟩
  case round =>
    obtain ⟨t, acc, rfl, hlen, HO, HA, HLN, HB⟩ := hrel
    have GL := Lib.hid (HG.out.later HB.out)
    obtain ⟨p, c, rfl, hat, hfr⟩ := row_ats (w := wr) (n := 0) (fun r hr => (HA.out r hr).ok) HO.out
    have HAT := Lib.hid hat
    have HFR := Lib.hid hfr
    clear hat hfr
    obtain ⟨n, hn⟩ : ∃ n, acc.length = n := ⟨_, rfl⟩
    have HN := Lib.hid hn
    rw [hn] at HO hlen ⊢
    clear hn
    by_cases h0 : t = []
    · subst h0
      have HP : Hid (linesV l = some acc) := Lib.hid (by rw [HLN.out, linesV_nil]; simp)
      have hs1 : (S []) = (⟨#[]⟩ : ByteArray) := rfl
      rw [hs1]
      have HM := Lib.hid (fun w' (hb : Below wr.heap.size wr w') => may_calls HA.out p c w' (HAT.out.later hb).at)
      rw [HN.out] at HM
      cases hm : mayV acc
      · have HV : Hid ((pm, pe) = (([] : List Rt), (1 : Int))) := Lib.hid (by rw [← HPV.out]; unfold parseV; rw [HP.out]; simp [hm])
        rw [hm] at HM
        clear hm
        go_wp2_with (go_at_call 24; refine (HM.out _ (Below.refl _ _)).mono ?_; rintro e W2 ⟨rfl, hB2⟩)
        go_ret2
        obtain ⟨rfl, rfl⟩ := Prod.mk.inj HV.out
        exact ⟨_, rfl, World.ownsRow_nil _ _ _ _, (keep HB hB2).out⟩
      · have HV : Hid ((pm, pe) = (acc, (0 : Int))) := Lib.hid (by rw [← HPV.out]; unfold parseV; rw [HP.out]; simp [hm])
        rw [hm] at HM
        clear hm
        go_wp2_with (go_at_call 24; refine (HM.out _ (Below.refl _ _)).mono ?_; rintro e W2 ⟨rfl, hB2⟩)
        go_ret2
        obtain ⟨rfl, rfl⟩ := Prod.mk.inj HV.out
        exact ⟨_, rfl, by rw [HN.out]; exact own_later HO.out hB2, (keep HB hB2).out⟩
    · have hs1 : (S t).toList.isEmpty = false := by
        rw [ByteArray.toList_eq, S_list]
        cases t with
        | nil => exact absurd rfl h0
        | cons x y => rfl
      obtain ⟨x1, x2, fd, hcut⟩ : ∃ x1 x2 fd, Lib.cut t [10] = (x1, x2, fd) := ⟨_, _, _, rfl⟩
      obtain ⟨r, ok, hline⟩ : ∃ r ok, lineV x1 = (r, ok) := ⟨_, _, rfl⟩
      have hle := cut_le t [10]
      have hlt := cut_lt (sep := [10]) h0 (by simp)
      rw [hcut] at hle hlt
      simp only at hle hlt
      have HC := Lib.hid (fun w hg => cutS_calls t 10 (by omega) w hg)
      have HLI := Lib.hid (fun w hg => line_calls x1 (by omega) w hg)
      have hwf := Lib.hid (lineV_wf x1)
      rw [hcut] at HC
      rw [hline] at HLI hwf
      have HCUT := Lib.hid hcut
      have HLINE := Lib.hid hline
      have HT0 := Lib.hid h0
      clear hcut hline h0
      have HLT := Lib.hid hlt
      go_upto_region 4 with (go_at_call 33; refine (HC.out _ GL.out).mono ?_; rintro e W2 ⟨rfl, hB2⟩)
      have HO := Lib.hid (own_later HO.out hB2)
      have HB := keep HB hB2
      have GL := Lib.hid (GL.out.later hB2)
      clear hB2 HC
      go_upto_region 5 with (first | (go_at_call 34; refine (HLI.out _ GL.out).mono ?_; rintro e W3 ⟨rfl, hB3⟩) | (refine wpList_store_blk rfl 44 _ _ rfl W3.heap.size 44 zeroRt.cells r.cells rfl rfl (Blk.new _ _ _) (by rw [rcs hwf.out.ok, rcs zeroRt_ok]) (rszc hwf.out.ok) (rone _) ?_; intro W4 P4))
      obtain ⟨B5, b5, s5, t5⟩ := call_store hB3 P4
      have HO := Lib.hid (own_later HO.out B5.out)
      have HB := keep HB B5.out
      obtain ⟨G1, hG1⟩ : ∃ g, W3.heap.size = g := ⟨_, rfl⟩
      rw [hG1] at b5 ⊢
      clear hB3 P4 B5 s5 t5 hG1 HLI
      cases fd
      · skip
        have HV : Hid ((pm, pe) = (([] : List Rt), (2 : Int))) := Lib.hid (by
          have h : linesV t = none := linesV_no HT0.out (by rw [HCUT.out]; simp only; rw [HLINE.out]; simp)
          rw [← HPV.out]; unfold parseV; rw [HLN.out, h]; rfl)
        go_wp2
        go_ret2
        obtain ⟨rfl, rfl⟩ := Prod.mk.inj HV.out
        exact ⟨_, rfl, World.ownsRow_nil _ _ _ _, HB.out⟩
      cases ok
      · skip
        have HV : Hid ((pm, pe) = (([] : List Rt), (2 : Int))) := Lib.hid (by
          have h : linesV t = none := linesV_no HT0.out (by rw [HCUT.out]; simp only; rw [HLINE.out]; simp)
          rw [← HPV.out]; unfold parseV; rw [HLN.out, h]; rfl)
        go_wp2
        go_ret2
        obtain ⟨rfl, rfl⟩ := Prod.mk.inj HV.out
        exact ⟨_, rfl, World.ownsRow_nil _ _ _ _, HB.out⟩
      have HN2 : Hid (linesV l = (linesV x2).map ((acc ++ [r]) ++ ·)) := Lib.hid (by
        have h : linesV t = (linesV x2).map (r :: ·) := by
          rw [linesV_step HT0.out (by rw [HCUT.out]; simp [HLINE.out]), HCUT.out]
          simp only
          rw [HLINE.out]
        rw [HLN.out, h, Option.map_map]
        congr 1
        funext y
        simp)
      have hn43 : n ≤ 4294967281 := by omega
      go_wp2_with (first | (refine wpList_load_at rfl 44 _ rfl G1 0 r.vals _ rfl (all_at b5.out) Tryd.underlying44 rfl (by as_aux_lemma => exact rsz hwf.out.ok) ?_) | (refine wpList_slice1 rfl _ rfl r hwf.out.ok rfl ?_) | (at_builtin; refine wpList_append_own _ rfl _ _ 22 rfl w.heap.size 44 i0 _ 19 40 Tryd.underlying22 hi hz0 hz1 hz2 (by rfl) (by omega) _ n (flat acc) rfl (World.ownsRow.alloc HO.out _) ⟨W4.heap.size, 0, none⟩ 1 1 r.vals rfl (by rw [vals_len hwf.out.ok]) (news_rt W4 r) (vals_one r) (by unfold maxLen; omega) (by omega) (by have := HB.out.size; simp; omega) ?_; intro v' w1 hown1 hgrow1 hnil1))
      have HOW : Hid (w1.ownsRow w.heap.size 44 19 v' (acc ++ [r]).length (flat (acc ++ [r]))) := Lib.hid (by rw [List.length_append, HN.out, flat_snoc]; exact hown1)
      have HWF : Hid (∀ q ∈ acc ++ [r], q.wf) := Lib.hid (fun q hq => by
        rcases List.mem_append.1 hq with hq | hq
        · exact HA.out q hq
        · obtain rfl := List.mem_singleton.1 hq; exact hwf.out)
      have HBW : Hid (Below w.heap.size w w1) := Lib.hid ((HB.out.alloc HB.out.size _).grown hgrow1 (by have := HB.out.size; simp; omega) (fun j hj => by
        cases p with
        | none => cases hj
        | some a => injection hj with hj; subst hj; exact HFR.out a rfl))
      exact ⟨⟨x2, acc ++ [r], rfl, by rw [List.length_append, HN.out]; simp only [List.length_singleton]; omega, HOW, HWF, HN2, HBW⟩, by show (S x2).size < (S t).size; rw [S_size, S_size]; exact HLT.out⟩
set_option maxRecDepth 100000 in
set_option maxHeartbeats 4000000 in
theorem all_row {s : List Rt} (hs : ∀ r ∈ s, r.wf) (h32 : s.length ≤ 32) (B : Nat) (t : Value) (w : World) (ht : Tab B w t s) : Calls Tryd.prog 16 #[t] w fun e w' =>
    ∃ v, e = .returned v ∧ w'.ownsRow w.heap.size 44 19 v s.length (flat s) ∧ Below w.heap.size w w' := by
  obtain ⟨g, p, c, rfl, hb, ha, _, _⟩ := ht.is
  have HC := Lib.hid (clone_calls hs h32 p c w ha)
  have c0 : w.cell? ⟨g, 0, none⟩ = some (.slice p s.length c) := by rw [hb.cell]; rfl
  clear ht ha hs hb
  go_enter Tryd.func16, Tryd.ntmps16
  go_wp2_with (go_at_call 31; refine HC.out.mono ?_; rintro e W1 ⟨v, rfl, ho, hB⟩)
  go_ret
  exact ⟨v, rfl, ho, hB⟩
set_option maxRecDepth 100000 in
set_option maxHeartbeats 4000000 in
theorem own_row {l : List Rt} (hl : ∀ r ∈ l, r.ok) (hb : l.length ≤ 1048576) (p : Option Go.Addr) (c : Nat) (w : World) (hp : At w p l) (hn : p = none → c = 0) : Calls Tryd.prog 10 #[.slice p l.length c] w fun e w' =>
    ∃ v, e = .returned v ∧ w'.ownsRow w.heap.size 44 19 v l.length (flat l) ∧ Below w.heap.size w w' := by
  obtain ⟨i0, hi, hz0, hz1, hz2⟩ := info_parts (show (Tryd.prog.info? 44).map (fun i => (i.zero, i.size, i.bytes)) = some (some (.agg zeroRt.cells), 19, 40) by kernel_rfl)
  have HC : Hid (∀ ad, p = some ad → ∀ j u, (flat l)[j]? = some u → w.cell? (ad.add j) = some u) := Lib.hid fun ad had j u hu => by
    rcases hp with h | ⟨g, o, h1, h2, h3⟩
    · subst h; cases hu
    · rw [h1] at had; injection had with had; subst had
      rw [Addr.add_lit]
      exact has_cells hl h3 j u hu
  have HF := Lib.hid (flat_len hl)
  have HL := Lib.hid hl
  cases p with
  | none =>
    obtain rfl := hn rfl
    obtain rfl : l = [] := by
      rcases hp with h | ⟨g, o, h1, _⟩
      · exact h
      · cases h1
    go_enter Tryd.func10, Tryd.ntmps10
    go_wp2_with (at_builtin; refine wpList_append_own_none rfl _ _ 22 rfl w.heap.size 44 i0 19 Tryd.underlying22 hi _ 0 [] rfl (World.ownsRow_nil _ _ _ _) rfl ?_)
    go_ret
    exact ⟨_, rfl, World.ownsRow_nil _ _ _ _, Below.refl _ _⟩
  | some ad =>
    obtain ⟨n, hnn⟩ : ∃ n, l.length = n := ⟨_, rfl⟩
    rw [hnn] at HF hb ⊢
    have HN := Lib.hid hnn
    clear hp hl hn hnn
    go_enter Tryd.func10, Tryd.ntmps10
    go_wp2_with (at_builtin; refine wpList_append_own _ rfl _ _ 22 rfl w.heap.size 44 i0 _ 19 40 Tryd.underlying22 hi hz0 hz1 hz2 (by rfl) (by omega) _ 0 [] rfl (World.ownsRow_nil _ _ _ _) ad n c (flat l) rfl HF.out (HC.out ad rfl) (flat_one l) (by unfold maxLen; omega) (by omega) (Nat.le_refl _) ?_; intro v' w1 hown hgrow hnil)
    go_ret
    exact ⟨v', rfl, by simpa using hown, (Below.refl _ w).grown hgrow (Nat.le_refl _) (by intro k hk; cases hk)⟩
def errV (m : Bool) : Int := if m = true then 0 else 1
/-- New, either way. -/
theorem new_any {l : List Rt} (hl : ∀ r ∈ l, r.wf) (p : Option Go.Addr) (c : Nat) (w : World) (hp : AtS w p l) : Calls Tryd.prog 9 #[.slice p l.length c] w fun e w' =>
    ∃ t, e = .returned (.tuple #[t, .int .i64 (errV (mayV l))]) ∧ (mayV l = true → Tab w.heap.size w' t (sortV l)) ∧ (mayV l = false → t = .pointer none) ∧ Below w.heap.size w w' := by
  cases hm : mayV l
  · refine (new_no hl hm p c w hp.at).mono ?_
    rintro e w' ⟨rfl, hB⟩
    exact ⟨_, rfl, (fun h => by cases h), (fun _ => rfl), hB⟩
  · refine (new_calls hl hm p c w hp).mono ?_
    rintro e w' ⟨t, rfl, hT, hB⟩
    exact ⟨t, rfl, (fun _ => hT), (fun h => by cases h), hB⟩
end Go.Proofs.YtpaplobjmmpliaaDoor.Ad
namespace Go.Proofs.YtpaplobjmmpliaaDoor.Ad
set_option linter.unusedVariables false
set_option linter.unusedSimpArgs false
open Go.RowKit Go.Maps W
/-- The mark of the i-th list. -/
def mrk (i : Nat) : Rt := ⟨zeroAd, -9, -100 - (i : Int)⟩
theorem mrk_ok (i : Nat) : (mrk i).ok := by unfold Rt.ok Addr.ok mrk zeroAd; rfl
/-- The lists' contents while they are written full: i lists done, k routes of the next. -/
def Xc (s : List Rt) (n i k j : Nat) : List Rt := if j < i then List.replicate n (mrk j) else if j = i then List.replicate k (mrk i) ++ s.drop k else s
theorem Xc_len {s : List Rt} {n i k j : Nat} (hs : s.length = n) (hk : k ≤ n) : (Xc s n i k j).length = n := by
  unfold Xc; split
  · simp
  · split
    · simp; omega
    · exact hs
theorem Xc_ok {s : List Rt} (hs : ∀ r ∈ s, r.ok) (n i k j : Nat) : ∀ r ∈ Xc s n i k j, r.ok := by
  intro r hr
  unfold Xc at hr
  split at hr
  · rw [(List.mem_replicate.1 hr).2]; exact mrk_ok _
  · split at hr
    · rcases List.mem_append.1 hr with h | h
      · rw [(List.mem_replicate.1 h).2]; exact mrk_ok _
      · exact hs r (List.mem_of_mem_drop h)
    · exact hs r hr
theorem Xc_zero (s : List Rt) (n j : Nat) : Xc s n 0 0 j = s := by unfold Xc; split; omega; split <;> simp
theorem Xc_next {s : List Rt} {n : Nat} (hs : s.length = n) (i j : Nat) : Xc s n i n j = Xc s n (i + 1) 0 j := by
  unfold Xc
  by_cases h1 : j < i
  · rw [if_pos h1, if_pos (by omega)]
  · rw [if_neg h1]
    by_cases h2 : j = i
    · subst h2
      rw [if_pos rfl, if_pos (by omega), List.drop_of_length_le (by omega), List.append_nil]
    · rw [if_neg h2, if_neg (by omega)]; split <;> simp
theorem Xc_step {s : List Rt} {n i k : Nat} (hs : s.length = n) (hk : k < n) (j : Nat) : (if j = i then (Xc s n i k i).set k (mrk i) else Xc s n i k j) = Xc s n i (k + 1) j := by
  by_cases h : j = i
  · subst h
    have hd : s.drop k = s[k]'(by omega) :: s.drop (k + 1) := List.drop_eq_getElem_cons (by omega)
    rw [if_pos rfl]
    unfold Xc
    rw [if_neg (by omega), if_pos rfl, if_neg (by omega), if_pos rfl, hd, List.set_append_right _ _ (by simp), List.length_replicate, Nat.sub_self, List.set_cons_zero, List.replicate_succ', List.append_assoc]; rfl
  · rw [if_neg h]
    unfold Xc
    by_cases h1 : j < i
    · rw [if_pos h1, if_pos h1]
    · rw [if_neg h1, if_neg h1, if_neg h, if_neg h]
theorem Xc_end {s : List Rt} {n m j : Nat} (hj : j < m) : Xc s n m 0 j = List.replicate n (mrk j) := by unfold Xc; rw [if_pos hj]
/-- Whose blocks the lists own. -/
def Sv (vs : List Value) (k : Nat) : Prop := ∃ v ∈ vs, v.ownBlock = some k
/-- The lists lie apart, and apart from the two rows that hold them. -/
structure Ap (vs : List Value) (gk gw : Nat) : Prop where
  ne : ∀ v ∈ vs, v.ownBlock ≠ some gk ∧ v.ownBlock ≠ some gw
  two : ∀ (i j : Nat) (v u : Value), vs[i]? = some v → vs[j]? = some u → i ≠ j → ∀ k, v.ownBlock = some k → u.ownBlock ≠ some k
/-- The lists in memory: the row that holds them, each with its own memory. -/
structure Ls (w : World) (gk : Nat) (vs : List Value) (n : Nat) (X : Nat → List Rt) : Prop where
  cell : ∀ (i : Nat) (v : Value), vs[i]? = some v → w.cell? ⟨gk, i, none⟩ = some v
  own : ∀ (i : Nat) (v : Value), vs[i]? = some v → w.ownsRow 0 44 19 v n (flat (X i))
theorem Ls.congr {w : World} {gk : Nat} {vs : List Value} {n : Nat} {X Y : Nat → List Rt} (h : Ls w gk vs n X) (he : ∀ j, X j = Y j) : Ls w gk vs n Y := ⟨h.cell, fun i v hv => he i ▸ h.own i v hv⟩
theorem Ls.fr {S : Nat → Prop} {w w' : World} {gk : Nat} {vs : List Value} {n : Nat} {X : Nat → List Rt} (h : Ls w gk vs n X) (hf : Fr S w w') (h1 : ¬ S gk) (h2 : ∀ v ∈ vs, ∀ k, v.ownBlock = some k → ¬ S k) : Ls w' gk vs n X :=
  ⟨fun i v hv => hf.cell (h.cell i v hv) h1, fun i v hv => hf.own (h.own i v hv) (h2 v (List.mem_of_getElem? hv))⟩
theorem Ls.later {w w' : World} {gk : Nat} {vs : List Value} {n : Nat} {X : Nat → List Rt} (h : Ls w gk vs n X) (hb : Below w.heap.size w w') : Ls w' gk vs n X := h.fr (Fr.of (S := fun _ => False) hb) (fun h => h) (fun _ _ _ _ h => h)
theorem Ls.store {w : World} {gk gw : Nat} {vs : List Value} {n i k g c : Nat} {s : List Rt} (h : Ls w gk vs n (Xc s n i k)) (ha : Ap vs gk gw) (hs : ∀ r ∈ s, r.ok) (hn : s.length = n) (hv : vs[i]? = some (.slice (some ⟨g, 0, none⟩) n c)) (hk : k < n) :
    Ls (w.setCells g (k * 19) (mrk i).vals) gk vs n (Xc s n i (k + 1)) := by
  have hmem := List.mem_of_getElem? hv
  have hf := fr_sets g (mrk i).vals (k * 19) w
  refine Ls.congr (X := fun j => if j = i then (Xc s n i k i).set k (mrk i) else Xc s n i k j) ⟨fun j v hj => hf.cell (h.cell j v hj) fun e => (ha.ne _ hmem).1 (by show some g = some gk; exact congrArg some e.symm), fun j v hj => ?_⟩ (Xc_step hn hk)
  by_cases hji : j = i
  · subst hji
    rw [hv] at hj; injection hj with hj; subst hj
    rw [if_pos rfl]
    exact own_store (h.own _ _ hv) (Xc_ok hs _ _ _ _) (Xc_len hn (by omega)) hk (mrk_ok _)
  · rw [if_neg hji]
    exact hf.own (h.own j v hj) fun k' hk' e => ha.two j i v _ hj hv hji k' hk' (by show some g = some k'; exact congrArg some e.symm)
/-- A list that can be read: n times one route. -/
def Rd (w : World) (v : Value) (n : Nat) (r : Rt) : Prop := ∃ p c, v = .slice p n c ∧ AtS w p (List.replicate n r)
theorem AtS.fr {S : Nat → Prop} {w w' : World} {p : Option Go.Addr} {l : List Rt} (h : AtS w p l) (hf : Fr S w w') (hS : ∀ a, p = some a → ¬ S a.block) : AtS w' p l := by
  rcases h with h | ⟨g, o, h1, h2, h3⟩
  · exact .inl h
  · exact .inr ⟨g, o, h1, Nat.lt_of_lt_of_le h2 hf.size, fun i r hr => hf.range (h3 i r hr) (hS _ h1)⟩
theorem Rd.fr {S : Nat → Prop} {w w' : World} {v : Value} {n : Nat} {r : Rt} (h : Rd w v n r) (hf : Fr S w w') (hS : ∀ k, v.ownBlock = some k → ¬ S k) : Rd w' v n r := by
  obtain ⟨p, c, rfl, ha⟩ := h
  exact ⟨p, c, rfl, ha.fr hf fun a e => hS _ (by rw [e]; rfl)⟩
theorem rep_ok (n : Nat) {r : Rt} (h : r.ok) : ∀ x ∈ List.replicate n r, x.ok := fun x hx => by rw [(List.mem_replicate.1 hx).2]; exact h
theorem Rd.of {w : World} {v : Value} {n : Nat} {r : Rt} (hr : r.ok) (h : w.ownsRow 0 44 19 v n (flat (List.replicate n r))) : Rd w v n r := by
  obtain ⟨p, c, h1, h2, _⟩ := row_ats (n := 0) (l := List.replicate n r) (rep_ok n hr) (by rw [List.length_replicate]; exact h)
  rw [List.length_replicate] at h1
  exact ⟨p, c, h1, h2⟩
/-- The front of a longer list. -/
theorem Rd.front {w : World} {g n m c c2 : Nat} {r : Rt} (h : Rd w (.slice (some ⟨g, 0, none⟩) (n + m) c) (n + m) r) : Rd w (.slice (some ⟨g, 0, none⟩) n c2) n r ∨ n + m = 0 := by
  obtain ⟨p, c', e, h⟩ := h
  injection e with e1 e2 e3
  subst e1
  rcases h with ⟨h, _⟩ | ⟨g', o, h1, h2, h3⟩
  · cases h
  · left
    injection h1 with h1
    injection h1 with h4 h5
    subst h4; subst h5
    refine ⟨_, c2, rfl, .inr ⟨g, 0, rfl, h2, fun i x hx => h3 i x ?_⟩⟩
    obtain ⟨hi, hx2⟩ := List.getElem?_eq_some_iff.1 hx
    rw [List.length_replicate] at hi
    rw [List.getElem_replicate] at hx2
    rw [List.getElem?_replicate, if_pos (by omega), hx2]
theorem Fr.step {S T : Nat → Prop} {w0 w w' : World} (h : Fr S w0 w) (hg : Fr T w w') (hT : ∀ k, k < w0.heap.size → T k → S k) : Fr S w0 w' :=
  ⟨hg.os.trans h.os, hg.tape.trans h.tape, hg.output.trans h.output, Nat.le_trans h.size hg.size, fun k hk hS => (hg.block k (Nat.lt_of_lt_of_le hk h.size) fun ht => hS (hT k hk ht)).trans (h.block k hk hS)⟩
/-- One list while it is lengthened. -/
structure Lx (w4 w : World) (v x : Value) (n k i : Nat) : Prop where
  own : w.ownsRow 0 44 19 x (n + k) (flat (List.replicate (n + k) (mrk i)))
  blk : x.ownBlock = v.ownBlock ∨ ∃ g, x.ownBlock = some g ∧ w4.heap.size ≤ g
  rd : Rd w v n (mrk i)
  form : v = .slice none 0 0 ∨ ∃ g c, v = .slice (some ⟨g, 0, none⟩) n c
  fr : Fr (fun k => v.ownBlock = some k) w4 w
theorem Lx.start {w : World} {v : Value} {n i : Nat} (h : w.ownsRow 0 44 19 v n (flat (List.replicate n (mrk i)))) : Lx w w v v n 0 i := ⟨h, .inl rfl, Rd.of (mrk_ok i) h, by rcases h.2 with ⟨h, _⟩ | ⟨g, c, _, h, _⟩; exact .inl h; exact .inr ⟨g, c, h⟩, Fr.refl _ _⟩
theorem Lx.next {w4 w w' : World} {v x : Value} {n k i g cap : Nat} (h : Lx w4 w v x n k i) (hown : w'.ownsRow 0 44 19 (.slice (some ⟨g, 0, none⟩) (n + k + 1) cap) (n + k + 1) (flat (List.replicate (n + k) (mrk i)) ++ (mrk i).vals))
    (hg : (x.ownBlock = some g ∧ w.grownBy w' (some g)) ∨ (w.heap.size ≤ g ∧ w.grownBy w' none)) : Lx w4 w' v (.slice (some ⟨g, 0, none⟩) (n + k + 1) cap) n (k + 1) i := by
  have ho : w'.ownsRow 0 44 19 (.slice (some ⟨g, 0, none⟩) (n + k + 1) cap) (n + (k + 1)) (flat (List.replicate (n + (k + 1)) (mrk i))) := by
    rw [← Nat.add_assoc, List.replicate_succ', flat_snoc]; exact hown
  rcases hg with ⟨h1, h2⟩ | ⟨h1, h2⟩
  · have hf := Fr.grown h2
    refine ⟨ho, ?_, ?_, ?_, h.fr.step hf fun j hj e => ?_⟩
    · rcases h.blk with h3 | ⟨g', h3, h4⟩
      · left; rw [← h3, h1]; rfl
      · right; exact ⟨g, rfl, by rw [h1] at h3; injection h3 with h3; omega⟩
    · by_cases hv : v.ownBlock = some g
      · rcases h.form with rfl | ⟨g', c, rfl⟩
        · cases hv
        · have hgg : g' = g := by injection hv
          subst hgg
          rcases Rd.front (c2 := c) (n := n) (m := k + 1) (Rd.of (mrk_ok i) ho) with h5 | h5
          · exact h5
          · omega
      · exact h.rd.fr hf fun j hj e => hv (by rw [hj]; exact e.symm)
    · exact h.form
    · rcases h.blk with h3 | ⟨g', h3, h4⟩
      · rw [← h3, h1]; exact e
      · rw [h1] at h3; injection h3 with h3; injection e with e; omega
  · have hf := Fr.grown h2
    exact ⟨ho, .inr ⟨g, rfl, Nat.le_trans h.fr.size h1⟩, h.rd.fr hf (fun j _ e => by cases e), h.form, h.fr.step hf fun j _ e => by cases e⟩
/-- What stays the same: where the lists lie. -/
structure Vb (w0 : World) (vs : List Value) (gk gw : Nat) : Prop where
  ap : Ap vs gk gw
  lt : ∀ v ∈ vs, ∀ k, v.ownBlock = some k → k < w0.heap.size
  gk : gk < w0.heap.size
/-- The lists behind their marking, and those that are lengthened so far. -/
structure Lg (w0 w : World) (gk : Nat) (vs : List Value) (n i : Nat) (xs : List Value) (lv : Value) : Prop where
  fr : Fr (Sv vs) w0 w
  cell : ∀ (j : Nat) (v : Value), vs[j]? = some v → w.cell? ⟨gk, j, none⟩ = some v
  rd : ∀ (j : Nat) (v : Value), vs[j]? = some v → Rd w v n (mrk j)
  own : ∀ (j : Nat) (v : Value), i ≤ j → vs[j]? = some v → w.ownsRow 0 44 19 v n (flat (List.replicate n (mrk j)))
  row : w.ownsRow 0 22 1 lv i xs
  lvb : ∀ k, lv.ownBlock = some k → w0.heap.size ≤ k
  xrd : ∀ (j : Nat) (x : Value), xs[j]? = some x → Rd w x (n + 80) (mrk j)
  xb : ∀ (j : Nat) (x : Value), xs[j]? = some x → ∀ k, x.ownBlock = some k → k < w.heap.size ∧ lv.ownBlock ≠ some k ∧ ∀ (j' : Nat) (v : Value), i ≤ j' → vs[j']? = some v → v.ownBlock ≠ some k
theorem Lg.start {w0 w : World} {gk : Nat} {vs : List Value} {n m : Nat} {s : List Rt} (h : Ls w gk vs n (Xc s n m 0)) (hf : Fr (Sv vs) w0 w) (hm : vs.length = m) : Lg w0 w gk vs n 0 [] (.slice none 0 0) := by
  have ho : ∀ (j : Nat) (v : Value), vs[j]? = some v → w.ownsRow 0 44 19 v n (flat (List.replicate n (mrk j))) := fun j v hv => by
    have hj : j < m := by rw [← hm]; exact (List.getElem?_eq_some_iff.1 hv).1
    have := h.own j v hv
    rwa [Xc_end hj] at this
  exact ⟨hf, h.cell, fun j v hv => Rd.of (mrk_ok j) (ho j v hv), fun j v _ hv => ho j v hv, World.ownsRow_nil _ _ _ _, (fun k hk => by cases hk), (fun j x hx => by simp at hx), (fun j x hx => by simp at hx)⟩
theorem Lg.later {w0 w w' : World} {gk gw : Nat} {vs : List Value} {n i : Nat} {xs : List Value} {lv : Value} (h : Lg w0 w gk vs n i xs lv) (hb : Below w.heap.size w w') : Lg w0 w' gk vs n i xs lv := by
  have hf : Fr (fun _ => False) w w' := Fr.of hb
  exact ⟨h.fr.step hf (fun _ _ h => h.elim), fun j v hv => hf.cell (h.cell j v hv) (fun h => h), fun j v hv => (h.rd j v hv).fr hf (fun _ _ h => h), fun j v hj hv => hf.own (h.own j v hj hv) (fun _ _ h => h), hf.own h.row (fun _ _ h => h), h.lvb,
    fun j x hx => (h.xrd j x hx).fr hf (fun _ _ h => h), fun j x hx k hk => ⟨Nat.lt_of_lt_of_le (h.xb j x hx k hk).1 hb.size, (h.xb j x hx k hk).2⟩⟩
theorem Lg.next {w0 w4 w5 w6 w7 : World} {gk gw : Nat} {vs : List Value} {n i : Nat} {xs : List Value} {lv v x : Value} {gl cl : Nat} (h : Lg w0 w4 gk vs n i xs lv) (hb : Vb w0 vs gk gw) (hv : vs[i]? = some v) (hx : Lx w4 w5 v x n 80 i) (h6 : Below w5.heap.size w5 w6)
    (hown : w7.ownsRow 0 22 1 (.slice (some ⟨gl, 0, none⟩) (i + 1) cl) (i + 1) (xs ++ [x])) (hg : (lv.ownBlock = some gl ∧ w6.grownBy w7 (some gl)) ∨ (gl = w6.heap.size ∧ w6.grownBy w7 none)) :
    Lg w0 w7 gk vs n (i + 1) (xs ++ [x]) (.slice (some ⟨gl, 0, none⟩) (i + 1) cl) := by
  have hmem := List.mem_of_getElem? hv
  have s04 := h.fr.size
  have s45 := hx.fr.size
  have s56 := h6.size
  have f67 : Fr (fun k => lv.ownBlock = some k) w6 w7 := by
    rcases hg with ⟨h1, h2⟩ | ⟨_, h2⟩
    · exact (Fr.grown h2).mono fun k _ e => h1.trans e
    · exact (Fr.grown h2).mono fun k _ e => by cases e
  have s67 := f67.size
  have f57 : Fr (fun k => lv.ownBlock = some k) w5 w7 := (Fr.of h6).trans f67
  have f47 : Fr (fun k => v.ownBlock = some k ∨ lv.ownBlock = some k) w4 w7 := (hx.fr.mono fun k _ e => .inl e).trans (f57.mono fun k _ e => .inr e)
  have vlt := hb.lt v hmem
  have lvlt : ∀ k, lv.ownBlock = some k → w0.heap.size ≤ k ∧ k < w4.heap.size := fun k hk => ⟨h.lvb k hk, (h.row.lt k hk).2⟩
  have xnew : ∀ k, x.ownBlock = some k → k < w5.heap.size ∧ lv.ownBlock ≠ some k ∧ ∀ (j' : Nat) (u : Value), i + 1 ≤ j' → vs[j']? = some u → u.ownBlock ≠ some k := fun k hk => by
    refine ⟨(hx.own.lt k hk).2, ?_, ?_⟩
    · intro e
      have h1 := lvlt k e
      rcases hx.blk with h2 | ⟨g, h2, h3⟩
      · have := vlt k (h2.symm.trans hk); omega
      · rw [hk] at h2; injection h2 with h2; omega
    · intro j' u hj hu e
      rcases hx.blk with h2 | ⟨g, h2, h3⟩
      · exact hb.ap.two i j' v u hv hu (by omega) k (h2.symm.trans hk) e
      · rw [hk] at h2; injection h2 with h2
        have := hb.lt u (List.mem_of_getElem? hu) k e; omega
  have hgl : w0.heap.size ≤ gl := by
    rcases hg with ⟨h1, _⟩ | ⟨h1, _⟩
    · exact h.lvb gl h1
    · omega
  have gne : ∀ k, k < w6.heap.size → lv.ownBlock ≠ some k → some gl ≠ some k := fun k hk hl e => by
    injection e with e
    rcases hg with ⟨h1, _⟩ | ⟨h1, _⟩
    · exact hl (e ▸ h1)
    · omega
  refine ⟨h.fr.step f47 fun k hk e => ?_, fun j u hu => f47.cell (h.cell j u hu) fun e => ?_, fun j u hu => ?_, fun j u hj hu => f47.own (h.own j u (by omega) hu) fun k hk e => ?_, hown, (fun k hk => by have e : some gl = some k := hk; injection e with e; omega), fun j y hy => ?_, fun j y hy k hk => ?_⟩
  · rcases e with e | e
    · exact ⟨v, hmem, e⟩
    · have := lvlt k e; omega
  · rcases e with e | e
    · exact (hb.ap.ne v hmem).1 e
    · have := lvlt _ e; have := hb.gk; simp only at *; omega
  · by_cases hji : j = i
    · subst hji
      rw [hv] at hu; injection hu with hu; subst hu
      exact hx.rd.fr f57 fun k hk e => by have := lvlt k e; have := vlt k hk; omega
    · refine (h.rd j u hu).fr f47 fun k hk e => ?_
      rcases e with e | e
      · exact hb.ap.two i j v u hv hu (by omega) k e hk
      · have := lvlt k e; have := hb.lt u (List.mem_of_getElem? hu) k hk; omega
  · rcases e with e | e
    · exact hb.ap.two i j v u hv hu (by omega) k e hk
    · have := lvlt k e; have := hb.lt u (List.mem_of_getElem? hu) k hk; omega
  · have hl := h.row.1
    rcases Nat.lt_or_ge j xs.length with hj | hj
    · rw [List.getElem?_append_left hj] at hy
      refine (h.xrd j y hy).fr f47 fun k hk e => ?_
      have h1 := h.xb j y hy k hk
      rcases e with e | e
      · exact h1.2.2 i v (Nat.le_refl _) hv e
      · exact h1.2.1 e
    · rw [List.getElem?_append_right hj] at hy
      have hj0 : j - xs.length = 0 := by
        have := (List.getElem?_eq_some_iff.1 hy).1; simp at this; omega
      rw [hj0] at hy
      injection hy with hy; subst hy
      obtain rfl : j = i := by omega
      exact (Rd.of (mrk_ok j) hx.own).fr f57 fun k hk => (xnew k hk).2.1
  · have hl := h.row.1
    rcases Nat.lt_or_ge j xs.length with hj | hj
    · rw [List.getElem?_append_left hj] at hy
      have h1 := h.xb j y hy k hk
      exact ⟨by omega, gne k (by omega) h1.2.1, fun j' u hj' hu => h1.2.2 j' u (by omega) hu⟩
    · rw [List.getElem?_append_right hj] at hy
      have hj0 : j - xs.length = 0 := by
        have := (List.getElem?_eq_some_iff.1 hy).1; simp at this; omega
      rw [hj0] at hy
      injection hy with hy; subst hy
      have h1 := xnew k hk
      exact ⟨by omega, gne k (by omega) h1.2.1, h1.2.2⟩
theorem Lx.later {w4 w w' : World} {v x : Value} {n k i : Nat} (h : Lx w4 w v x n k i) (hb : Below w.heap.size w w') : Lx w4 w' v x n k i := by
  have hf : Fr (fun _ => False) w w' := Fr.of hb
  exact ⟨hf.own h.own (fun _ _ h => h), h.blk, h.rd.fr hf (fun _ _ h => h), h.form, h.fr.step hf (fun _ _ h => h.elim)⟩
theorem Lg.rowAt {w0 w4 w5 : World} {gk gw : Nat} {vs : List Value} {n i k : Nat} {xs : List Value} {lv v x : Value} (h : Lg w0 w4 gk vs n i xs lv) (hb : Vb w0 vs gk gw) (hv : vs[i]? = some v) (hx : Lx w4 w5 v x n k i) : w5.ownsRow 0 22 1 lv i xs :=
  hx.fr.own h.row fun j hj e => by have := h.lvb j hj; have := hb.lt v (List.mem_of_getElem? hv) j e; omega
/-- One list as a row of its own. -/
theorem wpList_sliceS {ops : Array Oper} {rest : List Oper} {o : Oper} {a : Act} {w : World} {Q : Exit → Act → World → Prop} (hw : Region.wanted o (yielded ops a.tmps) = true) (x : Operand) (ho : o.op = .buildSlice 51 1 #[(0, x)])
    (p : Option Go.Addr) (n c : Nat) (hx : a.eval x = .slice p n c)
    (h : wpList Tryd.prog ops Q rest (a.put o.dst (.slice (some ⟨w.heap.size, 0, none⟩) 1 1)) (w.alloc (.cells #[.slice p n c] 22))) : wpList Tryd.prog ops Q (o :: rest) a w := by
  obtain ⟨i0, hi, hz0, hz1, hz2⟩ := info_parts (show (Tryd.prog.info? 22).map (fun i => (i.zero, i.size, i.bytes)) = some (some (.slice none 0 0), 1, 24) by kernel_rfl)
  refine BigFrame.wpList_want hw fun _ hK => wp_buildSlice 51 22 1 _ ho #[.slice p n c] i0 _ Tryd.underlying51 hi hz0 (by rw [hz1]; omega) (by rw [hz1]; omega) ?_ (hK _ _ h)
  rw [hz1]
  have e : (Array.map (fun (x : Nat × Operand) => match x with | (i, x) => (i, a.eval x)) #[(0, x)]).toList = [(0, .slice p n c)] := by simp [hx]
  have : Instr.fill (fun i => some (i * 1, 1)) ((Array.range (1 * 1)).map ((Value.slice none 0 0).cells[· % (Value.slice none 0 0).cells.size]!)) [(0, .slice p n c)] = some #[.slice p n c] := by kernel_rfl
  rw [← e] at this
  exact this
theorem news_s (w : World) (v : Value) : ∀ j u, [v][j]? = some u → (w.alloc (.cells #[v] 22)).cell? ((⟨w.heap.size, 0, none⟩ : Go.Addr).add j) = some u := fun j u hu => by
  rw [Addr.add_lit, (Blk.new w 22 #[v]).cell, Nat.zero_add]
  cases j with
  | zero => simpa using hu
  | succ j => simp at hu
theorem one_s (p : Option Go.Addr) (n c : Nat) : ∀ u ∈ [Value.slice p n c], u.oneCell' = true := fun u hu => by rw [List.mem_singleton.1 hu]; rfl
/-- Where a value of a list can be read. -/
theorem Rd.at {w : World} {p : Option Go.Addr} {n c k : Nat} {r : Rt} (h : Rd w (.slice p n c) n r) (hk : k < n) (hr : r.ok) : ∃ g o, p = some ⟨g, o, none⟩ ∧ w.cell? ⟨g, o + k * 19 + 18, none⟩ = some (.int .i64 r.link) := by
  obtain ⟨p', c', e, h⟩ := h
  injection e with e1 _ _
  subst e1
  rcases h with ⟨_, h⟩ | ⟨g, o, h1, _, h3⟩
  · have := congrArg List.length h; simp at this; omega
  · exact ⟨g, o, h1, h3.link (i := k) (by rw [List.getElem?_replicate, if_pos hk]) hr⟩
end Go.Proofs.YtpaplobjmmpliaaDoor.Ad
namespace Go.Proofs.YtpaplobjmmpliaaDoor.Ad
set_option linter.unusedVariables false
set_option linter.unusedSimpArgs false
open Go.RowKit Go.Maps W
theorem slice_some {w : World} {E : TypeId} {size : Nat} {v : Value} {n : Nat} {xs : List Value} (h : w.ownsRow 0 E size v n xs) : ∃ p c, v = .slice p n c ∧ (0 < n → ∃ g, p = some ⟨g, 0, none⟩) := by
  rcases h.2 with ⟨h1, h2⟩ | ⟨g, c, _, h1, _⟩
  · exact ⟨none, 0, by rw [h1, h2], fun h => by omega⟩
  · exact ⟨_, c, h1, fun _ => ⟨g, rfl⟩⟩
set_option maxRecDepth 100000 in
set_option maxHeartbeats 1000000 in
theorem marked_calls {s : List Rt} (hs : ∀ r ∈ s, r.wf) (h32 : s.length ≤ 32) (vs us : List Value) (hm6 : vs.length ≤ 6) (hvu : us.length = vs.length) (gk gw ck cw : Nat) (w : World)
    (hl : Ls w gk vs s.length (fun _ => s)) (hb : Vb w vs gk gw) (hu : ∀ (i : Nat) (u : Value), us[i]? = some u → w.cell? ⟨gw, i, none⟩ = some u ∧ ∃ p c, u = .slice p s.length c ∧ AtS w p s) :
    Calls Tryd.prog 23 #[.slice (some ⟨gk, 0, none⟩) vs.length ck, .slice (some ⟨gw, 0, none⟩) us.length cw] w fun e w' => e = .returned (.bool true) ∧ Fr (Sv vs) w w' := by
  have HL := Lib.hid hl
  have HB := Lib.hid hb
  have HU := Lib.hid hu
  have HS := Lib.hid hs
  have HOK := Lib.hid (fun r (hr : r ∈ s) => (hs r hr).ok)
  rw [hvu]
  have HSM : Hid (∀ p1 c1 p2 c2 w', AtS w' p1 s → AtS w' p2 s → Calls Tryd.prog 15 #[.slice p1 s.length c1, .slice p2 s.length c2] w' fun e w2 => e = .returned (.bool true) ∧ Below w'.heap.size w' w2) := Lib.hid fun p1 c1 p2 c2 w' h1 h2 => by
    have h := same_calls hs hs (by omega) p1 c1 p2 c2 w' h1.at h2.at
    rwa [decide_eq_true rfl] at h
  obtain ⟨n, hn⟩ : ∃ n, s.length = n := ⟨_, rfl⟩
  obtain ⟨m, hm⟩ : ∃ m, vs.length = m := ⟨_, rfl⟩
  have HN := Lib.hid hn
  have HM := Lib.hid hm
  have HMU : Hid (us.length = m) := Lib.hid (hvu.trans hm)
  rw [hn] at HL HU HSM h32
  rw [hm] at hm6 ⊢
  clear hl hb hu hs hvu hn hm
  obtain ⟨i0, hi, hz0, hz1, hz2⟩ := info_parts (show (Tryd.prog.info? 44).map (fun i => (i.zero, i.size, i.bytes)) = some (some (.agg zeroRt.cells), 19, 40) by kernel_rfl)
  obtain ⟨j0, ji, jz0, jz1, jz2⟩ := info_parts (show (Tryd.prog.info? 22).map (fun i => (i.zero, i.size, i.bytes)) = some (some (.slice none 0 0), 1, 24) by kernel_rfl)
  go_enter Tryd.func23, Tryd.ntmps23
  go_wp2
  go_loopw [5] (fun u wr => ∃ i : Nat, u = .int .i64 i ∧ i ≤ m ∧ Hid (Below w.heap.size w wr)) (fun u _ => m - (intOf u).toNat)
  case atStart => exact ⟨0, rfl, Nat.zero_le _, Lib.hid (Below.refl _ _)⟩
  case round =>
    obtain ⟨i, rfl, hik, HW⟩ := hrel
    by_cases hlt : i < m
    · have e1 : decide ((i : Int) < (m : Int)) = true := decide_eq_true (by omega)
      have e1' : decide (i < m) = true := decide_eq_true hlt
      obtain ⟨v, hv⟩ : ∃ v, vs[i]? = some v := ⟨_, List.getElem?_eq_getElem (by have := HM.out; omega)⟩
      obtain ⟨u, hu⟩ : ∃ u, us[i]? = some u := ⟨_, List.getElem?_eq_getElem (by have := HMU.out; omega)⟩
      obtain ⟨hu1, p2, c2, rfl, hu2⟩ := HU.out i u hu
      obtain ⟨p1, c1, rfl, hv2, _⟩ := row_ats (n := 0) (l := s) HOK.out (by rw [HN.out]; exact HL.out.own i v hv)
      have hv1 := HL.out.cell i _ hv
      rw [HN.out] at hv1
      have c1' : ∀ z : Later wr, z.val.cell? ⟨gk, i, none⟩ = some (.slice p1 n c1) := Later.cell ((HW.out.cell (World.block_lt_of_cell? _ _ hv1)).trans hv1)
      have c2' : ∀ z : Later wr, z.val.cell? ⟨gw, i, none⟩ = some (.slice p2 n c2) := Later.cell ((HW.out.cell (World.block_lt_of_cell? _ _ hu1)).trans hu1)
      have HSA := Lib.hid (fun z : Later wr => HSM.out p1 c1 p2 c2 z.val ((hv2.later HW.out).later z.property) ((hu2.later HW.out).later z.property))
      clear hv hu hu1 hu2 hv1 hv2
      go_upto_region 4 with fail
      refine region_later (by kernel_rfl) (by kernel_rfl) ?_
      repeat (first | go_big_quiet_skip | (go_big_quiet_want; first | (go_big_quiet_op; first | go_big_quiet_on | go_big_quiet_call ((go_at_call 15; exact calls_later (HSA.out _))))))
      refine wpQuiet_nil ?_
      intro z hz
      have HW2 := Lib.hid (HW.out.trans (hz.mono HW.out.size))
      clear hz c1' c2'
      go_wp2
      exact ⟨⟨i + 1, by go_num, by omega, HW2⟩, by simp [intOf]; omega⟩
    · have e1 : decide ((i : Int) < (m : Int)) = false := decide_eq_false (by omega)
      have e1' : decide (i < m) = false := decide_eq_false hlt
      have HX : Hid (Ls wr gk vs n (Xc s n 0 0)) := Lib.hid (Ls.congr (HL.out.later HW.out) fun j => (Xc_zero s n j).symm)
      have HF : Hid (Fr (Sv vs) w wr) := Lib.hid (Fr.of HW.out)
      clear hlt hik HW
      go_wp2
      clear e1 e1'
      go_loopw [6, 7] (fun u6 _ wr => ∃ i : Nat, u6 = .int .i64 i ∧ i ≤ m ∧ Hid (Ls wr gk vs n (Xc s n i 0)) ∧ Hid (Fr (Sv vs) w wr)) (fun u6 _ _ => m - (intOf u6).toNat)
      case atStart => exact ⟨0, rfl, Nat.zero_le _, HX, HF⟩
      case round =>
        obtain ⟨i, rfl, hik, HX, HF⟩ := hrel
        by_cases hlt : i < m
        · have e1 : decide ((i : Int) < (m : Int)) = true := decide_eq_true (by omega)
          have e1' : decide (i < m) = true := decide_eq_true hlt
          obtain ⟨v, hv⟩ : ∃ v, vs[i]? = some v := ⟨_, List.getElem?_eq_getElem (by have := HM.out; omega)⟩
          obtain ⟨p1, c1, rfl, hsome⟩ := slice_some (HX.out.own i v hv)
          have HV := Lib.hid hv
          have HSO := Lib.hid hsome
          clear hv hsome
          go_wp2
          go_loopw [7] (fun u7 wr => ∃ k : Nat, u7 = .int .i64 k ∧ k ≤ n ∧ Hid (Ls wr gk vs n (Xc s n i k)) ∧ Hid (Fr (Sv vs) w wr)) (fun u7 _ => n - (intOf u7).toNat)
          case atStart => exact ⟨0, rfl, Nat.zero_le _, HX, HF⟩
          case round =>
            obtain ⟨k, rfl, hkn, HX, HF⟩ := hrel
            have cg : wr.cell? ⟨gk, i, none⟩ = some (.slice p1 n c1) := HX.out.cell i _ HV.out
            by_cases hk : k < n
            · have e2 : decide ((k : Int) < (n : Int)) = true := decide_eq_true (by omega)
              have e2' : decide (k < n) = true := decide_eq_true hk
              obtain ⟨g, rfl⟩ := HSO.out (by omega)
              have HT : Hid (wr.there g (k * 19) (mrk i).cells.size) := Lib.hid (by rw [rcs (mrk_ok i)]; exact own_there (HX.out.own i _ HV.out) hk)
              have HX2 : Hid (Ls (wr.setCells g (k * 19) (mrk i).cells.toList) gk vs n (Xc s n i (k + 1))) := Lib.hid (HX.out.store HB.out.ap HOK.out HN.out HV.out hk)
              have HBT := Lib.hid (show Tryd.prog.built 44 [(1, .int .i64 (-9)), (2, .int .i64 (-100 - (i : Int)))] = some (mrk i).cells by kernel_rfl)
              have HSZ := Lib.hid (rszc (mrk_ok i))
              have HON := Lib.hid (rone (mrk i))
              have HF2 : Hid (Fr (Sv vs) w (wr.setCells g (k * 19) (mrk i).cells.toList)) := Lib.hid (HF.out.step (fr_sets g _ _ _) fun k' _ e => ⟨_, List.mem_of_getElem? HV.out, by rw [e]; rfl⟩)
              obtain ⟨cs, hcs⟩ : ∃ cs, (mrk i).cells = cs := ⟨_, rfl⟩
              rw [hcs] at HT HX2 HBT HSZ HON HF2
              clear HX HF hcs
              go_wp2_with (first | (refine wpList_build2 rfl 44 1 2 _ _ rfl (.int .i64 (-9)) (.int .i64 (-100 - (i : Int))) rfl rfl cs HBT.out ?_) | (refine wpList_store_mid rfl 44 _ _ rfl g (k * 19) cs rfl rfl HT.out HSZ.out HON.out ?_))
              exact ⟨⟨k + 1, by go_num, by omega, HX2, HF2⟩, by simp [intOf]; omega⟩
            · have e2 : decide ((k : Int) < (n : Int)) = false := decide_eq_false (by omega)
              have e2' : decide (k < n) = false := decide_eq_false hk
              obtain rfl : k = n := by omega
              have HX2 := Lib.hid (Ls.congr HX.out (Xc_next HN.out i))
              clear hk HX
              go_wp2
              exact ⟨⟨i + 1, by go_num, by omega, HX2, HF⟩, by simp [intOf]; omega⟩
        · have e1 : decide ((i : Int) < (m : Int)) = false := decide_eq_false (by omega)
          have e1' : decide (i < m) = false := decide_eq_false hlt
          obtain rfl : i = m := by omega
          have HG := Lib.hid (Lg.start HX.out HF.out HM.out)
          clear hlt hik HX HF
          go_wp2
          clear e1 e1'
          go_loopw [8, 9, 10, 11] (fun u8 u9 _ _ wr => ∃ (j : Nat) (xs : List Value), u9 = .int .i64 j ∧ j ≤ i ∧ Hid (Lg w wr gk vs n j xs u8)) (fun _ u9 _ _ _ => i - (intOf u9).toNat)
          case atStart => exact ⟨0, [], rfl, Nat.zero_le _, HG⟩
          case round =>
            obtain ⟨j, xs, rfl, hj, HG⟩ := hrel
            by_cases hlt : j < i
            · have e1 : decide ((j : Int) < (i : Int)) = true := decide_eq_true (by omega)
              have e1' : decide (j < i) = true := decide_eq_true hlt
              obtain ⟨v, hv⟩ : ∃ v, vs[j]? = some v := ⟨_, List.getElem?_eq_getElem (by have := HM.out; omega)⟩
              obtain ⟨p1, c1, rfl, _⟩ := slice_some (HG.out.own j v (Nat.le_refl _) hv)
              have HV := Lib.hid hv
              have HX0 := Lib.hid (Lx.start (HG.out.own j _ (Nat.le_refl _) hv))
              have cg : wr.cell? ⟨gk, j, none⟩ = some (.slice p1 n c1) := HG.out.cell j _ hv
              clear hv
              obtain ⟨W4, rfl⟩ : ∃ W, W = wr := ⟨wr, rfl⟩
              have HBT := Lib.hid (show Tryd.prog.built 44 [(1, .int .i64 (-9)), (2, .int .i64 (-100 - (j : Int)))] = some (mrk j).cells by kernel_rfl)
              have HCS : Hid ((mrk j).cells = (mrk j).vals.toArray) := Lib.hid rfl
              obtain ⟨cs, hcs⟩ : ∃ cs, (mrk j).cells = cs := ⟨_, rfl⟩
              rw [hcs] at HBT HCS
              clear hcs
              go_wp2
              clear cg
              go_loopw [10, 11] (fun u10 u11 wr => ∃ (k : Nat) (x : Value), u11 = .int .i64 k ∧ u10 = x ∧ k ≤ 80 ∧ Hid (Lx W4 wr (.slice p1 n c1) x n k j)) (fun _ u11 _ => 80 - (intOf u11).toNat)
              case atStart => exact ⟨0, _, rfl, rfl, Nat.zero_le _, HX0⟩
              case round =>
                obtain ⟨k, x, rfl, rfl, hk80, HX⟩ := hrel
                by_cases hk : k < 80
                · have e2 : decide ((k : Int) < 80) = true := decide_eq_true (by omega)
                  have e2' : decide (k < 80) = true := decide_eq_true hk
                  have HXA := Lib.hid (HX.out.later ((Below.refl _ _).alloc (Nat.le_refl _) (.cells (mrk j).cells 44)))
                  clear HX0
                  go_wp2_with (first | (refine wpList_build2 rfl 44 1 2 _ _ rfl (.int .i64 (-9)) (.int .i64 (-100 - (j : Int))) rfl rfl cs HBT.out ?_) | (refine wpList_slice1 rfl _ rfl (mrk j) (mrk_ok j) (by exact congrArg Value.agg HCS.out) ?_) | (at_builtin; refine wpList_append_two rfl _ _ 22 rfl 44 i0 _ 19 40 Tryd.underlying22 hi hz0 hz1 hz2 (by rfl) (by omega) 0 _ (n + k) (flat (List.replicate (n + k) (mrk j))) rfl HXA.out.own ⟨wr.heap.size, 0, none⟩ 1 1 (mrk j).vals rfl (by rw [vals_len (mrk_ok j)]) (news_rt wr (mrk j)) (vals_one _) (by omega) (by unfold maxLen; omega) (by omega) (Nat.zero_le _) ?_; intro g' cap' w1 hown hgr hlt'))
                  have HX2 := Lib.hid (Lx.next HXA.out hown (hgr.imp id fun h => ⟨Nat.le_of_eq h.1.symm, h.2⟩))
                  exact ⟨⟨k + 1, _, by go_num, rfl, by omega, HX2⟩, by simp [intOf]; omega⟩
                · have e2 : decide ((k : Int) < 80) = false := decide_eq_false (by omega)
                  have e2' : decide (k < 80) = false := decide_eq_false hk
                  obtain rfl : k = 80 := by omega
                  have HRW := Lib.hid (HG.out.rowAt HB.out HV.out HX.out)
                  obtain ⟨px, cx, rfl, _⟩ := slice_some HX.out.own
                  clear hk hk80 HX0
                  go_wp2_with (first | (refine wpList_sliceS rfl _ rfl px (n + 80) cx rfl ?_) | (at_builtin; refine wpList_append_two rfl _ _ 51 rfl 22 j0 _ 1 24 Tryd.underlying51 ji jz0 jz1 jz2 (by rfl) (by omega) 0 _ j xs rfl (World.ownsRow.alloc HRW.out _) ⟨wr.heap.size, 0, none⟩ 1 1 [.slice px (n + 80) cx] rfl rfl (news_s wr _) (one_s _ _ _) (by omega) (by unfold maxLen; omega) (by omega) (Nat.zero_le _) ?_; intro gl cl w7 hown hgr hlt'))
                  exact ⟨⟨j + 1, _, by go_num, by omega, Lib.hid (HG.out.next HB.out HV.out HX.out ((Below.refl _ _).alloc (Nat.le_refl _) _) hown hgr)⟩, by simp [intOf]; omega⟩
            · have e1 : decide ((j : Int) < (i : Int)) = false := decide_eq_false (by omega)
              have e1' : decide (j < i) = false := decide_eq_false hlt
              obtain rfl : j = i := by omega
              clear hlt hj
              go_wp2
              clear e1 e1'
              obtain ⟨N, hN⟩ : ∃ N, n + 80 = N := ⟨_, rfl⟩
              have hN32 : N ≤ 112 := by omega
              obtain ⟨pl, cl, rfl, hpl⟩ := slice_some HG.out.row
              have HPL := Lib.hid hpl
              have HXR : Hid (∀ (w' : World), Lg w w' gk vs n j xs (.slice pl j cl) → ∀ (i : Nat) (x : Value), xs[i]? = some x → Rd w' x N (mrk i)) := Lib.hid fun w' h i x hx => hN ▸ h.xrd i x hx
              have HXL : Hid (xs.length = j) := Lib.hid (by have := HG.out.row.1; omega)
              clear hN hpl
              go_loopw [12, 13] (fun u12 _ wr => ∃ i : Nat, u12 = .int .i64 i ∧ i ≤ j ∧ Hid (Lg w wr gk vs n j xs (.slice pl j cl))) (fun u12 _ _ => j - (intOf u12).toNat)
              case atStart => exact ⟨0, rfl, Nat.zero_le _, HG⟩
              case round =>
                obtain ⟨i, rfl, hij, HG⟩ := hrel
                by_cases hlt : i < j
                · have e1 : decide ((i : Int) < (j : Int)) = true := decide_eq_true (by omega)
                  have e1' : decide (i < j) = true := decide_eq_true hlt
                  obtain ⟨v, hv⟩ : ∃ v, vs[i]? = some v := ⟨_, List.getElem?_eq_getElem (by have := HM.out; omega)⟩
                  obtain ⟨x, hx⟩ : ∃ x, xs[i]? = some x := ⟨_, List.getElem?_eq_getElem (by have := HXL.out; omega)⟩
                  obtain ⟨p1, c1, rfl, _⟩ := HG.out.rd i v hv
                  obtain ⟨px, cx, rfl, _⟩ := HXR.out _ HG.out i x hx
                  obtain ⟨gl, rfl⟩ := HPL.out (by omega)
                  have HV := Lib.hid hv
                  have HXI := Lib.hid hx
                  clear hv hx
                  go_wp2
                  go_loopw [13] (fun u13 wr => ∃ k : Nat, u13 = .int .i64 k ∧ k ≤ N ∧ Hid (Lg w wr gk vs n j xs (.slice (some ⟨gl, 0, none⟩) j cl))) (fun u13 _ => N - (intOf u13).toNat)
                  case atStart => exact ⟨0, rfl, Nat.zero_le _, HG⟩
                  case round =>
                    obtain ⟨k, rfl, hk, HG⟩ := hrel
                    have cgk : wr.cell? ⟨gk, i, none⟩ = some (.slice p1 n c1) := HG.out.cell i _ HV.out
                    have cgl : wr.cell? ⟨gl, i, none⟩ = some (.slice px N cx) := (HG.out.row.cellAt i (by omega)).trans HXI.out
                    have fl : ((-100 - (i : Int)) != (-100 - (i : Int))) = false := bne_self_eq_false _
                    by_cases hkN : k < N
                    · have e2 : decide ((k : Int) < (N : Int)) = true := decide_eq_true (by omega)
                      have e2' : decide (k < N) = true := decide_eq_true hkN
                      obtain ⟨gx, ox, rfl, cx18⟩ := (HXR.out _ HG.out i _ HXI.out).at hkN (mrk_ok i)
                      have cx18 : wr.cell? ⟨gx, ox + k * 19 + 18, none⟩ = some (.int .i64 (-100 - (i : Int))) := cx18
                      by_cases hkn : k < n
                      · have e3 : decide ((k : Int) < (n : Int)) = true := decide_eq_true (by omega)
                        have e3' : decide (k < n) = true := decide_eq_true hkn
                        obtain ⟨gv, ov, rfl, cv18⟩ := (HG.out.rd i _ HV.out).at hkn (mrk_ok i)
                        have cv18 : wr.cell? ⟨gv, ov + k * 19 + 18, none⟩ = some (.int .i64 (-100 - (i : Int))) := cv18
                        go_wp2
                        exact ⟨⟨k + 1, by go_num, by omega, HG⟩, by simp [intOf]; omega⟩
                      · have e3 : decide ((k : Int) < (n : Int)) = false := decide_eq_false (by omega)
                        have e3' : decide (k < n) = false := decide_eq_false hkn
                        go_wp2
                        exact ⟨⟨k + 1, by go_num, by omega, HG⟩, by simp [intOf]; omega⟩
                    · have e2 : decide ((k : Int) < (N : Int)) = false := decide_eq_false (by omega)
                      have e2' : decide (k < N) = false := decide_eq_false hkN
                      go_wp2
                      exact ⟨⟨i + 1, by go_num, by omega, HG⟩, by simp [intOf]; omega⟩
                · have e1 : decide ((i : Int) < (j : Int)) = false := decide_eq_false (by omega)
                  have e1' : decide (i < j) = false := decide_eq_false hlt
                  clear hlt
                  go_wp2
                  go_ret
                  exact ⟨rfl, HG.out.fr⟩
end Go.Proofs.YtpaplobjmmpliaaDoor.Ad
namespace Go.Proofs.YtpaplobjmmpliaaDoor.Ad
set_option linter.unusedVariables false
set_option linter.unusedSimpArgs false
open Go.RowKit Go.Maps W
def AtA (w : World) (q : Option Go.Addr) (ds : List Addr) : Prop := ds = [] ∨ ∃ g o, q = some ⟨g, o, none⟩ ∧ g < w.heap.size ∧ ∀ (i : Nat) (a : Addr), ds[i]? = some a → w.rangeAt g (o + i * 17) a.vals
theorem AtA.later {w w' : World} {q : Option Go.Addr} {ds : List Addr} (h : AtA w q ds) (hb : Below w.heap.size w w') : AtA w' q ds := by
  rcases h with h | ⟨g, o, h1, h2, h3⟩
  · exact .inl h
  · exact .inr ⟨g, o, h1, Nat.lt_of_lt_of_le h2 hb.size, fun i a ha j v hv => (hb.cell (by exact h2)).trans (h3 i a ha j v hv)⟩
set_option maxRecDepth 100000 in
theorem slice_rt (g n m c : Nat) (h : n ≤ c) (w : World) : (Instr.slice 22 (.slice (some ⟨g, 0, none⟩) m c) none (some (.int .i64 (n : Int))) none).run Tryd.prog w = .ok (.slice (some ⟨g, 0, none⟩) n c) w := by
  have e2 : Tryd.prog.elem 22 = 44 := by kernel_rfl
  have e3 : (Go.sizeOf 44).run Tryd.prog w = .ok 19 w := by kernel_rfl
  rw [run_slice_h w 22 _ m c Tryd.underlying22 .i64 (n : Int) (by omega) (by omega), e2, e3, Result.andThen_ok, sliced, Int.toNat_natCast]
  simp [Go.Addr.add]
def r171 : Rt := rt4 171 1 16 7
def r172 : Rt := rt4 172 1 16 7
def r99 : Rt := rt4 99 9 16 9
theorem fill_two : Instr.fill (fun i => some (i * 19, 19)) ((Array.range (2 * 19)).map ((Value.agg zeroRt.cells).cells[· % (Value.agg zeroRt.cells).cells.size]!)) [(0, .agg r171.cells), (1, .agg r172.cells)] = some (flat [r171, r172]).toArray := by kernel_rfl
theorem wpList_slice2 {ops : Array Oper} {rest : List Oper} {o : Oper} {a : Act} {w : World} {Q : Exit → Act → World → Prop} (hg : o.guard = none) (x y : Operand) (ho : o.op = .buildSlice 22 2 #[(0, x), (1, y)])
    (hx : a.eval x = .agg r171.cells) (hy : a.eval y = .agg r172.cells)
    (h : wpList Tryd.prog ops Q rest (a.put o.dst (.slice (some ⟨w.heap.size, 0, none⟩) 2 2)) (w.alloc (.cells (flat [r171, r172]).toArray 44))) : wpList Tryd.prog ops Q (o :: rest) a w := by
  obtain ⟨i0, hi, hz0, hz1, hz2⟩ := info_parts (show (Tryd.prog.info? 44).map (fun i => (i.zero, i.size, i.bytes)) = some (some (.agg zeroRt.cells), 19, 40) by kernel_rfl)
  refine wpList_buildSlice hg 22 44 2 _ ho (flat [r171, r172]).toArray i0 _ Tryd.underlying22 hi hz0 (by rw [hz1]; omega) (by rw [hz1]; omega) ?_ h
  rw [hz1]
  have e : (Array.map (fun (x : Nat × Operand) => match x with | (i, x) => (i, a.eval x)) #[(0, x), (1, y)]).toList = [(0, .agg r171.cells), (1, .agg r172.cells)] := by simp [hx, hy]
  have := fill_two
  rw [← e] at this
  exact this
theorem wpList_sliceS2 {ops : Array Oper} {rest : List Oper} {o : Oper} {a : Act} {w : World} {Q : Exit → Act → World → Prop} (hg : o.guard = none) (x y : Operand) (ho : o.op = .buildSlice 51 2 #[(0, x), (1, y)])
    (p : Option Go.Addr) (n c : Nat) (q : Option Go.Addr) (m d : Nat) (hx : a.eval x = .slice p n c) (hy : a.eval y = .slice q m d)
    (h : wpList Tryd.prog ops Q rest (a.put o.dst (.slice (some ⟨w.heap.size, 0, none⟩) 2 2)) (w.alloc (.cells #[.slice p n c, .slice q m d] 22))) : wpList Tryd.prog ops Q (o :: rest) a w := by
  obtain ⟨i0, hi, hz0, hz1, hz2⟩ := info_parts (show (Tryd.prog.info? 22).map (fun i => (i.zero, i.size, i.bytes)) = some (some (.slice none 0 0), 1, 24) by kernel_rfl)
  refine wpList_buildSlice hg 51 22 2 _ ho #[.slice p n c, .slice q m d] i0 _ Tryd.underlying51 hi hz0 (by rw [hz1]; omega) (by rw [hz1]; omega) ?_ h
  rw [hz1]
  have e : (Array.map (fun (x : Nat × Operand) => match x with | (i, x) => (i, a.eval x)) #[(0, x), (1, y)]).toList = [(0, .slice p n c), (1, .slice q m d)] := by simp [hx, hy]
  have : Instr.fill (fun i => some (i * 1, 1)) ((Array.range (2 * 1)).map ((Value.slice none 0 0).cells[· % (Value.slice none 0 0).cells.size]!)) [(0, .slice p n c), (1, .slice q m d)] = some #[.slice p n c, .slice q m d] := by kernel_rfl
  rw [← e] at this
  exact this
theorem news_s2 (w : World) (v u : Value) : ∀ j x, [v, u][j]? = some x → (w.alloc (.cells #[v, u] 22)).cell? ((⟨w.heap.size, 0, none⟩ : Go.Addr).add j) = some x := fun j x hx => by
  rw [Addr.add_lit, (Blk.new w 22 #[v, u]).cell, Nat.zero_add]
  simpa using hx
theorem one_s2 (p : Option Go.Addr) (n c : Nat) (q : Option Go.Addr) (m d : Nat) : ∀ u ∈ [Value.slice p n c, .slice q m d], u.oneCell' = true := fun u hu => by
  rcases List.mem_cons.1 hu with rfl | hu
  · rfl
  · rw [List.mem_singleton.1 hu]; rfl
theorem news_flat (w : World) (l : List Rt) : ∀ j u, (flat l)[j]? = some u → (w.alloc (.cells (flat l).toArray 44)).cell? ((⟨w.heap.size, 0, none⟩ : Go.Addr).add j) = some u := fun j u hu => by
  rw [Addr.add_lit, (Blk.new w 44 (flat l).toArray).cell, Nat.zero_add]
  simpa using hu
/-- Two lists with no block in common. -/
def Dj (v u : Value) : Prop := ∀ k, v.ownBlock = some k → u.ownBlock ≠ some k
theorem Dj.symm {v u : Value} (h : Dj v u) : Dj u v := fun k h1 h2 => h k h2 h1
theorem own_types {w : World} {B B' : Nat} {E E' : TypeId} {s s' : Nat} {v v' : Value} {n n' : Nat} {xs xs' : List Value} (h : w.ownsRow B E s v n xs) (h' : w.ownsRow B' E' s' v' n' xs') (hE : E ≠ E') : Dj v v' := fun k h1 h2 => by
  rcases h.2 with ⟨rfl, _⟩ | ⟨g, c, cur, rfl, _, hg, _⟩
  · cases h1
  · rcases h'.2 with ⟨rfl, _⟩ | ⟨g', c', cur', rfl, _, hg', _⟩
    · cases h2
    · have e1 : g = k := by injection h1
      have e2 : g' = k := by injection h2
      subst e1; subst e2
      rw [hg] at hg'
      injection hg' with hg'
      injection hg' with _ h3 _
      exact hE h3
theorem rt_sl : (44 : TypeId) ≠ 22 := by decide
/-- The lists that are kept, their copies, and the two rows that hold them; all behind W5. -/
structure Kp (W5 w : World) (n : Nat) (s : List Rt) (ks ws : List Value) (kv wv : Value) : Prop where
  below : Below W5.heap.size W5 w
  ko : ∀ v ∈ ks, w.ownsRow W5.heap.size 44 19 v n (flat s)
  wo : ∀ u ∈ ws, w.ownsRow W5.heap.size 44 19 u n (flat s)
  kk : ks.Pairwise Dj
  kw : ∀ v ∈ ks, ∀ u ∈ ws, Dj v u
  kr : w.ownsRow W5.heap.size 22 1 kv ks.length ks
  wr : w.ownsRow W5.heap.size 22 1 wv ws.length ws
  rr : Dj kv wv
theorem Kp.start (w : World) (n : Nat) (s : List Rt) : Kp w w n s [] [] (.slice none 0 0) (.slice none 0 0) :=
  ⟨Below.refl _ _, (fun v hv => by cases hv), (fun v hv => by cases hv), .nil, (fun v hv => by cases hv), World.ownsRow_nil _ _ _ _, World.ownsRow_nil _ _ _ _, fun k h => by cases h⟩
theorem Kp.later {W5 w w' : World} {n : Nat} {s : List Rt} {ks ws : List Value} {kv wv : Value} (h : Kp W5 w n s ks ws kv wv) (hb : Below w.heap.size w w') : Kp W5 w' n s ks ws kv wv :=
  ⟨h.below.trans (hb.mono h.below.size), fun v hv => own_later (h.ko v hv) hb, fun v hv => own_later (h.wo v hv) hb, h.kk, h.kw, own_later h.kr hb, own_later h.wr hb, h.rr⟩
theorem fr_row {w w' : World} {v : Value} {g : Nat} (hg : (v.ownBlock = some g ∧ w.grownBy w' (some g)) ∨ (g = w.heap.size ∧ w.grownBy w' none)) : Fr (fun k => v.ownBlock = some k) w w' := by
  rcases hg with ⟨h1, h2⟩ | ⟨_, h2⟩
  · exact (Fr.grown h2).mono fun k _ e => h1.trans e
  · exact (Fr.grown h2).mono fun k _ e => by cases e
theorem Kp.addK {W5 wA wB wC wD wE : World} {n : Nat} {s : List Rt} {ks ws : List Value} {kv wv a b : Value} {g c : Nat} (h : Kp W5 wA n s ks ws kv wv) (hAB : Below wA.heap.size wA wB) (ha : wB.ownsRow wA.heap.size 44 19 a n (flat s))
    (hBC : Below wB.heap.size wB wC) (hb : wC.ownsRow wB.heap.size 44 19 b n (flat s)) (hCD : Below wC.heap.size wC wD)
    (hown : wE.ownsRow W5.heap.size 22 1 (.slice (some ⟨g, 0, none⟩) (ks.length + 2) c) (ks.length + 2) (ks ++ [a, b])) (hg : (kv.ownBlock = some g ∧ wD.grownBy wE (some g)) ∨ (g = wD.heap.size ∧ wD.grownBy wE none)) :
    Kp W5 wE n s (ks ++ [a, b]) ws (.slice (some ⟨g, 0, none⟩) (ks.length + 2) c) wv := by
  have s1 := hAB.size; have s2 := hBC.size; have s3 := hCD.size; have s0 := h.below.size
  have hD : Kp W5 wD n s ks ws kv wv := ((h.later hAB).later hBC).later hCD
  have aD := own_base (own_later (own_later ha hBC) hCD) s0
  have bD := own_base (own_later hb hCD) (Nat.le_trans s0 s1)
  have F := fr_row hg
  have rt : ∀ {v : Value}, wD.ownsRow W5.heap.size 44 19 v n (flat s) → wE.ownsRow W5.heap.size 44 19 v n (flat s) := fun {v} hv => F.own hv fun k h1 h2 => own_types hv hD.kr rt_sl k h1 h2
  have oldlt : ∀ v ∈ ks, ∀ k, v.ownBlock = some k → k < wA.heap.size := fun v hv k hk => ((h.ko v hv).lt k hk).2
  have wlt : ∀ v ∈ ws, ∀ k, v.ownBlock = some k → k < wA.heap.size := fun v hv k hk => ((h.wo v hv).lt k hk).2
  have age : ∀ k, a.ownBlock = some k → wA.heap.size ≤ k ∧ k < wB.heap.size := fun k hk => ha.lt k hk
  have bge : ∀ k, b.ownBlock = some k → wB.heap.size ≤ k := fun k hk => (hb.lt k hk).1
  refine ⟨(hD.below.trans (F.below (fun k hk e => by have := (hD.kr.lt k e).1; omega) hD.below.size)), fun v hv => ?_, fun u hu => rt (hD.wo u hu), ?_, fun v hv u hu => ?_, by simpa using hown, F.own hD.wr (fun k h1 h2 => hD.rr k h2 h1), fun k hk => ?_⟩
  · rcases List.mem_append.1 hv with hv | hv
    · exact rt (hD.ko v hv)
    · rcases List.mem_cons.1 hv with rfl | hv
      · exact rt aD
      · rw [List.mem_singleton.1 hv]; exact rt bD
  · rw [List.pairwise_append]
    refine ⟨h.kk, ?_, fun v hv u hu k h1 h2 => ?_⟩
    · rw [List.pairwise_pair]
      intro k h1 h2
      have := age k h1; have := bge k h2; omega
    · have := oldlt v hv k h1
      rcases List.mem_cons.1 hu with rfl | hu
      · have := age k h2; omega
      · rw [List.mem_singleton.1 hu] at h2; have := bge k h2; omega
  · rcases List.mem_append.1 hv with hv | hv
    · exact h.kw v hv u hu
    · intro k h1 h2
      have := wlt u hu k h2
      rcases List.mem_cons.1 hv with rfl | hv
      · have := age k h1; omega
      · rw [List.mem_singleton.1 hv] at h1; have := bge k h1; omega
  · have e : g = k := by injection hk
    subst e
    rcases hg with ⟨h1, _⟩ | ⟨h1, _⟩
    · exact hD.rr g h1
    · intro h2; have := (hD.wr.lt g h2).2; omega
theorem Kp.addW {W5 wA wB wC wD wE : World} {n : Nat} {s : List Rt} {ks ws : List Value} {kv wv a b : Value} {g c : Nat} (h : Kp W5 wA n s ks ws kv wv) (hAB : Below wA.heap.size wA wB) (ha : wB.ownsRow wA.heap.size 44 19 a n (flat s))
    (hBC : Below wB.heap.size wB wC) (hb : wC.ownsRow wB.heap.size 44 19 b n (flat s)) (hCD : Below wC.heap.size wC wD)
    (hown : wE.ownsRow W5.heap.size 22 1 (.slice (some ⟨g, 0, none⟩) (ws.length + 2) c) (ws.length + 2) (ws ++ [a, b])) (hg : (wv.ownBlock = some g ∧ wD.grownBy wE (some g)) ∨ (g = wD.heap.size ∧ wD.grownBy wE none)) :
    Kp W5 wE n s ks (ws ++ [a, b]) kv (.slice (some ⟨g, 0, none⟩) (ws.length + 2) c) := by
  have s1 := hAB.size; have s2 := hBC.size; have s3 := hCD.size; have s0 := h.below.size
  have hD : Kp W5 wD n s ks ws kv wv := ((h.later hAB).later hBC).later hCD
  have aD := own_base (own_later (own_later ha hBC) hCD) s0
  have bD := own_base (own_later hb hCD) (Nat.le_trans s0 s1)
  have F := fr_row hg
  have rt : ∀ {v : Value}, wD.ownsRow W5.heap.size 44 19 v n (flat s) → wE.ownsRow W5.heap.size 44 19 v n (flat s) := fun {v} hv => F.own hv fun k h1 h2 => own_types hv hD.wr rt_sl k h1 h2
  have oldlt : ∀ v ∈ ks, ∀ k, v.ownBlock = some k → k < wA.heap.size := fun v hv k hk => ((h.ko v hv).lt k hk).2
  have age : ∀ k, a.ownBlock = some k → wA.heap.size ≤ k ∧ k < wB.heap.size := fun k hk => ha.lt k hk
  have bge : ∀ k, b.ownBlock = some k → wB.heap.size ≤ k := fun k hk => (hb.lt k hk).1
  refine ⟨(hD.below.trans (F.below (fun k hk e => by have := (hD.wr.lt k e).1; omega) hD.below.size)), fun u hu => rt (hD.ko u hu), fun v hv => ?_, h.kk, fun v hv u hu => ?_, F.own hD.kr (fun k h1 h2 => hD.rr k h1 h2), by simpa using hown, fun k hk h2 => ?_⟩
  · rcases List.mem_append.1 hv with hv | hv
    · exact rt (hD.wo v hv)
    · rcases List.mem_cons.1 hv with rfl | hv
      · exact rt aD
      · rw [List.mem_singleton.1 hv]; exact rt bD
  · rcases List.mem_append.1 hu with hu | hu
    · exact h.kw v hv u hu
    · intro k h1 h2
      have := oldlt v hv k h1
      rcases List.mem_cons.1 hu with rfl | hu
      · have := age k h2; omega
      · rw [List.mem_singleton.1 hu] at h2; have := bge k h2; omega
  · have e : g = k := by injection h2
    subst e
    rcases hg with ⟨h1, _⟩ | ⟨h1, _⟩
    · exact hD.rr g hk h1
    · have := (hD.kr.lt g hk).2; omega
theorem same_self (r : Rt) : r.same r = true := by unfold Rt.same; exact decide_eq_true ⟨rfl, rfl⟩
theorem may99 (n : Nat) : mayV (List.replicate n r99) = decide (n < 2) := by
  match n with
  | 0 => decide +kernel
  | 1 => decide +kernel
  | n + 2 =>
    rw [decide_eq_false (by omega)]
    cases h : mayV (List.replicate (n + 2) r99) with
    | false => rfl
    | true =>
      have h1 := (good_iff.1 ((mayV_iff _).1 h).2).2
      rw [List.replicate_succ, List.replicate_succ] at h1
      have h2 := (List.pairwise_cons.1 h1).1 r99 List.mem_cons_self
      rw [same_self] at h2; cases h2
def text99 : List UInt8 := [57, 57, 46, 57, 46, 48, 46, 48, 47, 49, 54, 32, 57, 10]
theorem print99_one : printR [r99] = (text99, 0) := by decide +kernel
theorem print99_none : printR [] = ([], 0) := by decide +kernel
theorem print99_more (n : Nat) : printR (List.replicate (n + 2) r99) = ([], 1) := by
  unfold printR
  rw [may99, decide_eq_false (by omega)]; rfl
theorem print99 (n : Nat) : (n < 2 → (printR (List.replicate n r99)).2 = 0) ∧ (2 ≤ n → (printR (List.replicate n r99)).2 = 1) ∧ (n = 1 → (printR (List.replicate n r99)).1 = text99) := by
  match n with
  | 0 => exact ⟨fun _ => by rw [show List.replicate 0 r99 = [] from rfl, print99_none], fun h => by omega, fun h => by omega⟩
  | 1 => exact ⟨fun _ => by rw [show List.replicate 1 r99 = [r99] from rfl, print99_one], fun h => by omega, fun _ => by rw [show List.replicate 1 r99 = [r99] from rfl, print99_one]⟩
  | n + 2 => exact ⟨fun h => by omega, fun _ => by rw [print99_more], fun h => by omega⟩
/-- One operation of a region that draws its order, guarded or not. -/
theorem any_stepG {P : Program} {md : Region.Mode} {ops : Array Oper} {Q : Exit → Act → World → Prop} {fuel : Nat} {listed : Array Bool} {a : Act} {w : World} (i : Nat) {o : Oper} (hr : Region.ready md ops listed = [i]) (ho : ops[i]? = some o) (hw : Region.wanted o (yielded ops a.tmps) = true)
    (h : Oper.wp P o a w (wpAny P md ops Q fuel (listed.setIfInBounds i true)) Q) : wpAny P md ops Q (fuel + 1) listed a w :=
  wpAny_ready hr (by simp) (AllReady.cons ho (fun K hK => by rw [if_pos hw]; exact Oper.wp_mono hK h) AllReady.nil)
theorem any_stepG2 {P : Program} {md : Region.Mode} {ops : Array Oper} {Q : Exit → Act → World → Prop} {fuel : Nat} {listed : Array Bool} {a : Act} {w : World} (i j : Nat) {o p : Oper} (hr : Region.ready md ops listed = [i, j]) (ho : ops[i]? = some o) (hp : ops[j]? = some p) (hw : Region.wanted o (yielded ops a.tmps) = true) (hwp : Region.wanted p (yielded ops a.tmps) = true)
    (h : Oper.wp P o a w (wpAny P md ops Q fuel (listed.setIfInBounds i true)) Q) (h2 : Oper.wp P p a w (wpAny P md ops Q fuel (listed.setIfInBounds j true)) Q) : wpAny P md ops Q (fuel + 1) listed a w :=
  wpAny_ready hr (by simp) (AllReady.cons ho (fun K hK => by rw [if_pos hw]; exact Oper.wp_mono hK h)
    (AllReady.cons hp (fun K hK => by rw [if_pos hwp]; exact Oper.wp_mono hK h2) AllReady.nil))
theorem wp_enterG {P : Program} {o : Oper} {a : Act} {w : World} {K : Act → World → Prop} {Q : Exit → Act → World → Prop} (f : FuncId) (args : Array Value) (hrun : (execOp a.eval o).run P w = .ok (.enter f args) w)
    (h : Calls P f args w fun e w' => ∃ v, e = .returned v ∧ K (a.put o.dst v) w') : o.wp P a w K Q := by
  unfold Oper.wp
  rw [hrun, Oper.upon_enter]
  refine h.mono fun e w' ⟨v, he, hk⟩ => ?_
  subst he; exact hk
theorem wpAny_named {P : Program} {md : Region.Mode} {ops : Array Oper} {Q : Exit → Act → World → Prop} {n : Nat} {b : Array Bool} {a : Act} {w : World} {B : Nat} {W0 : World} (h0 : Below B W0 w) (h : ∀ W, Below B W0 W → wpAny P md ops Q n b a W) : wpAny P md ops Q n b a w := h w h0
theorem own_shape {w : World} {B n : Nat} {v : Value} {s : List Rt} (hs : ∀ r ∈ s, r.ok) (hn : s.length = n) (h : w.ownsRow B 44 19 v n (flat s)) : ∃ p c, v = .slice p n c ∧ (p = none → c = 0) ∧ AtS w p s := by
  obtain ⟨p, c, h1, h2, _⟩ := row_ats (n := 0) (l := s) hs (by rw [hn]; exact h)
  rw [hn] at h1
  refine ⟨p, c, h1, fun hp => ?_, h2⟩
  rcases h.2 with ⟨h3, _⟩ | ⟨g, cap, _, h3, _⟩
  · rw [h3] at h1; injection h1 with _ _ h4; exact h4.symm
  · rw [h3, hp] at h1; injection h1 with h4; cases h4
theorem own_at {w : World} {B n c : Nat} {p : Option Go.Addr} {s : List Rt} (hs : ∀ r ∈ s, r.ok) (hn : s.length = n) (h : w.ownsRow B 44 19 (.slice p n c) n (flat s)) : AtS w p s := by
  obtain ⟨p', c', h1, _, h2⟩ := own_shape hs hn h
  injection h1 with h1
  rw [h1]; exact h2
theorem AtS.front {w : World} {a : Go.Addr} {l m : List Rt} (h : AtS w (some a) (l ++ m)) : AtS w (some a) l := by
  rcases h with ⟨h, _⟩ | ⟨g, o, h1, h2, h3⟩
  · cases h
  · exact .inr ⟨g, o, h1, h2, fun i r hr => h3 i r (by rw [List.getElem?_append_left (List.getElem?_eq_some_iff.1 hr).1]; exact hr)⟩
theorem flat_app (l m : List Rt) : flat (l ++ m) = flat l ++ flat m := by simp [flat]
/-- A row read from its first cell on. -/
theorem own_ats {w : World} {B n g c : Nat} {l : List Rt} (hs : ∀ r ∈ l, r.ok) (hn : l.length = n) (h : w.ownsRow B 44 19 (.slice (some ⟨g, 0, none⟩) n c) n (flat l)) : AtS w (some ⟨g, 0, none⟩) l := by
  obtain ⟨p, c', h1, _, h2⟩ := own_shape hs hn h
  injection h1 with h1
  rw [h1]; exact h2
theorem own_range {w : World} {B n g c i : Nat} {l : List Rt} {r : Rt} (hs : ∀ r ∈ l, r.ok) (hn : l.length = n) (h : w.ownsRow B 44 19 (.slice (some ⟨g, 0, none⟩) n c) n (flat l)) (hr : l[i]? = some r) : w.rangeAt g (i * 19) r.vals := by
  rcases own_ats hs hn h with ⟨h1, _⟩ | ⟨g', o, h1, _, h3⟩
  · cases h1
  · injection h1 with h1
    injection h1 with h4 h5
    subst h4; subst h5
    have := h3 i r hr
    rwa [Nat.zero_add] at this
/-- A table whose memory lies from lo to hi. -/
def TabIn (lo hi : Nat) (w : World) (t : Value) (s : List Rt) : Prop := ∃ g p c, t = .pointer (some ⟨g, 0, none⟩) ∧ Blk w g 55 #[.slice p s.length c] ∧ AtS w p s ∧ lo ≤ g ∧ g < hi ∧ ∀ a, p = some a → lo ≤ a.block ∧ a.block < hi
theorem TabIn.of {B : Nat} {w : World} {t : Value} {s : List Rt} (h : Tab B w t s) : TabIn B w.heap.size w t s := by
  obtain ⟨g, p, c, h1, h2, h3, h4, h5⟩ := h.is
  refine ⟨g, p, c, h1, h2, h3, h4, h2.lt, fun a ha => ⟨h5 a ha, ?_⟩⟩
  rcases h3 with ⟨h, _⟩ | ⟨g', o, h6, h7, _⟩
  · rw [h] at ha; cases ha
  · rw [h6] at ha; injection ha with ha; subst ha; exact h7
theorem TabIn.tab {lo hi : Nat} {w : World} {t : Value} {s : List Rt} (h : TabIn lo hi w t s) : Tab lo w t s := by
  obtain ⟨g, p, c, h1, h2, h3, h4, _, h5⟩ := h
  exact ⟨g, p, c, h1, h2, h3, h4, fun a ha => (h5 a ha).1⟩
theorem TabIn.fr {S : Nat → Prop} {lo hi : Nat} {w w' : World} {t : Value} {s : List Rt} (h : TabIn lo hi w t s) (hf : Fr S w w') (hS : ∀ k, lo ≤ k → k < hi → ¬ S k) : TabIn lo hi w' t s := by
  obtain ⟨g, p, c, h1, h2, h3, h4, h5, h6⟩ := h
  exact ⟨g, p, c, h1, hf.blk h2 (hS g h4 h5), h3.fr hf (fun a ha => hS _ (h6 a ha).1 (h6 a ha).2), h4, h5, h6⟩
theorem TabIn.later {lo hi : Nat} {w w' : World} {t : Value} {s : List Rt} (h : TabIn lo hi w t s) (hb : Below w.heap.size w w') : TabIn lo hi w' t s := h.fr (Fr.of (S := fun _ => False) hb) (fun _ _ _ h => h)
theorem TabIn.ptr {lo hi : Nat} {w : World} {t : Value} {s : List Rt} (h : TabIn lo hi w t s) : ∃ g, t = .pointer (some ⟨g, 0, none⟩) := by
  obtain ⟨g, p, c, h1, _⟩ := h
  exact ⟨g, h1⟩
/-- The lists kept and their copies, wherever their memory lies behind B. -/
structure Kq (B : Nat) (w : World) (n : Nat) (s : List Rt) (ks ws : List Value) (kv wv : Value) : Prop where
  ko : ∀ v ∈ ks, w.ownsRow B 44 19 v n (flat s)
  wo : ∀ u ∈ ws, w.ownsRow B 44 19 u n (flat s)
  kk : ks.Pairwise Dj
  kw : ∀ v ∈ ks, ∀ u ∈ ws, Dj v u
  kr : w.ownsRow B 22 1 kv ks.length ks
  wr : w.ownsRow B 22 1 wv ws.length ws
theorem Kp.q {W5 w : World} {n : Nat} {s : List Rt} {ks ws : List Value} {kv wv : Value} (h : Kp W5 w n s ks ws kv wv) : Kq W5.heap.size w n s ks ws kv wv := ⟨h.ko, h.wo, h.kk, h.kw, h.kr, h.wr⟩
theorem Kq.fr {S : Nat → Prop} {B : Nat} {w w' : World} {n : Nat} {s : List Rt} {ks ws : List Value} {kv wv : Value} (h : Kq B w n s ks ws kv wv) (hf : Fr S w w') (hS : ∀ k, B ≤ k → ¬ S k) : Kq B w' n s ks ws kv wv :=
  ⟨fun v hv => hf.own (h.ko v hv) fun k hk => hS k ((h.ko v hv).lt k hk).1, fun v hv => hf.own (h.wo v hv) fun k hk => hS k ((h.wo v hv).lt k hk).1, h.kk, h.kw, hf.own h.kr fun k hk => hS k (h.kr.lt k hk).1, hf.own h.wr fun k hk => hS k (h.wr.lt k hk).1⟩
theorem Kq.later {B : Nat} {w w' : World} {n : Nat} {s : List Rt} {ks ws : List Value} {kv wv : Value} (h : Kq B w n s ks ws kv wv) (hb : Below w.heap.size w w') : Kq B w' n s ks ws kv wv := h.fr (Fr.of (S := fun _ => False) hb) (fun _ _ h => h)
/-- What marked asks. -/
theorem Kq.marked {B : Nat} {w : World} {s : List Rt} {ks ws : List Value} {gk ck gw cw : Nat} (hs : ∀ r ∈ s, r.ok) (h : Kq B w s.length s ks ws (.slice (some ⟨gk, 0, none⟩) ks.length ck) (.slice (some ⟨gw, 0, none⟩) ws.length cw)) :
    Ls w gk ks s.length (fun _ => s) ∧ Vb w ks gk gw ∧ ∀ (i : Nat) (u : Value), ws[i]? = some u → w.cell? ⟨gw, i, none⟩ = some u ∧ ∃ p c, u = .slice p s.length c ∧ AtS w p s := by
  refine ⟨⟨fun i v hv => ?_, fun i v hv => own_base (h.ko v (List.mem_of_getElem? hv)) (Nat.zero_le _)⟩, ⟨⟨fun v hv => ⟨fun e => own_types (h.ko v hv) h.kr rt_sl gk e rfl, fun e => own_types (h.ko v hv) h.wr rt_sl gw e rfl⟩, fun i j v u hv hu hij => ?_⟩, fun v hv k hk => ((h.ko v hv).lt k hk).2, (h.kr.lt gk rfl).2⟩, fun i u hu => ⟨?_, ?_⟩⟩
  · exact (h.kr.cellAt i (by have := (List.getElem?_eq_some_iff.1 hv).1; omega)).trans hv
  · obtain ⟨hi, e1⟩ := List.getElem?_eq_some_iff.1 hv
    obtain ⟨hj, e2⟩ := List.getElem?_eq_some_iff.1 hu
    rw [← e1, ← e2]
    rcases Nat.lt_or_gt_of_ne hij with h1 | h1
    · exact List.pairwise_iff_getElem.1 h.kk i j hi hj h1
    · exact Dj.symm (List.pairwise_iff_getElem.1 h.kk j i hj hi h1)
  · exact (h.wr.cellAt i (by have := (List.getElem?_eq_some_iff.1 hu).1; omega)).trans hu
  · obtain ⟨p, c, h1, _, h2⟩ := own_shape hs rfl (h.wo u (List.mem_of_getElem? hu))
    exact ⟨p, c, h1, h2⟩
theorem news_i (w : World) (v : Value) : ∀ j u, [v][j]? = some u → (w.alloc (.cells #[v] 3)).cell? ((⟨w.heap.size, 0, none⟩ : Go.Addr).add j) = some u := fun j u hu => by
  rw [Addr.add_lit, (Blk.new w 3 #[v]).cell, Nat.zero_add]
  cases j with
  | zero => simpa using hu
  | succ j => simp at hu
/-- The list that is written over, i routes in. -/
def Yc (l : List Rt) (i : Nat) : List Rt := List.replicate i r99 ++ (l ++ [r171, r172]).drop i
theorem Yc_len {l : List Rt} {n i : Nat} (hn : l.length = n) (hi : i ≤ n) : (Yc l i).length = n + 2 := by unfold Yc; simp; omega
theorem Yc_ok {l : List Rt} (hl : ∀ r ∈ l, r.ok) (i : Nat) : ∀ r ∈ Yc l i, r.ok := fun r hr => by
  rcases List.mem_append.1 hr with h | h
  · rw [(List.mem_replicate.1 h).2]; rfl
  · rcases List.mem_append.1 (List.mem_of_mem_drop h) with h | h
    · exact hl r h
    · rcases List.mem_cons.1 h with rfl | h
      · rfl
      · rw [List.mem_singleton.1 h]; rfl
theorem Yc_step {l : List Rt} {n i : Nat} (hn : l.length = n) (hi : i < n) : (Yc l i).set i r99 = Yc l (i + 1) := by
  unfold Yc
  have hd : (l ++ [r171, r172]).drop i = (l ++ [r171, r172])[i]'(by simp; omega) :: (l ++ [r171, r172]).drop (i + 1) := List.drop_eq_getElem_cons (by simp; omega)
  rw [hd, List.set_append_right _ _ (by simp), List.length_replicate, Nat.sub_self, List.set_cons_zero, List.replicate_succ', List.append_assoc]; rfl
theorem Yc_zero (l : List Rt) : Yc l 0 = l ++ [r171, r172] := by unfold Yc; simp
theorem Yc_end {l : List Rt} {n : Nat} (hn : l.length = n) : Yc l n = List.replicate n r99 ++ [r171, r172] := by unfold Yc; rw [List.drop_append_of_le_length (by omega), List.drop_of_length_le (by omega)]; rfl
end Go.Proofs.YtpaplobjmmpliaaDoor.Ad
namespace Go.Proofs.YtpaplobjmmpliaaDoor.Ad
set_option linter.unusedVariables false
set_option linter.unusedSimpArgs false
open Go.RowKit Go.Maps W
set_option maxRecDepth 100000 in
set_option maxHeartbeats 8000000 in
theorem keeps_calls {l : List Rt} (hl : ∀ r ∈ l, r.wf) {ds : List Addr} (hd : ∀ a ∈ ds, a.ok) (hb : l.length ≤ 1048576) (hdb : ds.length ≤ 1048576) (p : Option Go.Addr) (c : Nat) (qd : Option Go.Addr) (dd : Nat) (w : World) (hp : At w p l) (hn : p = none → c = 0) (hq : AtA w qd ds) (hg : Gp w) :
    Calls Tryd.prog 8 #[.slice p l.length c, .slice qd ds.length dd] w fun e w' => e = .returned (.bool true) ∧ Below w.heap.size w w' := by
  have HG := Lib.hid hg
  have HP := Lib.hid hp
  have HQ := Lib.hid hq
  have HD := Lib.hid hd
  have HL := Lib.hid hl
  have HLK := Lib.hid (fun r hr => (hl r hr).ok)
  have HOW := Lib.hid (own_row (fun r hr => (hl r hr).ok) hb p c w hp hn)
  have HNW := Lib.hid (fun p c w' (h : AtS w' p l) => new_any hl p c w' h)
  have HPR := Lib.hid (fun p c w' (h : AtS w' p l) hg => printl_calls hl p c w' h hg)
  have HSS : Hid (∀ p1 c1 w', AtS w' p1 l → Below w.heap.size w w' → Calls Tryd.prog 15 #[.slice p1 l.length c1, .slice p l.length c] w' fun e w2 => e = .returned (.bool true) ∧ Below w'.heap.size w' w2) := Lib.hid fun p1 c1 w' h1 h2 => by
    have h := same_calls hl hl hb p1 c1 p c w' h1.at (hp.later h2)
    rwa [decide_eq_true rfl] at h
  have N1 := Lib.hid (fun w => net4_calls 171 1 171 1 rfl rfl 16 7 w)
  have N2 := Lib.hid (fun w => net4_calls 172 1 172 1 rfl rfl 16 7 w)
  have N9 := Lib.hid (fun w => net4_calls 99 9 99 9 rfl rfl 16 9 w)
  have H1 : Hid (r171.cells = r171.vals.toArray) := Lib.hid rfl
  have H2 : Hid (r172.cells = r172.vals.toArray) := Lib.hid rfl
  have H9 : Hid (r99.cells = r99.vals.toArray) := Lib.hid rfl
  have HSZ1 := Lib.hid (rsz (r := r171) rfl)
  have HSZ2 := Lib.hid (rsz (r := r172) rfl)
  have HV1 := Lib.hid (rfl : r171.vals = r171.vals)
  have q1 : ∀ w, (binOp .neq 44 (.agg r171.vals.toArray) (.agg r171.vals.toArray)).run Tryd.prog w = .ok (.bool false) w := fun w => by
    have := neq_rt r171 r171 rfl rfl w
    rwa [decide_eq_true rfl] at this
  have q2 : ∀ w, (binOp .neq 44 (.agg r172.vals.toArray) (.agg r172.vals.toArray)).run Tryd.prog w = .ok (.bool false) w := fun w => by
    have := neq_rt r172 r172 rfl rfl w
    rwa [decide_eq_true rfl] at this
  have HOKR : Hid (∀ r ∈ l ++ [r171, r172], r.ok) := Lib.hid (by have := Yc_ok (fun r hr => (hl r hr).ok) 0; rwa [Yc_zero] at this)
  have HX1 : Hid (∀ (w : World) (B n G cap : Nat), l.length = n → w.ownsRow B 44 19 (.slice (some ⟨G, 0, none⟩) (n + 2) cap) (n + 2) (flat (l ++ [r171, r172])) → w.rangeAt G (n * 19) r171.vals ∧ w.rangeAt G ((n + 1) * 19) r172.vals) := Lib.hid fun w B n G cap hn h => by
    have hok : ∀ r ∈ l ++ [r171, r172], r.ok := fun r hr => by have := Yc_ok (fun r hr => (hl r hr).ok) 0 r; rw [Yc_zero] at this; exact this hr
    exact ⟨own_range hok (by simp; omega) h (by rw [List.getElem?_append_right (by omega), hn, Nat.sub_self]; rfl), own_range hok (by simp; omega) h (by rw [List.getElem?_append_right (by omega), hn, show n + 1 - n = 1 by omega]; rfl)⟩
  change Hid (∀ w, Calls _ _ _ w fun e w' => e = .returned (.agg r171.vals.toArray) ∧ _) at N1
  change Hid (∀ w, Calls _ _ _ w fun e w' => e = .returned (.agg r172.vals.toArray) ∧ _) at N2
  change Hid (∀ w, Calls _ _ _ w fun e w' => e = .returned (.agg r99.cells) ∧ _) at N9
  have HFL : Hid ((flat [r171, r172]).length = 2 * 19) := Lib.hid rfl
  obtain ⟨u1, hu1⟩ : ∃ u, r171.vals = u := ⟨_, rfl⟩
  obtain ⟨u2, hu2⟩ : ∃ u, r172.vals = u := ⟨_, rfl⟩
  rw [hu1] at N1 H1 HSZ1 q1 HX1
  rw [hu2] at N2 H2 HSZ2 q2 HX1
  clear hu1 hu2 HV1
  obtain ⟨pv, hpv⟩ : ∃ v, printR l = v := ⟨_, rfl⟩
  obtain ⟨q, er⟩ := pv
  obtain ⟨m1, hm1⟩ : ∃ m, mayV l = m := ⟨_, rfl⟩
  rw [hpv] at HPR
  rw [hm1] at HNW
  simp only at HPR
  have HPV := Lib.hid hpv
  have HM1 := Lib.hid hm1
  obtain ⟨n, hnn⟩ : ∃ n, l.length = n := ⟨_, rfl⟩
  obtain ⟨m, hmm⟩ : ∃ m, ds.length = m := ⟨_, rfl⟩
  have HN := Lib.hid hnn
  have HDM := Lib.hid hmm
  rw [hnn] at HOW HNW HPR HSS hb ⊢
  rw [hmm] at hdb ⊢
  obtain ⟨j0, ji, jz0, jz1, jz2⟩ := info_parts (show (Tryd.prog.info? 22).map (fun i => (i.zero, i.size, i.bytes)) = some (some (.slice none 0 0), 1, 24) by kernel_rfl)
  obtain ⟨k0, ki, kz0, kz1, kz2⟩ := info_parts (show (Tryd.prog.info? 3).map (fun i => (i.zero, i.size, i.bytes)) = some (some (.int .i64 0), 1, 8) by kernel_rfl)
  obtain ⟨i0, hi, hz0, hz1, hz2⟩ := info_parts (show (Tryd.prog.info? 44).map (fun i => (i.zero, i.size, i.bytes)) = some (some (.agg zeroRt.cells), 19, 40) by kernel_rfl)
  clear hp hg hl hn hnn hmm hq hd hpv hm1
  go_enter Tryd.func8, Tryd.ntmps8
  go_upto_region 2 with (first | (go_at_call 10; refine HOW.out.mono ?_; rintro e W9 ⟨v0, rfl, hO, hB1⟩; have HB := Lib.hid hB1; have HO := Lib.hid hO; clear hB1 hO) | (go_at_call 22; (first | (with_reducible refine (N1.out _).mono ?_) | (with_reducible refine (N2.out _).mono ?_)); rintro e W9 ⟨rfl, hB9⟩; have HO := Lib.hid (own_later HO.out hB9); have HB := keep HB hB9; clear hB9) | (refine wpList_slice2 rfl _ _ rfl (by exact congrArg Value.agg H1.out.symm) (by exact congrArg Value.agg H2.out.symm) ?_) | (at_builtin; refine wpList_append_two rfl _ _ 22 rfl 44 i0 _ 19 40 Tryd.underlying22 hi hz0 hz1 hz2 (by rfl) (by omega) w.heap.size v0 n (flat l) rfl (World.ownsRow.alloc HO.out _) ⟨_, 0, none⟩ 2 2 (flat [r171, r172]) rfl HFL.out (news_flat _ _) (flat_one _) (by omega) (by unfold maxLen; omega) (by omega) (by have := HB.out.size; simp; omega) ?_; intro G cap W2 hown hgr hlt))
  have HBA : Hid (Below w.heap.size w (W9.alloc (.cells (flat [r171, r172]).toArray 44))) := Lib.hid (HB.out.alloc HB.out.size _)
  have HB2 : Hid (Below w.heap.size w W2) := Lib.hid (HBA.out.trans ((fr_row hgr).below (fun k hk e => by have := (HO.out.lt k e).1; omega) HBA.out.size))
  have hcap : n ≤ cap := by
    rcases hown.2 with ⟨h, _⟩ | ⟨g', c', _, h, _, _, h2, _⟩
    · cases h
    · injection h with _ _ h3; omega
  have HGW : Hid (w.heap.size ≤ G ∧ G < W2.heap.size) := Lib.hid (hown.lt G rfl)
  have HRM : Hid (W2.ownsRow w.heap.size 44 19 (.slice (some ⟨G, 0, none⟩) (n + 2) cap) (n + 2) (flat (l ++ [r171, r172]))) := Lib.hid (by rw [flat_app]; exact hown)
  have hs1 := slice_rt G n (n + 2) cap hcap
  have HAI : Hid (AtS W2 (some ⟨G, 0, none⟩) l) := Lib.hid (AtS.front (own_ats HOKR.out (by have := HN.out; simp; omega) HRM.out))
  clear hown hgr hlt HO HB HBA HOW
  go_upto_region 3 with fail
  clear hs1
  go_upto_region 4 with (go_at_call 9; refine (HNW.out _ _ _ HAI.out).mono ?_; rintro e W3 ⟨t, rfl, hT, hT0, hB3⟩)
  go_upto_region 5 with (go_at_call 21; refine (HPR.out _ _ _ (HAI.out.later hB3) (HG.out.later (HB2.out.trans (hB3.mono HB2.out.size)))).mono ?_; rintro e W4 ⟨rfl, hB4⟩)
  have HB24 := Lib.hid (hB3.trans (hB4.mono hB3.size))
  have HB4 := keep HB2 HB24.out
  have HRM := Lib.hid (own_later HRM.out HB24.out)
  have HAI := Lib.hid (HAI.out.later HB24.out)
  have HTY : Hid (m1 = true → TabIn W2.heap.size W4.heap.size W4 t (sortV l)) := Lib.hid fun h => TabIn.of ((hT h).later hB4)
  have HTN := Lib.hid hT0
  have HW24 := Lib.hid HB24.out.size
  clear hT hT0 hB3 hB4 HB24
  have HKN := Lib.hid (fun z : Later W4 => known_calls z.val (HG.out.later (keep HB4 z.property).out).gl)
  have HSM := Lib.hid (fun z : Later W4 => HSS.out (some ⟨G, 0, none⟩) cap z.val (HAI.out.later z.property) (keep HB4 z.property).out)
  have HL1 := Lib.hid (HX1.out W4 _ n G cap HN.out HRM.out).1
  have HL2 := Lib.hid (HX1.out W4 _ n G cap HN.out HRM.out).2
  refine region_later (by kernel_rfl) (by kernel_rfl) ?_
  repeat (first | go_big_quiet_skip | (go_big_quiet_want; first | (refine quiet_at 44 _ rfl G (n * 19) u1 _ rfl HL1.out Tryd.underlying44 rfl HSZ1.out ?_; simp only [Act.put, List.setIfInBounds_toArray, List.set_cons_zero, List.set_cons_succ]; go_big_quiet_on) | (refine quiet_at 44 _ rfl G ((n + 1) * 19) u2 _ rfl HL2.out Tryd.underlying44 rfl HSZ2.out ?_; simp only [Act.put, List.setIfInBounds_toArray, List.set_cons_zero, List.set_cons_succ]; go_big_quiet_on) | (go_big_quiet_op; first | go_big_quiet_on | go_big_quiet_call ((first | (go_at_call 11; exact calls_later (HKN.out _)) | (go_at_call 15; exact calls_later (HSM.out _)) | (go_at_call 22; first | (with_reducible exact calls_later (N1.out _)) | (with_reducible exact calls_later (N2.out _))))))))
  refine wpQuiet_nil ?_
  intro z hz
  have HB5 := keep HB4 hz
  have HRM := Lib.hid (own_later HRM.out hz)
  have HTY : Hid (m1 = true → TabIn W2.heap.size W4.heap.size z t (sortV l)) := Lib.hid fun h => (HTY.out h).later hz
  have HW4 := Lib.hid hz.size
  clear hz HKN HSM HL1 HL2 HAI HB4 q1 q2 N1 N2 H1 H2 HSZ1 HSZ2 HNW HPR HX1
  obtain ⟨W5, rfl⟩ : ∃ W, W = z := ⟨z, rfl⟩
  cases m1
  · have e : printR l = ([], 1) := by unfold printR; rw [HM1.out]; rfl
    rw [HPV.out] at e
    obtain ⟨rfl, rfl⟩ := Prod.mk.inj e
    obtain rfl := HTN.out rfl
    rw [show S [] = (⟨#[]⟩ : ByteArray) from rfl, show errV false = 1 from rfl]
    clear e
    go_wp2
    go_ret
    exact ⟨rfl, HB5.out⟩
  · have HT := Lib.hid (HTY.out rfl)
    obtain ⟨g1, rfl⟩ := HT.out.ptr
    have hm : mayV l = true := HM1.out
    have e : printR l = (linesT (sortV l), 0) := by unfold printR; rw [hm]; rfl
    rw [HPV.out] at e
    obtain ⟨rfl, rfl⟩ := Prod.mk.inj e
    have hn32 : n ≤ 32 := by have := may_32 hm; have := HN.out; omega
    have HSW := Lib.hid (sortV_wf HL.out)
    have HSN : Hid ((sortV l).length = n) := Lib.hid ((sortV_len l).trans HN.out)
    have HPA : Hid (∀ w', Gl w' → Calls Tryd.prog 18 #[.string (S (linesT (sortV l)))] w' fun e w2 => ∃ v, e = .returned (.tuple #[v, .int .i64 0]) ∧ w2.ownsRow w'.heap.size 44 19 v n (flat (sortV l)) ∧ Below w'.heap.size w' w2) := Lib.hid fun w' hg => by
      have h1 := printed_le HLK.out hm
      have h := parse_row (linesT (sortV l)) (by omega) w' hg
      rw [print_back HLK.out hm] at h
      simp only [sortV_len, HN.out] at h
      exact h
    have HAL : Hid (∀ B t w', Tab B w' t (sortV l) → Calls Tryd.prog 16 #[t] w' fun e w2 => ∃ v, e = .returned v ∧ w2.ownsRow w'.heap.size 44 19 v n (flat (sortV l)) ∧ Below w'.heap.size w' w2) := Lib.hid fun B t w' h => by
      have h := all_row (sortV_wf HL.out) (by rw [sortV_len, HN.out]; omega) B t w' h
      rwa [sortV_len, HN.out] at h
    have HOS : Hid (∀ p1 c1 w', AtS w' p1 (sortV l) → (p1 = none → c1 = 0) → Calls Tryd.prog 10 #[.slice p1 n c1] w' fun e w2 => ∃ v, e = .returned v ∧ w2.ownsRow w'.heap.size 44 19 v n (flat (sortV l)) ∧ Below w'.heap.size w' w2) := Lib.hid fun p1 c1 w' h1 h2 => by
      have h := own_row (fun r hr => (HSW.out r hr).ok) (by rw [HSN.out]; omega) p1 c1 w' h1.at h2
      rwa [HSN.out] at h
    have HSA : Hid (∀ p1 c1 p2 c2 w', AtS w' p1 (sortV l) → AtS w' p2 (sortV l) → Calls Tryd.prog 15 #[.slice p1 n c1, .slice p2 n c2] w' fun e w2 => e = .returned (.bool true) ∧ Below w'.heap.size w' w2) := Lib.hid fun p1 c1 p2 c2 w' h1 h2 => by
      have h := same_calls HSW.out HSW.out (by rw [HSN.out]; omega) p1 c1 p2 c2 w' h1.at h2.at
      rw [decide_eq_true rfl, HSN.out] at h
      exact h
    have HFI : Hid (∀ B t w' a, a.ok → Tab B w' t (sortV l) → Calls Tryd.prog 13 #[t, .agg a.vals.toArray] w' fun e w2 => e = .returned (.tuple #[.int .i64 (findV l a).1, .int .i64 (findV l a).2]) ∧ Below w'.heap.size w' w2) := Lib.hid fun B t w' a ha ht => by
      have h := find_calls (sortV_wf HL.out) (by rw [sortV_len, HN.out]; omega) B t w' ht a ha
      rw [find_sort HLK.out (may_good hm)] at h
      exact h
    have HSK := Lib.hid (fun r hr => (HSW.out r hr).ok)
    obtain ⟨s, hs⟩ : ∃ s, sortV l = s := ⟨_, rfl⟩
    rw [hs] at HT HSW HSN HPA HAL HOS HSA HFI HSK ⊢
    obtain ⟨q, hq⟩ : ∃ q, linesT s = q := ⟨_, rfl⟩
    rw [hq] at HPA ⊢
    rw [show errV true = 0 from rfl]
    clear e hm hs hq HTY HTN HPV HM1
    go_wp2
    go_loopw [11, 12, 13, 14, 15, 16] (fun u11 u12 u13 _ _ _ wr => ∃ (i : Nat) (ks ws : List Value) (kv wv : Value), u13 = .int .i64 i ∧ u11 = kv ∧ u12 = wv ∧ i ≤ 3 ∧ ks.length = 2 * i ∧ ws.length = 2 * i ∧ Hid (Kp W5 wr n s ks ws kv wv)) (fun _ _ u13 _ _ _ _ => 3 - (intOf u13).toNat)
    case atStart => exact ⟨0, [], [], _, _, rfl, rfl, rfl, by omega, rfl, rfl, Lib.hid (Kp.start W5 n s)⟩
    case round =>
      obtain ⟨i, ks, ws, kv, wv, rfl, rfl, rfl, hi3, hks, hws, HK⟩ := hrel
      have HBW := keep HB5 HK.out.below
      by_cases hlt : i < 3
      · have e1 : decide ((i : Int) < 3) = true := decide_eq_true (by omega)
        have e1' : decide (i < 3) = true := decide_eq_true hlt
        go_upto_region 14 with (go_at_call 16; refine (HAL.out _ _ _ (HT.out.later HK.out.below).tab).mono ?_; rintro e W6 ⟨a, rfl, hA, hB6⟩)
        obtain ⟨pa, ca, rfl, hna, _⟩ := own_shape HSK.out HSN.out hA
        have HA := Lib.hid hA
        have HB6 := Lib.hid hB6
        have HNA := Lib.hid hna
        have HGP := Lib.hid (HG.out.later (keep HBW HB6.out).out)
        clear hA hB6 hna
        go_upto_region 15 with (go_at_call 18; refine (HPA.out _ HGP.out.gl).mono ?_; rintro e W7 ⟨b, rfl, hA, hB7⟩)
        obtain ⟨pb, cb, rfl, hna, _⟩ := own_shape HSK.out HSN.out hA
        have HBO := Lib.hid hA
        have HB7 := Lib.hid hB7
        have HNB := Lib.hid hna
        clear hA hB7 hna HGP
        have HKR := Lib.hid (World.ownsRow.alloc ((HK.out.later HB6.out).later HB7.out).kr (.cells #[.slice pa n ca, .slice pb n cb] 22))
        have HSZ : Hid (W5.heap.size ≤ W7.heap.size) := Lib.hid ((HK.out.later HB6.out).later HB7.out).below.size
        go_upto_region 16 with (first | (refine wpList_sliceS2 rfl _ _ rfl pa n ca pb n cb rfl rfl ?_) | (at_builtin; refine wpList_append_two rfl _ _ 51 rfl 22 j0 _ 1 24 Tryd.underlying51 ji jz0 jz1 jz2 (by rfl) (by omega) W5.heap.size u11 ks.length ks rfl HKR.out ⟨W7.heap.size, 0, none⟩ 2 2 [.slice pa n ca, .slice pb n cb] rfl rfl (news_s2 _ _ _) (one_s2 _ _ _ _ _ _) (by omega) (by unfold maxLen; omega) (by omega) (by have := HSZ.out; simp; omega) ?_; intro g2 cap2 W8 hown hgr hlt'))
        have HK2 := Lib.hid (HK.out.addK HB6.out HA.out HB7.out HBO.out ((Below.refl _ _).alloc (Nat.le_refl _) _) hown hgr)
        clear hown hgr hlt' HKR HSZ
        have HO1 := Lib.hid (HOS.out pa ca W8 (own_at HSK.out HSN.out (HK2.out.ko (.slice pa n ca) (by simp))) HNA.out)
        have HO2 := Lib.hid (fun w' (hb : Below W8.heap.size W8 w') => HOS.out pb cb w' ((own_at HSK.out HSN.out (HK2.out.ko (.slice pb n cb) (by simp))).later hb) HNB.out)
        go_upto_region 17 with (first | (go_at_call 10; with_reducible refine HO1.out.mono ?_; rintro e W9 ⟨a2, rfl, hA2, hB9⟩; obtain ⟨pa2, ca2, rfl, _, _⟩ := own_shape HSK.out HSN.out hA2) | (go_at_call 10; with_reducible refine (HO2.out _ hB9).mono ?_; rintro e W10 ⟨b2, rfl, hA3, hB10⟩; obtain ⟨pb2, cb2, rfl, _, _⟩ := own_shape HSK.out HSN.out hA3; have HKR := Lib.hid (World.ownsRow.alloc ((HK2.out.later hB9).later hB10).wr (.cells #[.slice pa2 n ca2, .slice pb2 n cb2] 22)); have HSZ : Hid (W5.heap.size ≤ W10.heap.size) := Lib.hid ((HK2.out.later hB9).later hB10).below.size) | (refine wpList_sliceS2 rfl _ _ rfl pa2 n ca2 pb2 n cb2 rfl rfl ?_) | (at_builtin; refine wpList_append_two rfl _ _ 51 rfl 22 j0 _ 1 24 Tryd.underlying51 ji jz0 jz1 jz2 (by rfl) (by omega) W5.heap.size u12 ws.length ws rfl HKR.out ⟨W10.heap.size, 0, none⟩ 2 2 [.slice pa2 n ca2, .slice pb2 n cb2] rfl rfl (news_s2 _ _ _) (one_s2 _ _ _ _ _ _) (by omega) (by unfold maxLen; omega) (by omega) (by have := HSZ.out; simp; omega) ?_; intro g3 cap3 W11 hown hgr hlt'))
        have HK3 := Lib.hid (HK2.out.addW hB9 hA2 hB10 hA3 ((Below.refl _ _).alloc (Nat.le_refl _) _) hown hgr)
        rw [hks, hws] at HK3
        exact ⟨⟨i + 1, ks ++ [.slice pa n ca, .slice pb n cb], ws ++ [.slice pa2 n ca2, .slice pb2 n cb2], _, _, by go_num, rfl, rfl, by omega, by rw [List.length_append]; show ks.length + 2 = _; omega, by rw [List.length_append]; show ws.length + 2 = _; omega, HK3⟩, by simp [intOf]; omega⟩
      · have e1 : decide ((i : Int) < 3) = false := decide_eq_false (by omega)
        have e1' : decide (i < 3) = false := decide_eq_false hlt
        have HI3 : Hid (ks.length = 6 ∧ ws.length = 6) := Lib.hid (by omega)
        obtain ⟨W6, rfl⟩ : ∃ W, W = wr := ⟨wr, rfl⟩
        have HT := Lib.hid (HT.out.later HK.out.below)
        have HRM := Lib.hid (own_later HRM.out HK.out.below)
        clear hlt hi3 hks hws HPA HOS
        go_wp2
        clear e1 e1'
        go_loopw [17, 18, 19, 20] (fun u17 u18 _ _ wr => ∃ (i : Nat) (lv : Value), u18 = .int .i64 i ∧ u17 = lv ∧ i ≤ m ∧ Hid (Below W6.heap.size W6 wr) ∧ Hid (wr.ownsRow W6.heap.size 3 1 lv i ((ds.take i).map fun a => Value.int .i64 (findV l a).1))) (fun _ u18 _ _ _ => m - (intOf u18).toNat)
        case atStart => exact ⟨0, _, rfl, rfl, Nat.zero_le _, Lib.hid (Below.refl _ _), Lib.hid (World.ownsRow_nil _ _ _ _)⟩
        case round =>
          obtain ⟨i, lv, rfl, rfl, him, HB6, HLV⟩ := hrel
          have HBX := keep HBW HB6.out
          by_cases hlt : i < m
          · have e1 : decide ((i : Int) < (m : Int)) = true := decide_eq_true (by omega)
            have e1' : decide (i < m) = true := decide_eq_true hlt
            have HK0 : Hid (i < ds.length) := Lib.hid (by have := HDM.out; omega)
            obtain ⟨a, ha⟩ : ∃ r, ds[i]? = some r := ⟨_, List.getElem?_eq_getElem HK0.out⟩
            have hao := Lib.hid (HD.out a (List.mem_of_getElem? ha))
            have hap := HQ.out.later HBX.out
            have HAI := Lib.hid ha
            clear ha
            rcases hap with hap | ⟨ga, oa, rfl, hgl, hh⟩
            · have := HK0.out; rw [hap] at this; exact absurd this (Nat.not_lt_zero _)
            have HX := Lib.hid (hh i a HAI.out)
            clear hh hgl
            have F1 := Lib.hid (HFI.out _ _ wr a hao.out (HT.out.later HB6.out).tab)
            have HNX : Hid ((ds.take (i + 1)).map (fun a => Value.int .i64 (findV l a).1) = (ds.take i).map (fun a => Value.int .i64 (findV l a).1) ++ [Value.int .i64 (findV l a).1]) := Lib.hid (by rw [List.take_add_one, HAI.out]; simp)
            obtain ⟨x, hx⟩ : ∃ v, (findV l a).1 = v := ⟨_, rfl⟩
            obtain ⟨y, hy⟩ : ∃ v, (findV l a).2 = v := ⟨_, rfl⟩
            rw [hx, hy] at F1
            rw [hx] at HNX
            clear hx hy
            go_upto_region 22 with (first | (refine wpList_load_at rfl 35 _ rfl ga (oa + i * 17) a.vals _ rfl HX.out Tryd.underlying35 rfl (by as_aux_lemma => exact asz hao.out) ?_) | (go_at_call 13; refine F1.out.mono ?_; rintro e W12 ⟨rfl, hB12⟩))
            have HB7 := Lib.hid (HB6.out.trans (hB12.mono HB6.out.size))
            have HLA := Lib.hid (World.ownsRow.alloc (own_later HLV.out hB12) (.cells #[.int .i64 x] 3))
            have HBA := Lib.hid (HB7.out.alloc HB7.out.size (.cells #[.int .i64 x] 3))
            clear hB12
            go_wp2_with (at_builtin; refine wpList_append_two rfl _ _ 52 rfl 3 k0 _ 1 8 Tryd.underlying52 ki kz0 kz1 kz2 (by rfl) (by omega) W6.heap.size u17 i _ rfl HLA.out ⟨W12.heap.size, 0, none⟩ 1 1 [.int .i64 x] rfl rfl (news_i _ _) (fun u hu => by rw [List.mem_singleton.1 hu]; rfl) (by omega) (by unfold maxLen; omega) (by omega) (by exact HBA.out.size) ?_; intro g4 cap4 W13 hown hgr hlt')
            rw [← HNX.out] at hown
            exact ⟨⟨i + 1, _, by go_num, rfl, by omega, Lib.hid (HBA.out.trans ((fr_row hgr).below (fun k hk e => by have := (HLA.out.lt k e).1; omega) HBA.out.size)), Lib.hid hown⟩, by simp [intOf]; omega⟩
          · have e1 : decide ((i : Int) < (m : Int)) = false := decide_eq_false (by omega)
            have e1' : decide (i < m) = false := decide_eq_false hlt
            obtain rfl : i = m := by omega
            obtain ⟨W7, rfl⟩ : ∃ W, W = wr := ⟨wr, rfl⟩
            have HT := Lib.hid (HT.out.later HB6.out)
            have HKQ := Lib.hid (HK.out.later HB6.out).q
            have HRM := Lib.hid (own_later HRM.out HB6.out)
            have HLL : Hid (W7.ownsRow W6.heap.size 3 1 u17 i (ds.map fun a => Value.int .i64 (findV l a).1)) := Lib.hid (by
              have h := HLV.out
              rwa [← HDM.out, List.take_length, HDM.out] at h)
            have HS67 : Hid (W5.heap.size ≤ W6.heap.size ∧ W6.heap.size ≤ W7.heap.size) := Lib.hid ⟨HK.out.below.size, HB6.out.size⟩
            have HY0 : Hid (W7.ownsRow w.heap.size 44 19 (.slice (some ⟨G, 0, none⟩) (n + 2) cap) (n + 2) (flat (Yc l 0))) := Lib.hid (by rw [Yc_zero]; exact HRM.out)
            have HKL : Hid (∀ v ∈ ks, ∀ k, v.ownBlock = some k → k < W6.heap.size) := Lib.hid fun v hv k hk => ((HK.out.ko v hv).lt k hk).2
            clear hlt him HLV HRM HB6 HK HBW
            go_wp2
            clear e1 e1'
            go_loopw [21] (fun u21 wr => ∃ k : Nat, u21 = .int .i64 k ∧ k ≤ n ∧ Hid (wr.ownsRow w.heap.size 44 19 (.slice (some ⟨G, 0, none⟩) (n + 2) cap) (n + 2) (flat (Yc l k))) ∧ Hid (Fr (fun g => g = G) W7 wr)) (fun u21 _ => n - (intOf u21).toNat)
            case atStart => exact ⟨0, rfl, Nat.zero_le _, HY0, Lib.hid (Fr.refl _ _)⟩
            case round =>
              obtain ⟨k, rfl, hkn, HY, HF⟩ := hrel
              by_cases hk : k < n
              · have e2 : decide ((k : Int) < (n : Int)) = true := decide_eq_true (by omega)
                have e2' : decide (k < n) = true := decide_eq_true hk
                have HS9 := Lib.hid (rszc (r := r99) rfl)
                have HO9 := Lib.hid (rone r99)
                have HTH := Lib.hid (fun W (h : Below wr.heap.size wr W) => (show W.there G (k * 19) r99.cells.size from own_there (own_later HY.out h) (by omega)))
                have HYN := Lib.hid (fun W (h : Below wr.heap.size wr W) => (show (W.setCells G (k * 19) r99.cells.toList).ownsRow w.heap.size 44 19 (.slice (some ⟨G, 0, none⟩) (n + 2) cap) (n + 2) (flat (Yc l (k + 1))) from by
                  have h1 := own_store (own_later HY.out h) (Yc_ok HLK.out k) (Yc_len HN.out (by omega)) (k := k) (by omega) (r := r99) rfl
                  rwa [Yc_step HN.out hk] at h1))
                have HFN := Lib.hid (fun W (h : Below wr.heap.size wr W) => (HF.out.step (Fr.of h (S := fun _ => False)) (fun _ _ h => h.elim)).step (fr_sets G r99.cells.toList (k * 19) W) (fun _ _ e => e))
                obtain ⟨cs, hcs⟩ : ∃ cs, r99.cells = cs := ⟨_, rfl⟩
                have N9' := N9
                rw [hcs] at N9' HS9 HO9 HTH HYN HFN
                clear hcs
                go_wp2_with (first | (go_at_call 22; refine (N9'.out _).mono ?_; rintro e W14 ⟨rfl, hB14⟩) | (refine wpList_store_mid rfl 44 _ _ rfl G (k * 19) cs rfl rfl (HTH.out _ hB14) HS9.out HO9.out ?_))
                exact ⟨⟨k + 1, by go_num, by omega, Lib.hid (HYN.out _ hB14), Lib.hid (HFN.out _ hB14)⟩, by simp [intOf]; omega⟩
              · have e2 : decide ((k : Int) < (n : Int)) = false := decide_eq_false (by omega)
                have e2' : decide (k < n) = false := decide_eq_false hk
                have HKN : Hid (k = n) := Lib.hid (by omega)
                obtain ⟨W8, rfl⟩ : ∃ W, W = wr := ⟨wr, rfl⟩
                have HIA : Hid (AtS W8 (some ⟨G, 0, none⟩) (List.replicate n r99)) := Lib.hid (by
                  have h := HY.out
                  rw [HKN.out, Yc_end HN.out] at h
                  exact AtS.front (own_ats (by have := Yc_ok HLK.out n; rwa [Yc_end HN.out] at this) (by simp) h))
                have HGG : Hid (w.heap.size ≤ G ∧ G < W2.heap.size ∧ W2.heap.size ≤ W4.heap.size ∧ W4.heap.size ≤ W5.heap.size) := Lib.hid ⟨HGW.out.1, HGW.out.2, HW24.out, HW4.out⟩
                have HB8 : Hid (Below w.heap.size w W8) := Lib.hid (HBX.out.trans (HF.out.below (fun k hk e => by have := HGG.out; omega) HBX.out.size))
                have HT := Lib.hid (HT.out.fr HF.out fun k h1 _ e => by have := HGG.out; omega)
                have HKQ := Lib.hid (HKQ.out.fr HF.out fun k h1 e => by have := HGG.out; omega)
                have HLL := Lib.hid (HF.out.own HLL.out fun k hk e => by have := HGG.out; have := HS67.out; have := (HLL.out.lt k hk).1; omega)
                have HS68 : Hid (W7.heap.size ≤ W8.heap.size) := Lib.hid HF.out.size
                obtain ⟨pk, ck, rfl, hpk⟩ := slice_some (own_base HKQ.out.kr (Nat.zero_le _))
                obtain ⟨gk, rfl⟩ := hpk (by have := HI3.out; omega)
                obtain ⟨pw, cw, rfl, hpw⟩ := slice_some (own_base HKQ.out.wr (Nat.zero_le _))
                obtain ⟨gw, rfl⟩ := hpw (by have := HI3.out; omega)
                obtain ⟨u0, hu0⟩ : ∃ u, ws[0]? = some u := ⟨_, List.getElem?_eq_getElem (by have := HI3.out; omega)⟩
                have hmem := List.mem_of_getElem? hu0
                obtain ⟨pu, cu, rfl, _, _⟩ := own_shape HSK.out HSN.out (HKQ.out.wo u0 hmem)
                have HU0 := Lib.hid hu0
                have hw6 : 0 < ws.length := by have := HI3.out; omega
                have HMC : Hid (∀ W, Below W8.heap.size W8 W → Calls Tryd.prog 23 #[.slice (some ⟨gk, 0, none⟩) ks.length ck, .slice (some ⟨gw, 0, none⟩) ws.length cw] W fun e w' => e = .returned (.bool true) ∧ Fr (Sv ks) W w') := Lib.hid fun W h => by
                  have h1 := Kq.marked HSK.out (w := W) (B := W5.heap.size) (s := s) (by rw [HSN.out]; exact HKQ.out.later h)
                  exact marked_calls HSW.out (by rw [HSN.out]; omega) ks ws (by have := HI3.out; omega) (by have := HI3.out; omega) gk gw ck cw W h1.1 h1.2.1 h1.2.2
                have HSVK : Hid (∀ k, Sv ks k → W5.heap.size ≤ k ∧ k < W6.heap.size ∧ k ≠ gw ∧ (Value.slice pu n cu).ownBlock ≠ some k) := Lib.hid fun k ⟨v, hv, hk⟩ => by
                  have h1 := (HKQ.out.ko v hv).lt k hk
                  exact ⟨h1.1, HKL.out v hv k hk, fun e => own_types (HKQ.out.ko v hv) HKQ.out.wr rt_sl k hk (by rw [e]; rfl), HKQ.out.kw v hv _ hmem k hk⟩
                clear hpk hpw hu0 hmem HY HF HGW HW24 HW4
                go_upto_region 27 with fail
                go_cut [146] from 134 to 146 (fun v wx => v = .bool false ∧ Hid (Fr (Sv ks) W8 wx))
                case first =>
                  refine wp_region_any (by kernel_rfl) ?_
                  refine wpAny_named (B := W8.heap.size) (W0 := W8) ((Below.refl _ _).drew) fun Z hZ => ?_
                  have HZ := Lib.hid hZ
                  clear hZ
                  refine wpAny_take (i := 0) (v := ?v5) rfl (by kernel_rfl) (by kernel_rfl) (by kernel_rfl) (fun _ _ _ h => h) (Or.inl ⟨by rfl, fun w => ?h5⟩) ?_
                  case h5 => go_simp; try rfl
                  simp only [Act.put, List.getElem_toArray, List.getElem_cons_succ, List.getElem_cons_zero, List.setIfInBounds_toArray, List.set_cons_zero, List.set_cons_succ]
                  refine wpAny_take (i := 1) (v := ?v6) rfl (by kernel_rfl) (by kernel_rfl) (by kernel_rfl) (fun _ _ _ h => h) (Or.inl ⟨by rfl, fun w => ?h6⟩) ?_
                  case h6 => go_simp; try rfl
                  simp only [Act.put, List.getElem_toArray, List.getElem_cons_succ, List.getElem_cons_zero, List.setIfInBounds_toArray, List.set_cons_zero, List.set_cons_succ]
                  refine any_stepG 2 (by kernel_rfl) rfl rfl ?_
                  refine wp_enterG 23 #[.slice (some ⟨gk, 0, none⟩) ks.length ck, .slice (some ⟨gw, 0, none⟩) ws.length cw] (by first | kernel_rfl | go_simp) ?_
                  refine (HMC.out _ HZ.out).mono ?_
                  rintro e Z1 ⟨rfl, hF1⟩
                  refine ⟨_, rfl, ?_⟩
                  simp only [Act.put, List.setIfInBounds_toArray, List.set_cons_zero, List.set_cons_succ]
                  have HF1 : Hid (Fr (Sv ks) W8 Z1) := Lib.hid ((Fr.of HZ.out).trans hF1)
                  have HALZ : Hid (∀ W, Below Z1.heap.size Z1 W → Calls Tryd.prog 16 #[.pointer (some ⟨g1, 0, none⟩)] W fun e w2 => ∃ v, e = .returned v ∧ w2.ownsRow W.heap.size 44 19 v n (flat s) ∧ Below W.heap.size W w2) := Lib.hid fun W h => HAL.out _ _ W ((HT.out.fr HF1.out fun k _ h2 e => by have := HSVK.out k e; have := HGG.out; omega).later h).tab
                  have HC0 : Hid (∀ W, Below Z1.heap.size Z1 W → W.cell? ⟨gw, 0, none⟩ = some (.slice pu n cu)) := Lib.hid fun W h => by
                    have h1 : W8.cell? ⟨gw, 0, none⟩ = some (.slice pu n cu) := (HKQ.out.wr.cellAt 0 (by omega)).trans HU0.out
                    have h2 := HF1.out.cell h1 fun e => (HSVK.out gw e).2.2.1 rfl
                    exact (h.cell (World.block_lt_of_cell? _ _ h2)).trans h2
                  have HSAZ : Hid (∀ W, Below Z1.heap.size Z1 W → ∀ p1 c1, AtS W p1 s → Calls Tryd.prog 15 #[.slice p1 n c1, .slice pu n cu] W fun e w2 => e = .returned (.bool true) ∧ Below W.heap.size W w2) := Lib.hid fun W h p1 c1 h1 => HSA.out p1 c1 pu cu W h1 (((own_at HSK.out HSN.out (HKQ.out.wo _ (List.mem_of_getElem? HU0.out))).fr HF1.out fun a ha e => (HSVK.out _ e).2.2.2 (by rw [ha]; rfl)).later h)
                  have HZB := Lib.hid (Below.refl Z1.heap.size Z1)
                  clear hF1
                  refine wpAny_take (i := 3) (v := ?v7) rfl (by kernel_rfl) (by kernel_rfl) (by kernel_rfl) (fun _ _ _ h => h) (Or.inl ⟨by rfl, fun w => ?h7⟩) ?_
                  case h7 => go_simp; try rfl
                  simp only [Act.put, List.getElem_toArray, List.getElem_cons_succ, List.getElem_cons_zero, List.setIfInBounds_toArray, List.set_cons_zero, List.set_cons_succ]
                  refine wpAny_take (i := 4) (v := ?v8) rfl (by kernel_rfl) (by kernel_rfl) (by kernel_rfl) (fun _ _ _ h => h) (Or.inl ⟨by rfl, fun w => ?h8⟩) ?_
                  case h8 => go_simp; try rfl
                  simp only [Act.put, List.getElem_toArray, List.getElem_cons_succ, List.getElem_cons_zero, List.setIfInBounds_toArray, List.set_cons_zero, List.set_cons_succ]
                  refine wpAny_take (i := 5) (v := ?v9) rfl (by kernel_rfl) (by kernel_rfl) (by kernel_rfl) (fun _ _ _ h => h) (Or.inl ⟨by rfl, fun w => ?h9⟩) ?_
                  case h9 => go_simp; try rfl
                  simp only [Act.put, List.getElem_toArray, List.getElem_cons_succ, List.getElem_cons_zero, List.setIfInBounds_toArray, List.set_cons_zero, List.set_cons_succ]
                  refine wpAny_take (i := 7) (v := ?v10) rfl (by kernel_rfl) (by kernel_rfl) (by kernel_rfl) (fun _ _ _ h => h) (Or.inl ⟨by rfl, fun w => ?h10⟩) ?_
                  case h10 => go_simp; try rfl
                  simp only [Act.put, List.getElem_toArray, List.getElem_cons_succ, List.getElem_cons_zero, List.setIfInBounds_toArray, List.set_cons_zero, List.set_cons_succ]
                  refine wpAny_take (i := 8) (v := ?v11) rfl (by kernel_rfl) (by kernel_rfl) (by kernel_rfl) (fun _ _ _ h => h) (Or.inl ⟨by rfl, fun w => ?h11⟩) ?_
                  case h11 => go_simp; try rfl
                  simp only [Act.put, List.getElem_toArray, List.getElem_cons_succ, List.getElem_cons_zero, List.setIfInBounds_toArray, List.set_cons_zero, List.set_cons_succ]
                  refine any_stepG2 6 9 (by kernel_rfl) rfl rfl rfl rfl ?_ ?_
                  · skip
                    refine wp_enterG 16 #[.pointer (some ⟨g1, 0, none⟩)] (by first | kernel_rfl | go_simp) ?_
                    refine (HALZ.out _ HZB.out).mono ?_
                    rintro e Z2 ⟨va, rfl, hO, hBB⟩
                    obtain ⟨pv, cv, rfl, _, hA⟩ := own_shape HSK.out HSN.out hO
                    have HAV := Lib.hid hA
                    have HZB := Lib.hid (HZB.out.trans (hBB.mono HZB.out.size))
                    refine ⟨_, rfl, ?_⟩
                    simp only [Act.put, List.setIfInBounds_toArray, List.set_cons_zero, List.set_cons_succ]
                    clear hO hA hBB
                    refine any_stepG 9 (by kernel_rfl) rfl rfl ?_
                    have cw0 := HC0.out _ HZB.out
                    go_simp
                    clear cw0
                    refine any_stepG 10 (by kernel_rfl) rfl rfl ?_
                    refine wp_enterG 15 #[.slice pv n cv, .slice pu n cu] (by first | kernel_rfl | go_simp) ?_
                    refine (HSAZ.out _ HZB.out pv cv HAV.out).mono ?_
                    rintro e Z9 ⟨rfl, hBB⟩
                    have HZB := Lib.hid (HZB.out.trans (hBB.mono HZB.out.size))
                    refine ⟨_, rfl, ?_⟩
                    simp only [Act.put, List.setIfInBounds_toArray, List.set_cons_zero, List.set_cons_succ]
                    clear hBB
                    refine wpAny_take (i := 11) (v := ?v1) rfl (by kernel_rfl) (by kernel_rfl) (by kernel_rfl) (fun _ _ _ h => h) (Or.inl ⟨by rfl, fun w => ?h1⟩) ?_
                    case h1 => go_simp; try rfl
                    simp only [Act.put, List.getElem_toArray, List.getElem_cons_succ, List.getElem_cons_zero, List.setIfInBounds_toArray, List.set_cons_zero, List.set_cons_succ]
                    refine wpAny_take (i := 12) (v := ?v2) rfl (by kernel_rfl) (by kernel_rfl) (by kernel_rfl) (fun _ _ _ h => h) (Or.inl ⟨by rfl, fun w => ?h2⟩) ?_
                    case h2 => go_simp; try rfl
                    simp only [Act.put, List.getElem_toArray, List.getElem_cons_succ, List.getElem_cons_zero, List.setIfInBounds_toArray, List.set_cons_zero, List.set_cons_succ]
                    refine wpAny_done (by kernel_rfl) ?_ _
                    go_wp2
                    go_meet
                    case rel => exact ⟨rfl, Lib.hid (HF1.out.step (Fr.of HZB.out (S := fun _ => False)) (fun _ _ h => h.elim))⟩
                  · skip
                    have cw0 := HC0.out _ HZB.out
                    go_simp
                    clear cw0
                    refine any_stepG 6 (by kernel_rfl) rfl rfl ?_
                    refine wp_enterG 16 #[.pointer (some ⟨g1, 0, none⟩)] (by first | kernel_rfl | go_simp) ?_
                    refine (HALZ.out _ HZB.out).mono ?_
                    rintro e Z2 ⟨va, rfl, hO, hBB⟩
                    obtain ⟨pv, cv, rfl, _, hA⟩ := own_shape HSK.out HSN.out hO
                    have HAV := Lib.hid hA
                    have HZB := Lib.hid (HZB.out.trans (hBB.mono HZB.out.size))
                    refine ⟨_, rfl, ?_⟩
                    simp only [Act.put, List.setIfInBounds_toArray, List.set_cons_zero, List.set_cons_succ]
                    clear hO hA hBB
                    refine any_stepG 10 (by kernel_rfl) rfl rfl ?_
                    refine wp_enterG 15 #[.slice pv n cv, .slice pu n cu] (by first | kernel_rfl | go_simp) ?_
                    refine (HSAZ.out _ HZB.out pv cv HAV.out).mono ?_
                    rintro e Z9 ⟨rfl, hBB⟩
                    have HZB := Lib.hid (HZB.out.trans (hBB.mono HZB.out.size))
                    refine ⟨_, rfl, ?_⟩
                    simp only [Act.put, List.setIfInBounds_toArray, List.set_cons_zero, List.set_cons_succ]
                    clear hBB
                    refine wpAny_take (i := 11) (v := ?v3) rfl (by kernel_rfl) (by kernel_rfl) (by kernel_rfl) (fun _ _ _ h => h) (Or.inl ⟨by rfl, fun w => ?h3⟩) ?_
                    case h3 => go_simp; try rfl
                    simp only [Act.put, List.getElem_toArray, List.getElem_cons_succ, List.getElem_cons_zero, List.setIfInBounds_toArray, List.set_cons_zero, List.set_cons_succ]
                    refine wpAny_take (i := 12) (v := ?v4) rfl (by kernel_rfl) (by kernel_rfl) (by kernel_rfl) (fun _ _ _ h => h) (Or.inl ⟨by rfl, fun w => ?h4⟩) ?_
                    case h4 => go_simp; try rfl
                    simp only [Act.put, List.getElem_toArray, List.getElem_cons_succ, List.getElem_cons_zero, List.setIfInBounds_toArray, List.set_cons_zero, List.set_cons_succ]
                    refine wpAny_done (by kernel_rfl) ?_ _
                    go_wp2
                    go_meet
                    case rel => exact ⟨rfl, Lib.hid (HF1.out.step (Fr.of HZB.out (S := fun _ => False)) (fun _ _ h => h.elim))⟩
                case rest =>
                  obtain ⟨rfl, HF9⟩ := hcut
                  obtain ⟨W9', rfl⟩ : ∃ W, W = wc := ⟨wc, rfl⟩
                  have HB9 : Hid (Below w.heap.size w W9') := Lib.hid (HB8.out.trans (HF9.out.below (fun k hk e => by have := HGG.out; have := HSVK.out k e; omega) HB8.out.size))
                  have HT := Lib.hid (HT.out.fr HF9.out fun k _ h2 e => by have := HSVK.out k e; have := HGG.out; omega)
                  have HLL := Lib.hid (HF9.out.own HLL.out fun k hk e => by have := HSVK.out k e; have := (HLL.out.lt k hk).1; omega)
                  have HIA := Lib.hid (HIA.out.fr HF9.out fun a ha e => by
                    injection ha with ha
                    subst ha
                    have h1 := HSVK.out G e
                    have := HGG.out; omega)
                  have HPR9 := Lib.hid (fun W (h : Below W9'.heap.size W9' W) => printl_calls (l := List.replicate n r99) (fun r hr => by rw [(List.mem_replicate.1 hr).2]; exact rt4_wf 99 9 (by omega) (by omega)) (some ⟨G, 0, none⟩) cap W (HIA.out.later h) (HG.out.later (keep HB9 h).out))
                  rw [List.length_replicate] at HPR9
                  have hq9 := print99 n
                  obtain ⟨q9, hq⟩ : ∃ v, (printR (List.replicate n r99)).1 = v := ⟨_, rfl⟩
                  obtain ⟨e9, he⟩ : ∃ v, (printR (List.replicate n r99)).2 = v := ⟨_, rfl⟩
                  rw [hq, he] at hq9
                  rw [hq, he] at HPR9
                  have HQ9 := Lib.hid hq9
                  obtain ⟨pl, cl, rfl, hpl⟩ := slice_some (own_base HLL.out (Nat.zero_le _))
                  have HPL := Lib.hid hpl
                  clear hq he hq9 hpl HMC HF9 HKQ HSVK HU0 HB8 HAL HSA HKL hw6
                  go_wp2
                  go_loopw [22, 23, 24] (fun u22 _ _ wr => ∃ k : Nat, u22 = .int .i64 k ∧ k ≤ i ∧ Hid (Below W9'.heap.size W9' wr)) (fun u22 _ _ _ => i - (intOf u22).toNat)
                  case atStart => exact ⟨0, rfl, Nat.zero_le _, Lib.hid (Below.refl _ _)⟩
                  case round =>
                    obtain ⟨k, rfl, hki, HBL⟩ := hrel
                    have HBX := keep HB9 HBL.out
                    by_cases hlt : k < i
                    · have e1 : decide ((k : Int) < (i : Int)) = true := decide_eq_true (by omega)
                      have e1' : decide (k < i) = true := decide_eq_true hlt
                      have HK0 : Hid (k < ds.length) := Lib.hid (by have := HDM.out; omega)
                      obtain ⟨a, ha⟩ : ∃ r, ds[k]? = some r := ⟨_, List.getElem?_eq_getElem HK0.out⟩
                      have hao := Lib.hid (HD.out a (List.mem_of_getElem? ha))
                      have hap := HQ.out.later HBX.out
                      have HAI := Lib.hid ha
                      clear ha
                      rcases hap with hap | ⟨ga, oa, rfl, hgl, hh⟩
                      · have := HK0.out; rw [hap] at this; exact absurd this (Nat.not_lt_zero _)
                      have HX := Lib.hid (hh k a HAI.out)
                      clear hh hgl
                      obtain ⟨gl, rfl⟩ := HPL.out (by omega)
                      have F1 := Lib.hid (HFI.out _ _ wr a hao.out (HT.out.later HBL.out).tab)
                      have c0 : wr.cell? ⟨gl, k, none⟩ = some (.int .i64 (findV l a).1) := ((own_later HLL.out HBL.out).cellAt k (by omega)).trans (by rw [List.getElem?_map, HAI.out]; rfl)
                      obtain ⟨x, hx⟩ : ∃ v, (findV l a).1 = v := ⟨_, rfl⟩
                      obtain ⟨y, hy⟩ : ∃ v, (findV l a).2 = v := ⟨_, rfl⟩
                      rw [hx, hy] at F1
                      rw [hx] at c0
                      have fx : (x != x) = false := bne_self_eq_false _
                      clear hx hy
                      go_upto_region 33 with (first | (refine wpList_load_at rfl 35 _ rfl ga (oa + k * 17) a.vals _ rfl HX.out Tryd.underlying35 rfl (by as_aux_lemma => exact asz hao.out) ?_) | (go_at_call 13; refine F1.out.mono ?_; rintro e W12 ⟨rfl, hB12⟩))
                      have c0 : W12.cell? ⟨gl, k, none⟩ = some (.int .i64 x) := (hB12.cell (World.block_lt_of_cell? _ _ c0)).trans c0
                      have HBL := Lib.hid (HBL.out.trans (hB12.mono HBL.out.size))
                      clear hB12
                      go_wp2
                      exact ⟨⟨k + 1, by go_num, by omega, HBL⟩, by simp [intOf]; omega⟩
                    · have e1 : decide ((k : Int) < (i : Int)) = false := decide_eq_false (by omega)
                      have e1' : decide (k < i) = false := decide_eq_false hlt
                      clear hlt
                      go_upto_region 36 with (go_at_call 21; refine (HPR9.out _ HBL.out).mono ?_; rintro e W13 ⟨rfl, hB13⟩)
                      have HBX := keep HBX hB13
                      clear hB13
                      by_cases h2 : n < 2
                      · have e9z := HQ9.out.1 h2
                        subst e9z
                        have f2 : decide ((n : Int) < 2) = true := decide_eq_true (by omega)
                        have f2' : decide (n < 2) = true := decide_eq_true h2
                        by_cases h1 : n = 1
                        · have q9z := HQ9.out.2.2 h1
                          subst q9z
                          have f1 : ((n : Int) != 1) = false := bne_eq_false_iff_eq.2 (by omega)
                          have f1' : (n != 1) = false := bne_eq_false_iff_eq.2 h1
                          have ft : ((S text99).toList == [57, 57, 46, 57, 46, 48, 46, 48, 47, 49, 54, 32, 57, 10]) = true := by rw [ByteArray.toList_eq, S_list]; decide
                          obtain ⟨T9, hT9⟩ : ∃ t, S text99 = t := ⟨_, rfl⟩
                          rw [hT9] at ft ⊢
                          clear h1 h2 hT9
                          go_wp2
                          go_ret
                          exact ⟨rfl, HBX.out⟩
                        · have f1 : ((n : Int) != 1) = true := bne_iff_ne.2 (by omega)
                          have f1' : (n != 1) = true := bne_iff_ne.2 h1
                          clear h1 h2
                          go_wp2
                          go_ret
                          exact ⟨rfl, HBX.out⟩
                      · have e9z := HQ9.out.2.1 (by omega)
                        subst e9z
                        have f2 : decide ((n : Int) < 2) = false := decide_eq_false (by omega)
                        have f2' : decide (n < 2) = false := decide_eq_false h2
                        have f1 : ((n : Int) != 1) = true := bne_iff_ne.2 (by omega)
                        have f1' : (n != 1) = true := bne_iff_ne.2 (by omega)
                        clear h2
                        go_wp2
                        go_ret
                        exact ⟨rfl, HBX.out⟩
end Go.Proofs.YtpaplobjmmpliaaDoor.Ad
