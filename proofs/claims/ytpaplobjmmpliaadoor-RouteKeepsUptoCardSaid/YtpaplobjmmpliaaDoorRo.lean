/- Contracts of route.line and route.Parse. Conditions: a text is shorter than 2^32 - 15; the library tables hold what its text lays. -/
import Derived.Test.YtpaplobjmmpliaaDoorRn
namespace Go.Proofs.YtpaplobjmmpliaaDoor.Ad
set_option linter.unusedVariables false
set_option linter.unusedSimpArgs false
open Go.RowKit Go.Maps W
theorem cutS_calls (l : List UInt8) (c : UInt8) (hl : l.length < 4294967281) (w : World) (hg : Gl w) : Calls Tryd.prog 33 #[.string (S l), .string ⟨#[c]⟩] w fun e w' =>
    e = .returned (.tuple #[.string (S (Lib.cut l [c]).1), .string (S (Lib.cut l [c]).2.1), .bool (Lib.cut l [c]).2.2]) ∧ Below w.heap.size w w' := by
  obtain ⟨m, hm⟩ := hg.max
  have h := Tryd.strings_Cut (S l) ⟨#[c]⟩ m w (by rw [S_size]; exact hl) hm
  rw [S_list] at h
  refine h.mono fun e w' ⟨he, n, hn⟩ => ⟨he, ?_⟩
  rw [hn]; exact Below.drewN' (Below.refl _ _) n
theorem line_calls (l : List UInt8) (hl : l.length < 4294967281) (w : World) (hg : Gl w) : Calls Tryd.prog 34 #[.string (S l)] w fun e w' => e = .returned (.tuple #[.agg (lineV l).1.cells, .bool (lineV l).2]) ∧ Below w.heap.size w w' := by
  have h1 := cut_le l [47]
  have h2 := cut_le (Lib.cut l [47]).2.1 [32]
  refine line_of (S l) (S (Lib.cut l [47]).1) (S (Lib.cut l [47]).2.1) (S (Lib.cut (Lib.cut l [47]).2.1 [32]).1) (S (Lib.cut (Lib.cut l [47]).2.1 [32]).2.1) (Lib.cut l [47]).2.2 (Lib.cut (Lib.cut l [47]).2.1 [32]).2.2
    (numQ (Lib.cut (Lib.cut l [47]).2.1 [32]).1).isSome (numQ (Lib.cut (Lib.cut l [47]).2.1 [32]).2.1).isSome (lineV l).2 (ansA (readV (Lib.cut l [47]).1)) (ansE (readV (Lib.cut l [47]).1))
    (ansN (numQ (Lib.cut (Lib.cut l [47]).2.1 [32]).1)) (ansN (numQ (Lib.cut (Lib.cut l [47]).2.1 [32]).2.1)) (readV_ok _) (Lib.hid rfl) (Lib.hid fun w hg => cutS_calls l 47 hl w hg) (Lib.hid fun w hg => cutS_calls _ 32 (by omega) w hg)
    (Lib.hid fun w hg => ?_) (Lib.hid fun w => ?_) (Lib.hid fun w => ?_) w hg
  · have := parse_calls (S (Lib.cut l [47]).1) (by rw [S_size]; omega) w hg
    rwa [S_list] at this
  · have := num_calls (S (Lib.cut (Lib.cut l [47]).2.1 [32]).1) (by rw [S_size]; omega) w
    rw [S_list] at this
    exact this.mono fun e w' ⟨he, hw⟩ => ⟨he, by rw [← hw]; exact Below.refl _ _⟩
  · have := num_calls (S (Lib.cut (Lib.cut l [47]).2.1 [32]).2.1) (by rw [S_size]; omega) w
    rw [S_list] at this
    exact this.mono fun e w' ⟨he, hw⟩ => ⟨he, by rw [← hw]; exact Below.refl _ _⟩
theorem own_later {w w' : World} {B : Nat} {E : TypeId} {size : Nat} {v : Value} {n : Nat} {xs : List Value} (h : w.ownsRow B E size v n xs) (hb : Below w.heap.size w w') : w'.ownsRow B E size v n xs := by
  refine World.ownsRow.kept (row := none) h ⟨hb.os, hb.tape, hb.output, hb.size, fun k hk _ => hb.block k hk⟩ ?_
  cases hv : v.ownBlock with
  | none => exact .inl rfl
  | some k => exact .inr (by simp)
theorem all_at {w : World} {g : Nat} {r : Rt} (h : Blk w g 44 r.cells) : w.rangeAt g 0 r.vals := fun j v hj => by
  rw [Nat.zero_add, h.cell]; simpa [Rt.cells] using hj
def strLen : Value → Nat
  | .string s => s.size
  | _ => 0
theorem S_of (s : ByteArray) : S s.data.toList = s := by apply ByteArray.ext; simp [S]
set_option maxRecDepth 100000 in
set_option maxHeartbeats 4000000 in
theorem rparse21_calls (l : List UInt8) (hl : l.length < 4294967281) (w : World) (hg : Gl w) : Calls Tryd.prog 18 #[.string (S l)] w fun e w' =>
    ∃ p c, e = .returned (.tuple #[.slice p (parseV l).1.length c, .int .i64 (parseV l).2]) ∧ AtS w' p (parseV l).1 ∧ (∀ a, p = some a → w.heap.size ≤ a.block) ∧ Below w.heap.size w w' := by
  have HG := Lib.hid hg
  have hz := zeroRt_ok
  obtain ⟨i0, hi, hz0, hz1, hz2⟩ := info_parts (show (Tryd.prog.info? 44).map (fun i => (i.zero, i.size, i.bytes)) = some (some (.agg zeroRt.cells), 19, 40) by kernel_rfl)
  obtain ⟨pm, pe, hpv⟩ : ∃ m e, parseV l = (m, e) := ⟨_, _, rfl⟩
  have HPV := Lib.hid hpv
  rw [hpv]
  clear hg hpv
  go_enter Tryd.func18, Tryd.ntmps18
  go_wp2
  go_loopw [0, 4, 5, 6, 7, 8, 9] (fun u0 u4 _ _ _ _ _ wr => ∃ (t : List UInt8) (acc : List Rt), u0 = .string (S t) ∧ acc.length + t.length ≤ l.length ∧ Hid (wr.ownsRow w.heap.size 44 19 u4 acc.length (flat acc)) ∧ Hid (∀ r ∈ acc, r.wf) ∧ Hid (linesV l = (linesV t).map (acc ++ ·)) ∧ Hid (Below w.heap.size w wr)) (fun u0 _ _ _ _ _ _ _ => strLen u0)
  case atStart => exact ⟨l, [], rfl, by simp, Lib.hid (World.ownsRow_nil _ _ _ _), Lib.hid (fun r hr => by cases hr), Lib.hid (by simp), Lib.hid (Below.refl _ _)⟩
  case round =>
    obtain ⟨t, acc, rfl, hlen, HO, HA, HLN, HB⟩ := hrel
    have GL := Lib.hid (HG.out.later HB.out)
    obtain ⟨p, c, rfl, hat, hfr⟩ := row_ats (w := wr) (n := 0) (fun r hr => (HA.out r hr).ok) HO.out
    have HAT := Lib.hid hat
    have HFR := Lib.hid hfr
    clear hat hfr
    obtain ⟨n, hn⟩ : ∃ n, acc.length = n := ⟨_, rfl⟩
    have HN := Lib.hid hn
    rw [hn] at HO hlen ⊢
    clear hn
    by_cases h0 : t = []
    · subst h0
      have HP : Hid (linesV l = some acc) := Lib.hid (by rw [HLN.out, linesV_nil]; simp)
      have hs1 : (S []) = (⟨#[]⟩ : ByteArray) := rfl
      rw [hs1]
      have HM := Lib.hid (fun w' (hb : Below wr.heap.size wr w') => may_calls HA.out p c w' (HAT.out.later hb).at)
      rw [HN.out] at HM
      cases hm : mayV acc
      · have HV : Hid ((pm, pe) = (([] : List Rt), (1 : Int))) := Lib.hid (by rw [← HPV.out]; unfold parseV; rw [HP.out]; simp [hm])
        rw [hm] at HM
        clear hm
        go_wp2_with (go_at_call 24; refine (HM.out _ (Below.refl _ _)).mono ?_; rintro e W2 ⟨rfl, hB2⟩)
        go_ret2
        obtain ⟨rfl, rfl⟩ := Prod.mk.inj HV.out
        exact ⟨none, 0, rfl, .inl ⟨rfl, rfl⟩, (fun a ha => by cases ha), (keep HB hB2).out⟩
      · have HV : Hid ((pm, pe) = (acc, (0 : Int))) := Lib.hid (by rw [← HPV.out]; unfold parseV; rw [HP.out]; simp [hm])
        rw [hm] at HM
        clear hm
        go_wp2_with (go_at_call 24; refine (HM.out _ (Below.refl _ _)).mono ?_; rintro e W2 ⟨rfl, hB2⟩)
        go_ret2
        obtain ⟨rfl, rfl⟩ := Prod.mk.inj HV.out
        exact ⟨p, c, by rw [HN.out]; rfl, HAT.out.later hB2, HFR.out, (keep HB hB2).out⟩
    · have hs1 : (S t).toList.isEmpty = false := by
        rw [ByteArray.toList_eq, S_list]
        cases t with
        | nil => exact absurd rfl h0
        | cons x y => rfl
      obtain ⟨x1, x2, fd, hcut⟩ : ∃ x1 x2 fd, Lib.cut t [10] = (x1, x2, fd) := ⟨_, _, _, rfl⟩
      obtain ⟨r, ok, hline⟩ : ∃ r ok, lineV x1 = (r, ok) := ⟨_, _, rfl⟩
      have hle := cut_le t [10]
      have hlt := cut_lt (sep := [10]) h0 (by simp)
      rw [hcut] at hle hlt
      simp only at hle hlt
      have HC := Lib.hid (fun w hg => cutS_calls t 10 (by omega) w hg)
      have HLI := Lib.hid (fun w hg => line_calls x1 (by omega) w hg)
      have hwf := Lib.hid (lineV_wf x1)
      rw [hcut] at HC
      rw [hline] at HLI hwf
      have HCUT := Lib.hid hcut
      have HLINE := Lib.hid hline
      have HT0 := Lib.hid h0
      clear hcut hline h0
      have HLT := Lib.hid hlt
      go_upto_region 4 with (go_at_call 33; refine (HC.out _ GL.out).mono ?_; rintro e W2 ⟨rfl, hB2⟩)
      have HO := Lib.hid (own_later HO.out hB2)
      have HB := keep HB hB2
      have GL := Lib.hid (GL.out.later hB2)
      clear hB2 HC
      go_upto_region 5 with (first | (go_at_call 34; refine (HLI.out _ GL.out).mono ?_; rintro e W3 ⟨rfl, hB3⟩) | (refine wpList_store_blk rfl 44 _ _ rfl W3.heap.size 44 zeroRt.cells r.cells rfl rfl (Blk.new _ _ _) (by rw [rcs hwf.out.ok, rcs zeroRt_ok]) (rszc hwf.out.ok) (rone _) ?_; intro W4 P4))
      obtain ⟨B5, b5, s5, t5⟩ := call_store hB3 P4
      have HO := Lib.hid (own_later HO.out B5.out)
      have HB := keep HB B5.out
      obtain ⟨G1, hG1⟩ : ∃ g, W3.heap.size = g := ⟨_, rfl⟩
      rw [hG1] at b5 ⊢
      clear hB3 P4 B5 s5 t5 hG1 HLI
      cases fd
      · skip
        have HV : Hid ((pm, pe) = (([] : List Rt), (2 : Int))) := Lib.hid (by
          have h : linesV t = none := linesV_no HT0.out (by rw [HCUT.out]; simp only; rw [HLINE.out]; simp)
          rw [← HPV.out]; unfold parseV; rw [HLN.out, h]; rfl)
        go_wp2
        go_ret2
        obtain ⟨rfl, rfl⟩ := Prod.mk.inj HV.out
        exact ⟨none, 0, rfl, .inl ⟨rfl, rfl⟩, (fun a ha => by cases ha), HB.out⟩
      cases ok
      · skip
        have HV : Hid ((pm, pe) = (([] : List Rt), (2 : Int))) := Lib.hid (by
          have h : linesV t = none := linesV_no HT0.out (by rw [HCUT.out]; simp only; rw [HLINE.out]; simp)
          rw [← HPV.out]; unfold parseV; rw [HLN.out, h]; rfl)
        go_wp2
        go_ret2
        obtain ⟨rfl, rfl⟩ := Prod.mk.inj HV.out
        exact ⟨none, 0, rfl, .inl ⟨rfl, rfl⟩, (fun a ha => by cases ha), HB.out⟩
      have HN2 : Hid (linesV l = (linesV x2).map ((acc ++ [r]) ++ ·)) := Lib.hid (by
        have h : linesV t = (linesV x2).map (r :: ·) := by
          rw [linesV_step HT0.out (by rw [HCUT.out]; simp [HLINE.out]), HCUT.out]
          simp only
          rw [HLINE.out]
        rw [HLN.out, h, Option.map_map]
        congr 1
        funext y
        simp)
      have hn43 : n ≤ 4294967281 := by omega
      go_wp2_with (first | (refine wpList_load_at rfl 44 _ rfl G1 0 r.vals _ rfl (all_at b5.out) Tryd.underlying44 rfl (by as_aux_lemma => exact rsz hwf.out.ok) ?_) | (refine wpList_slice1 rfl _ rfl r hwf.out.ok rfl ?_) | (at_builtin; refine wpList_append_own _ rfl _ _ 22 rfl w.heap.size 44 i0 _ 19 40 Tryd.underlying22 hi hz0 hz1 hz2 (by rfl) (by omega) _ n (flat acc) rfl (World.ownsRow.alloc HO.out _) ⟨W4.heap.size, 0, none⟩ 1 1 r.vals rfl (by rw [vals_len hwf.out.ok]) (news_rt W4 r) (vals_one r) (by unfold maxLen; omega) (by omega) (by have := HB.out.size; simp; omega) ?_; intro v' w1 hown1 hgrow1 hnil1))
      have HOW : Hid (w1.ownsRow w.heap.size 44 19 v' (acc ++ [r]).length (flat (acc ++ [r]))) := Lib.hid (by rw [List.length_append, HN.out, flat_snoc]; exact hown1)
      have HWF : Hid (∀ q ∈ acc ++ [r], q.wf) := Lib.hid (fun q hq => by
        rcases List.mem_append.1 hq with hq | hq
        · exact HA.out q hq
        · obtain rfl := List.mem_singleton.1 hq; exact hwf.out)
      have HBW : Hid (Below w.heap.size w w1) := Lib.hid ((HB.out.alloc HB.out.size _).grown hgrow1 (by have := HB.out.size; simp; omega) (fun j hj => by
        cases p with
        | none => cases hj
        | some a => injection hj with hj; subst hj; exact HFR.out a rfl))
      exact ⟨⟨x2, acc ++ [r], rfl, by rw [List.length_append, HN.out]; simp only [List.length_singleton]; omega, HOW, HWF, HN2, HBW⟩, by show (S x2).size < (S t).size; rw [S_size, S_size]; exact HLT.out⟩
end Go.Proofs.YtpaplobjmmpliaaDoor.Ad
