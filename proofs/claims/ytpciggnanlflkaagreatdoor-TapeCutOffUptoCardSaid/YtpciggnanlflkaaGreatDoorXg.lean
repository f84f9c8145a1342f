/- Contract of tape.Parse. Conditions: a text is shorter than 2^32 - 15; the library's own variables hold what its text lays. -/
import Derived.Test.YtpciggnanlflkaaGreatDoorXf
import Derived.Test.YtpciggnanlflkaaGreatDoorWt
namespace Go.Proofs.YtpciggnanlflkaaGreatDoor.Ad
set_option linter.unusedVariables false
set_option linter.unusedSimpArgs false
open Go.RowKit Go.Maps W
def tapeB : List UInt8 := [116, 97, 112, 101, 32]
/-- The head line: found, a number, none too large. -/
def headOk (line : List UInt8) : Bool := Lib.hasPrefix line tapeB && ((decV (Lib.trimPrefix line tapeB)).isSome && decide (decA (decV (Lib.trimPrefix line tapeB)) ≤ 65575))
/-- Parse from line n on: what stands in the text, the line's number, the head's number, the last ticks, the records so far. -/
def goV : Nat → List UInt8 → Nat → Int → Int → List Rec → Tp × Int × Int
  | 0, _, _, snap, _, acc => (⟨snap, acc⟩, 0, 0)
  | f + 1, l, n, snap, frm, acc =>
    if n ≠ 1 ∧ l = [] then (⟨snap, acc⟩, 0, 0) else
    if n = 1 then
      if (Lib.cut l [10]).2.2 && headOk (Lib.cut l [10]).1 then goV f (Lib.cut l [10]).2.1 2 (decA (decV (Lib.trimPrefix (Lib.cut l [10]).1 tapeB))) 0 [] else (⟨0, []⟩, 1, 2)
    else
      if (Lib.cut l [10]).2.2 && ((recordV (Lib.cut l [10]).1).2 && (decide (acc.length < 4096) && mayV (recordV (Lib.cut l [10]).1).1 snap frm)) then
        goV f (Lib.cut l [10]).2.1 (n + 1) snap (recordV (Lib.cut l [10]).1).1.tk (acc ++ [(recordV (Lib.cut l [10]).1).1])
      else (⟨0, []⟩, n, 2)
def parseV (l : List UInt8) : Tp × Int × Int := goV (l.length + 1) l 1 0 0 []
theorem goV_end (f n : Nat) (hn : n ≠ 1) (snap frm : Int) (acc : List Rec) : goV f [] n snap frm acc = (⟨snap, acc⟩, 0, 0) := by
  cases f with
  | zero => rfl
  | succ f => rw [goV, if_pos ⟨hn, rfl⟩]
theorem goV_head (f : Nat) (l line rest : List UInt8) (ok : Bool) (hc : Lib.cut l [10] = (line, rest, ok)) (snap frm : Int) (acc : List Rec) :
    goV (f + 1) l 1 snap frm acc = if ok && headOk line then goV f rest 2 (decA (decV (Lib.trimPrefix line tapeB))) 0 [] else (⟨0, []⟩, 1, 2) := by
  rw [goV, if_neg (by simp), if_pos rfl, hc]
theorem goV_line (f n : Nat) (hn : n ≠ 1) (l line rest : List UInt8) (hl : l ≠ []) (ok : Bool) (hc : Lib.cut l [10] = (line, rest, ok)) (snap frm : Int) (acc : List Rec) (r : Rec) (rok : Bool) (hr : recordV line = (r, rok)) :
    goV (f + 1) l n snap frm acc = if ok && (rok && (decide (acc.length < 4096) && mayV r snap frm)) then goV f rest (n + 1) snap r.tk (acc ++ [r]) else (⟨0, []⟩, n, 2) := by
  rw [goV, if_neg (by rintro ⟨_, h⟩; exact hl h), if_neg hn, hc]
  simp only [hr]
theorem cut_line (l line rest : List UInt8) (ok : Bool) (hc : Lib.cut l [10] = (line, rest, ok)) : line.length ≤ l.length ∧ rest.length ≤ l.length := by
  unfold Lib.cut at hc
  split at hc
  · injection hc with h1 h2; injection h2 with h2 h3
    subst h1; subst h2
    exact ⟨by rw [List.length_take]; omega, by rw [List.length_drop]; omega⟩
  · injection hc with h1 h2; injection h2 with h2 h3
    subst h1; subst h2
    exact ⟨Nat.le_refl _, Nat.zero_le _⟩
theorem cut_len (l line rest : List UInt8) (hc : Lib.cut l [10] = (line, rest, true)) : rest.length < l.length := by
  cases l with
  | nil => exact absurd (show (Lib.cut [] [10]).2.2 = true by rw [hc]) (by decide)
  | cons x l =>
    unfold Lib.cut at hc
    split at hc
    · injection hc with h1 h2; injection h2 with h2 h3
      subst h2
      rw [List.length_drop]; simp only [List.length_cons, List.length_nil]; omega
    · injection hc with h1 h2; injection h2 with h2 h3
      cases h3
theorem trim_len (l p : List UInt8) : (Lib.trimPrefix l p).length ≤ l.length := by
  unfold Lib.trimPrefix; split
  · rw [List.length_drop]; omega
  · exact Nat.le_refl _
theorem results_cell3 {P : Program} {fn : Func} {p u u2 : Tmp} {ty : TypeId} (h : fn.results = #[.cell p ty, .tmp u, .tmp u2]) (tmps : Array Value) (w : World) (g : Nat) (t : TypeId) (cs : Array Value) (d : TypeDesc)
    (hp : tmps.getD p undef = .pointer (some ⟨g, 0, none⟩)) (hb : Blk w g t cs) (hu : P.underlying ty = some d) (hd : (match d with | .struct _ | .array _ _ => true | _ => false) = true) (hi : (P.info? ty).map (·.size) = some cs.size) :
    (results fn tmps).run P w = .ok (.tuple #[.agg cs, tmps.getD u undef, tmps.getD u2 undef]) w := by
  simp only [results, h]
  simp [Sem.run_bind, Result.andThen]
  have hp2 : tmps[p]?.getD undef = .pointer (some ⟨g, 0, none⟩) := by simpa using hp
  rw [hp2]
  simp [asAddr, run_loadVar_row w g t ty cs (0, 0) d hb hu hd hi, Result.andThen]
theorem bools4 (a b c d : Bool) : (a = false ∧ Hid ((a && (b && (c && d))) = false)) ∨ (a = true ∧ b = false ∧ Hid ((a && (b && (c && d))) = false)) ∨ (a = true ∧ b = true ∧ c = false ∧ Hid ((a && (b && (c && d))) = false)) ∨ (a = true ∧ b = true ∧ c = true ∧ d = false ∧ Hid ((a && (b && (c && d))) = false)) ∨ (a = true ∧ b = true ∧ c = true ∧ d = true) := by
  cases a <;> cases b <;> cases c <;> cases d <;> first | exact .inl ⟨rfl, Lib.hid rfl⟩ | exact .inr (.inl ⟨rfl, rfl, Lib.hid rfl⟩) | exact .inr (.inr (.inl ⟨rfl, rfl, rfl, Lib.hid rfl⟩)) | exact .inr (.inr (.inr (.inl ⟨rfl, rfl, rfl, rfl, Lib.hid rfl⟩))) | exact .inr (.inr (.inr (.inr ⟨rfl, rfl, rfl, rfl⟩)))
def strLen : Value → Nat
  | .string s => s.size
  | _ => 0
set_option maxRecDepth 100000 in
set_option maxHeartbeats 8000000 in
theorem parse_calls (l : List UInt8) (hl : l.length < 4294967281) (w : World) (hg : Gl w) : Calls Tryz.prog 21 #[.string (S l)] w fun e w' =>
    ∃ v ds, e = .returned (.tuple #[.agg #[.int .i64 (parseV l).1.snap, v], .int .i64 (parseV l).2.1, .int .i64 (parseV l).2.2]) ∧ TO w' w.heap.size v (parseV l).1.recs ds ∧ Below w.heap.size w w' := by
  have HG := Lib.hid hg
  have HL := Lib.hid hl
  obtain ⟨i0, hi, hz0, hz1, hz2⟩ := info_parts rec_info
  obtain ⟨q, hq⟩ : ∃ q, S l = q := ⟨_, rfl⟩
  have HQ := Lib.hid hq
  obtain ⟨pv, hpv⟩ : ∃ p, parseV l = p := ⟨_, rfl⟩
  rw [hq, hpv]
  have HP : Hid (goV (l.length + 1) l 1 0 0 [] = pv) := Lib.hid hpv
  obtain ⟨b0, hb0⟩ : ∃ b, w.heap.size = b := ⟨_, rfl⟩
  have HB0 := Lib.hid hb0
  clear hg hl hq hpv hb0
  go_enter Tryz.func21, Tryz.ntmps21
  go_upto_region 2 with fail
  refine wp_named fun W hW => ?_
  obtain ⟨bk, bq, BW, sW⟩ := box2 hW
  rw [HB0.out] at bk bq sW ⊢
  clear hW
  go_wp2
  go_loopw [0, 6, 7] (fun u0 u6 u7 wr => ∃ (f : Nat) (l : List UInt8) (n : Nat) (snap frm : Int) (acc : List Rec) (v : Value) (ds : List Value) (q : ByteArray), u0 = .string q ∧ u6 = .int .i64 frm ∧ u7 = .int .i64 n ∧ Hid (S l = q) ∧ Hid (l.length < 4294967281) ∧ l.length < f ∧ 1 ≤ n ∧ Hid (n = 1 → acc = [] ∧ snap = 0 ∧ frm = 0) ∧ Hid (n + l.length ≤ 4294967290) ∧ Hid (goV f l n snap frm acc = pv) ∧ Hid (acc.length ≤ 4096) ∧ Hid (Blk wr b0 24 #[.int .i64 0, .slice none 0 0]) ∧ Hid (Blk wr (b0 + 1) 24 #[.int .i64 snap, v]) ∧ Hid (TO wr (b0 + 2) v acc ds) ∧ Hid (b0 + 2 ≤ wr.heap.size) ∧ Hid (Below w.heap.size w wr)) (fun u0 _ _ _ => strLen u0)
  case atStart => exact ⟨_, l, 1, 0, 0, [], _, [], q, rfl, rfl, rfl, HQ, HL, Nat.lt_succ_self _, Nat.le_refl _, Lib.hid (fun _ => ⟨rfl, rfl, rfl⟩), Lib.hid (by have := HL.out; omega), HP, Lib.hid (Nat.zero_le _), bk, bq, Lib.hid (TO.nil _ _), Lib.hid (by have := sW.out; omega), BW⟩
  case round =>
    obtain ⟨f, l, n, snap, frm, acc, v, ds, q, rfl, rfl, rfl, HQ, HLL, hlf, hn1, HN1, HNL, HP, HACC, bk, bq, HT, HSZ, HB⟩ := hrel
    obtain ⟨⟨line, rest, ok⟩, hc⟩ : ∃ x, Lib.cut l [10] = x := ⟨_, rfl⟩
    have HCUT : Hid (Calls Tryz.prog 50 #[.string q, .string ⟨#[10]⟩] wr fun e w' => e = .returned (.tuple #[.string (S line), .string (S rest), .bool ok]) ∧ Below wr.heap.size wr w') := Lib.hid (by
      have h := cutS_calls l 10 HLL.out wr (HG.out.later HB.out)
      rw [hc, HQ.out] at h
      exact h)
    obtain ⟨hlc, hrc⟩ := cut_line l line rest ok hc
    have HLC : Hid (line.length < 4294967281) := Lib.hid (by have := HLL.out; omega)
    have HRC : Hid (rest.length < 4294967281) := Lib.hid (by have := HLL.out; omega)
    have HLE : Hid (ok = true → rest.length < l.length) := Lib.hid (fun h => cut_len l line rest (by rw [hc, h]))
    have HC := Lib.hid hc
    obtain ⟨ql, hql⟩ : ∃ q, S line = q := ⟨_, rfl⟩
    obtain ⟨qr, hqr⟩ : ∃ q, S rest = q := ⟨_, rfl⟩
    have HQR := Lib.hid hqr
    rw [hql, hqr] at HCUT
    obtain ⟨f, rfl⟩ : ∃ f', f = f' + 1 := ⟨f - 1, by omega⟩
    have hlf : l.length ≤ f := by omega
    have HLF := Lib.hid hlf
    have hnb : n ≤ 4294967290 := by have := HNL.out; omega
    clear hc hlc hrc hlf
    by_cases h1 : n = 1
    · obtain ⟨rfl, rfl, rfl⟩ := HN1.out h1
      have e1 : ((n : Int) == 1) = true := by rw [h1]; rfl
      have e1' : (n == 1) = true := by rw [h1]; rfl
      have HNN := Lib.hid h1
      have HP : Hid ((if ok && headOk line then goV f rest 2 (decA (decV (Lib.trimPrefix line tapeB))) 0 [] else (⟨0, []⟩, 1, 2)) = pv) := Lib.hid (by rw [← HP.out, h1, goV_head f l line rest ok HC.out])
      have HPF := Lib.hid (fun W => prefix_calls line tapeB W)
      have HDC := Lib.hid (fun W => decimal_calls (S (Lib.trimPrefix line tapeB)) (by rw [S_size]; have := trim_len line tapeB; have := HLC.out; omega) W)
      rw [S_list] at HDC
      unfold headOk at HP
      obtain ⟨b2, hb2⟩ : ∃ b, Lib.hasPrefix line tapeB = b := ⟨_, rfl⟩
      obtain ⟨b3, hb3⟩ : ∃ b, (decV (Lib.trimPrefix line tapeB)).isSome = b := ⟨_, rfl⟩
      obtain ⟨hd, hhd⟩ : ∃ b, decA (decV (Lib.trimPrefix line tapeB)) = b := ⟨_, rfl⟩
      obtain ⟨qh, hqh⟩ : ∃ q, S (Lib.trimPrefix line tapeB) = q := ⟨_, rfl⟩
      rw [hb2, hb3, hhd] at HP
      rw [hb2, hqh, hql] at HPF
      rw [hb3, hhd, hqh] at HDC
      obtain ⟨b4, hb4⟩ : ∃ b, decide (hd ≤ 65575) = b := ⟨_, rfl⟩
      rw [hb4] at HP
      clear hql hqr h1 hb2 hb3 hhd hqh
      have c0 : wr.cell? ⟨b0 + 1, 0, none⟩ = some (.int .i64 0) := bq.out.cell _
      go_upto_region 9 with (go_at_call 50; refine HCUT.out.mono ?_; rintro e V ⟨rfl, hB1⟩)
      go_upto_region 10 with (go_at_call 51; refine (HPF.out V).mono ?_; rintro e V2 ⟨rfl, hB2⟩)
      go_upto_region 11 with (go_at_call 52; refine (HDC.out V2).mono ?_; rintro e V3 ⟨rfl, hB3⟩)
      have HBV : Hid (Below wr.heap.size wr V3) := Lib.hid ((hB1.trans (hB2.mono hB1.size)).trans (hB3.mono (Nat.le_trans hB1.size hB2.size)))
      have bk := Lib.hid (bk.out.later HBV.out bk.out.lt)
      have bq := Lib.hid (bq.out.later HBV.out bq.out.lt)
      clear hB1 hB2 hB3 c0 HCUT HPF HDC
      have c0 : V3.cell? ⟨b0 + 1, 0, none⟩ = some (.int .i64 0) := bq.out.cell _
      have f0 : V3.frozen? ⟨b0 + 1, 0, none⟩ = false := bq.out.frozen _
      have hc5 := bools4 ok b2 b3 b4
      rcases hc5 with ⟨rfl, hno⟩ | ⟨rfl, rfl, hno⟩ | ⟨rfl, rfl, rfl, hno⟩ | ⟨rfl, rfl, rfl, rfl, hno⟩ | ⟨rfl, rfl, rfl, rfl⟩
      case inr.inr.inr.inr =>
        have HP : Hid (goV f rest 2 hd 0 [] = pv) := Lib.hid (by rw [← HP.out]; rfl)
        have HLT := Lib.hid (HLE.out rfl)
        go_upto_region 17 with fail
        refine wp_named fun V4 hV4 => ?_
        have hf : Fr (fun k => k = b0 + 1) V3 V4 := by rw [hV4]; exact fr_set
        have bk := Lib.hid (hf.blk bk.out (by omega))
        have bq : Hid (Blk V4 (b0 + 1) 24 #[.int .i64 hd, v]) := Lib.hid (by rw [hV4]; exact bq.out.set_ 0 _)
        have HT : Hid (TO V4 (b0 + 2) v [] ds) := Lib.hid ((HT.out.later HBV.out).fr hf (fun k hk e => by have := own_ge HT.out.own k hk; omega) (fun x hx k hk e => by have := (HT.out.dlt hx k hk).1; omega))
        have HS4 : Hid (b0 + 2 ≤ V4.heap.size) := Lib.hid (by have := HSZ.out; have := HBV.out.size; have := hf.size; omega)
        have HB4 : Hid (Below w.heap.size w V4) := Lib.hid ((keep HB HBV.out).out.trans (hf.below (fun k hk e => by have := HB0.out; omega) (keep HB HBV.out).out.size))
        clear hf hV4
        go_wp2
        have hq3 := HQR.out
        refine ⟨⟨f, rest, n + 1, hd, 0, [], v, ds, qr, rfl, rfl, by go_num, HQR, HRC, by have := HLT.out; have := HLF.out; omega, by omega, Lib.hid (by intro h; have := HNN.out; omega), Lib.hid (by have := HLT.out; have := HNL.out; omega), Lib.hid (by rw [HNN.out]; exact HP.out), Lib.hid (Nat.zero_le _), bk, bq, HT, HS4, HB4⟩, ?_⟩
        show qr.size < q.size
        rw [← HQR.out, ← HQ.out, S_size, S_size]
        exact HLT.out
      all_goals
        have HP : Hid (pv = (⟨0, []⟩, 1, 2)) := Lib.hid (by rw [← HP.out, hno.out, if_neg (by decide)])
        go_upto_region 17 with fail
        refine wp_named fun V4 hV4 => ?_
        have hf : Fr (fun k => k = b0 + 1) V3 V4 := by rw [hV4]; exact fr_set
        have bk := Lib.hid (hf.blk bk.out (by omega))
        have HS4 : Hid (b0 + 2 ≤ V4.heap.size) := Lib.hid (by have := HSZ.out; have := HBV.out.size; have := hf.size; omega)
        have HB4 : Hid (Below w.heap.size w V4) := Lib.hid ((keep HB HBV.out).out.trans (hf.below (fun k hk e => by have := HB0.out; omega) (keep HB HBV.out).out.size))
        have q0 : V4.cell? ⟨b0, 0, none⟩ = some (.int .i64 0) := bk.out.cell _
        have q1 : V4.cell? ⟨b0, 1, none⟩ = some (.slice none 0 0) := bk.out.cell _
        have g0 : V4.frozen? ⟨b0, 0, none⟩ = false := bk.out.frozen _
        have g1 : V4.frozen? ⟨b0, 1, none⟩ = false := bk.out.frozen _
        clear hf hV4 c0 f0
        go_wp2
        obtain ⟨z1, z2, z3⟩ := tape_fin (w := w) 0 bk.out (TO.nil _ (b0 + 2)) (by omega) HB4.out (by rw [HB0.out]; omega) (by rw [HB0.out]; omega)
        refine bodyPost_ret (v := .tuple #[.agg #[.int .i64 0, .slice none 0 0], .int .i64 n, .int .i64 2]) (by exact results_cell3 (fn := Tryz.f21) rfl _ _ b0 24 _ _ rfl z1 Tryz.underlying24 rfl tape_size) rfl ?_
        rw [HP.out, HNN.out]
        first | exact ⟨.slice none 0 0, rfl, ⟨[], z2⟩, z3⟩ | exact ⟨.slice none 0 0, [], rfl, z2, z3⟩
    · have e1 : ((n : Int) == 1) = false := by rw [beq_eq_false_iff_ne]; omega
      have e1' : (n == 1) = false := by rw [beq_eq_false_iff_ne]; exact h1
      have HNN := Lib.hid h1
      clear HN1 h1
      by_cases hl0 : l = []
      · have HP : Hid (pv = (⟨snap, acc⟩, 0, 0)) := Lib.hid (by rw [← HP.out, hl0, goV_end _ _ HNN.out])
        have he : q.toList.isEmpty = true := by rw [ByteArray.toList_eq, ← HQ.out, S_list, hl0]; rfl
        obtain ⟨m, hm⟩ : ∃ m, acc.length = m := ⟨_, rfl⟩
        obtain ⟨pw, cw, hv, _, _, _⟩ := HT.out.rat
        rw [hm] at hv
        subst hv
        clear hl0 hm HCUT hql hqr
        have c0 : wr.cell? ⟨b0 + 1, 0, none⟩ = some (.int .i64 snap) := bq.out.cell _
        have c1 : wr.cell? ⟨b0 + 1, 1, none⟩ = some (.slice pw m cw) := bq.out.cell _
        have q0 : wr.cell? ⟨b0, 0, none⟩ = some (.int .i64 0) := bk.out.cell _
        have q1 : wr.cell? ⟨b0, 1, none⟩ = some (.slice none 0 0) := bk.out.cell _
        have g0 : wr.frozen? ⟨b0, 0, none⟩ = false := bk.out.frozen _
        have g1 : wr.frozen? ⟨b0, 1, none⟩ = false := bk.out.frozen _
        go_wp2
        obtain ⟨z1, z2, z3⟩ := tape_fin (w := w) snap bk.out HT.out (by omega) HB.out (by rw [HB0.out]; omega) (by rw [HB0.out]; omega)
        refine bodyPost_ret (v := .tuple #[.agg #[.int .i64 snap, .slice pw m cw], .int .i64 0, .int .i64 0]) (by exact results_cell3 (fn := Tryz.f21) rfl _ _ b0 24 _ _ rfl z1 Tryz.underlying24 rfl tape_size) rfl ?_
        rw [HP.out]
        first | exact ⟨.slice pw m cw, rfl, ⟨ds, z2⟩, z3⟩ | exact ⟨.slice pw m cw, ds, rfl, z2, z3⟩
      · have he : q.toList.isEmpty = false := by
          rw [ByteArray.toList_eq, ← HQ.out, S_list]
          cases l with
          | nil => exact absurd rfl hl0
          | cons => rfl
        obtain ⟨⟨⟨tk, nd, ou, lg, dt⟩, rok⟩, hr⟩ : ∃ x, recordV line = x := ⟨_, rfl⟩
        have HP : Hid ((if ok && (rok && (decide (acc.length < 4096) && mayV ⟨tk, nd, ou, lg, dt⟩ snap frm)) then goV f rest (n + 1) snap tk (acc ++ [⟨tk, nd, ou, lg, dt⟩]) else (⟨0, []⟩, n, 2)) = pv) := Lib.hid (by rw [← HP.out, goV_line f n HNN.out l line rest hl0 ok HC.out snap frm acc _ rok hr])
        have HRE : Hid (∀ W, Gl W → Calls Tryz.prog 53 #[.string ql] W fun e w' => ∃ d, e = .returned (.tuple #[.agg #[.int .i64 tk, .int .i64 nd, .bool ou, .int .i64 lg, d], .bool rok]) ∧ w'.ownsRow W.heap.size 5 1 d dt.length (Lib.byteCells dt) ∧ Below W.heap.size W w') := Lib.hid (fun W hW => by
          have h := record_calls line HLC.out W hW
          rw [hr, hql] at h
          exact h)
        clear hl0 hr hql hqr
        go_upto_region 13 with (go_at_call 50; refine HCUT.out.mono ?_; rintro e V ⟨rfl, hB1⟩)
        have HB1 := Lib.hid hB1
        have HGV := Lib.hid (HG.out.later (keep HB hB1).out)
        clear hB1 HCUT
        go_upto_region 14 with (go_at_call 53; refine (HRE.out V HGV.out).mono ?_; rintro e V1 ⟨d, rfl, hO, hB2⟩; obtain ⟨p1, c1', rfl, _, _, hsl⟩ := own_bytes hO; have HO := Lib.hid hO; have HB2 := Lib.hid hB2; have HSL := Lib.hid hsl; clear hO hB2 hsl)
        refine wp_named fun V2 hV2 => ?_
        obtain ⟨b3, B3, s3⟩ := box1 (cs := #[.int .i64 tk, .int .i64 nd, .bool ou, .int .i64 lg, .slice p1 dt.length c1']) hV2
        obtain ⟨G, hG⟩ : ∃ g, V1.heap.size = g := ⟨_, rfl⟩
        rw [hG] at b3 s3 ⊢
        have HB2A : Hid (Below wr.heap.size wr V2) := Lib.hid ((HB1.out.trans (HB2.out.mono HB1.out.size)).trans (B3.out.mono (Nat.le_trans HB1.out.size HB2.out.size)))
        have HGB : Hid (wr.heap.size ≤ G) := Lib.hid (by rw [← hG]; exact Nat.le_trans HB1.out.size HB2.out.size)
        have HO2 : Hid (V2.ownsRow wr.heap.size 5 1 (.slice p1 dt.length c1') dt.length (Lib.byteCells dt)) := Lib.hid (own_base (own_later HO.out B3.out) HB1.out.size)
        obtain ⟨m, hm⟩ : ∃ m, acc.length = m := ⟨_, rfl⟩
        have HM := Lib.hid hm
        obtain ⟨pw, cw, hv, _, _, _⟩ := HT.out.rat
        rw [hm] at hv
        subst hv
        obtain ⟨bm, hbm⟩ : ∃ b, mayV ⟨tk, nd, ou, lg, dt⟩ snap frm = b := ⟨_, rfl⟩
        rw [hbm] at HP
        rw [hm] at HP
        obtain ⟨dn, hdn⟩ : ∃ d, dt.length = d := ⟨_, rfl⟩
        have HDN := Lib.hid hdn
        have HMAY : Hid (∀ W, Calls Tryz.prog 43 #[.agg #[.int .i64 tk, .int .i64 nd, .bool ou, .int .i64 lg, .slice p1 dn c1'], .int .i64 snap, .int .i64 frm] W fun e w' => e = .returned (.bool bm) ∧ Below W.heap.size W w') := Lib.hid (fun W => by
          have h := may_calls ⟨tk, nd, ou, lg, dt⟩ p1 c1' snap frm W
          rw [hbm] at h
          rw [← hdn]
          exact h)
        have hmb : m ≤ 4096 := by rw [← hm]; exact HACC.out
        clear hV2 hG HO B3 s3 HB1 HB2 HRE hm hbm
        have c0 : V2.cell? ⟨b0 + 1, 0, none⟩ = some (.int .i64 snap) := (bq.out.later HB2A.out bq.out.lt).cell _
        have c1 : V2.cell? ⟨b0 + 1, 1, none⟩ = some (.slice pw m cw) := (bq.out.later HB2A.out bq.out.lt).cell _
        have r0 : V2.cell? ⟨G, 0, none⟩ = some (.int .i64 tk) := b3.out.cell _
        have r1 : V2.cell? ⟨G, 1, none⟩ = some (.int .i64 nd) := b3.out.cell _
        have r2 : V2.cell? ⟨G, 2, none⟩ = some (.bool ou) := b3.out.cell _
        have r3 : V2.cell? ⟨G, 3, none⟩ = some (.int .i64 lg) := b3.out.cell _
        have r4 : V2.cell? ⟨G, 4, none⟩ = some (.slice p1 dt.length c1') := b3.out.cell _
        rw [hdn] at r4 ⊢
        clear hdn
        obtain ⟨b4, hb4⟩ : ∃ b, decide (m < 4096) = b := ⟨_, rfl⟩
        have hb4' : decide ((m : Int) < 4096) = b4 := by rw [← hb4]; exact decide_eq_decide.2 (by omega)
        rw [hb4] at HP
        have HB4 := Lib.hid hb4
        have hc5 := bools4 ok rok b4 bm
        rcases hc5 with ⟨rfl, hno⟩ | ⟨rfl, rfl, hno⟩ | ⟨rfl, rfl, rfl, hno⟩ | ⟨rfl, rfl, rfl, rfl, hno⟩ | ⟨rfl, rfl, rfl, rfl⟩
        · go_upto_region 15 with fail
          refine wp_named fun Z hZ => ?_
          have HBZ : Hid (Below V2.heap.size V2 Z) := Lib.hid (by rw [hZ]; exact Below.refl _ _)
          clear hZ
          have HBA : Hid (Below wr.heap.size wr Z) := Lib.hid (HB2A.out.trans (HBZ.out.mono HB2A.out.size))
          have b3 := Lib.hid (b3.out.later HBZ.out b3.out.lt)
          have HOZ := Lib.hid (own_later HO2.out HBZ.out)
          have HRZ : Hid (Z.ownsRow (b0 + 2) 48 5 (.slice pw m cw) m (cellsR acc ds)) := Lib.hid (by have := (HT.out.later HBA.out).own; rwa [HM.out] at this)
          have HSV : Hid (b0 + 2 ≤ Z.heap.size) := Lib.hid (Nat.le_trans HSZ.out HBA.out.size)
          have o1 : Z.cell? ⟨b0 + 1, 1, none⟩ = some (.slice pw m cw) := (bq.out.later HBA.out bq.out.lt).cell _
          have f1 : Z.frozen? ⟨b0 + 1, 1, none⟩ = false := (bq.out.later HBA.out bq.out.lt).frozen _
          clear c0 c1 r0 r1 r2 r3 r4
          have r0 : Z.cell? ⟨G, 0, none⟩ = some (.int .i64 tk) := b3.out.cell _
          have r1 : Z.cell? ⟨G, 1, none⟩ = some (.int .i64 nd) := b3.out.cell _
          have r2 : Z.cell? ⟨G, 2, none⟩ = some (.bool ou) := b3.out.cell _
          have r3 : Z.cell? ⟨G, 3, none⟩ = some (.int .i64 lg) := b3.out.cell _
          have r4 : Z.cell? ⟨G, 4, none⟩ = some (.slice p1 dt.length c1') := b3.out.cell _
          go_upto_region 17 with (at_builtin; refine wpList_append_two rfl _ _ 22 rfl 48 i0 _ 5 56 Tryz.underlying22 hi hz0 hz1 hz2 (by rfl) (by omega) (b0 + 2) (.slice pw m cw) m _ rfl (World.ownsRow.alloc HRZ.out _) ⟨Z.heap.size, 0, none⟩ 1 1 (recC ⟨tk, nd, ou, lg, dt⟩ (.slice p1 dt.length c1')) rfl rfl (news_of _ _ _) (recC_one _ _ _ _) (by omega) (by unfold maxLen; omega) (by omega) (by have := HSV.out; simp; omega) ?_; intro g2 cap w1 hown hgr hlt2; have bm2 := HT.out.mid HBA.out (show b0 + 1 < b0 + 2 by omega) _ hgr bq.out; have m1 : w1.cell? ⟨b0 + 1, 1, none⟩ = some (.slice pw m cw) := bm2.cell _; have fm : w1.frozen? ⟨b0 + 1, 1, none⟩ = false := bm2.frozen _; clear bm2)
          obtain ⟨q1, q2, q3⟩ := HT.out.step HM.out HBA.out HSZ.out (show b0 + 1 < b0 + 2 by omega) ⟨tk, nd, ou, lg, dt⟩ _ HOZ.out _ hown hgr
          refine wp_named fun Y hY => ?_
          rw [← hY] at q1 q2 q3
          have bq := q3 _ _ bq.out
          have HBY : Hid (Below w.heap.size w Y) := Lib.hid (HB.out.trans (q2.out.below (fun k hk e => by have := HB0.out; rcases e with e | e <;> omega) HB.out.size))
          have HSY : Hid (b0 + 2 ≤ Y.heap.size) := Lib.hid (Nat.le_trans HSZ.out q2.out.size)
          have bk := Lib.hid (q2.out.blk bk.out (fun e => by rcases e with e | e <;> omega))
          clear hY hown hgr hlt2 m1 fm r0 r1 r2 r3 r4 o1 f1
          have HP : Hid (pv = (⟨0, []⟩, (n : Int), 2)) := Lib.hid (by rw [← HP.out, hno.out, if_neg (by decide)])
          have q0 : Y.cell? ⟨b0, 0, none⟩ = some (.int .i64 0) := bk.out.cell _
          have y1 : Y.cell? ⟨b0, 1, none⟩ = some (.slice none 0 0) := bk.out.cell _
          have g0 : Y.frozen? ⟨b0, 0, none⟩ = false := bk.out.frozen _
          have g1 : Y.frozen? ⟨b0, 1, none⟩ = false := bk.out.frozen _
          go_wp2
          obtain ⟨z1, z2, z3⟩ := tape_fin (w := w) 0 bk.out (TO.nil _ (b0 + 2)) (by omega) HBY.out (by rw [HB0.out]; omega) (by rw [HB0.out]; omega)
          refine bodyPost_ret (v := .tuple #[.agg #[.int .i64 0, .slice none 0 0], .int .i64 n, .int .i64 2]) (by exact results_cell3 (fn := Tryz.f21) rfl _ _ b0 24 _ _ rfl z1 Tryz.underlying24 rfl tape_size) rfl ?_
          rw [HP.out]
          first | exact ⟨.slice none 0 0, rfl, ⟨[], z2⟩, z3⟩ | exact ⟨.slice none 0 0, [], rfl, z2, z3⟩
        · go_upto_region 15 with fail
          refine wp_named fun Z hZ => ?_
          have HBZ : Hid (Below V2.heap.size V2 Z) := Lib.hid (by rw [hZ]; exact Below.refl _ _)
          clear hZ
          have HBA : Hid (Below wr.heap.size wr Z) := Lib.hid (HB2A.out.trans (HBZ.out.mono HB2A.out.size))
          have b3 := Lib.hid (b3.out.later HBZ.out b3.out.lt)
          have HOZ := Lib.hid (own_later HO2.out HBZ.out)
          have HRZ : Hid (Z.ownsRow (b0 + 2) 48 5 (.slice pw m cw) m (cellsR acc ds)) := Lib.hid (by have := (HT.out.later HBA.out).own; rwa [HM.out] at this)
          have HSV : Hid (b0 + 2 ≤ Z.heap.size) := Lib.hid (Nat.le_trans HSZ.out HBA.out.size)
          have o1 : Z.cell? ⟨b0 + 1, 1, none⟩ = some (.slice pw m cw) := (bq.out.later HBA.out bq.out.lt).cell _
          have f1 : Z.frozen? ⟨b0 + 1, 1, none⟩ = false := (bq.out.later HBA.out bq.out.lt).frozen _
          clear c0 c1 r0 r1 r2 r3 r4
          have r0 : Z.cell? ⟨G, 0, none⟩ = some (.int .i64 tk) := b3.out.cell _
          have r1 : Z.cell? ⟨G, 1, none⟩ = some (.int .i64 nd) := b3.out.cell _
          have r2 : Z.cell? ⟨G, 2, none⟩ = some (.bool ou) := b3.out.cell _
          have r3 : Z.cell? ⟨G, 3, none⟩ = some (.int .i64 lg) := b3.out.cell _
          have r4 : Z.cell? ⟨G, 4, none⟩ = some (.slice p1 dt.length c1') := b3.out.cell _
          go_upto_region 17 with (at_builtin; refine wpList_append_two rfl _ _ 22 rfl 48 i0 _ 5 56 Tryz.underlying22 hi hz0 hz1 hz2 (by rfl) (by omega) (b0 + 2) (.slice pw m cw) m _ rfl (World.ownsRow.alloc HRZ.out _) ⟨Z.heap.size, 0, none⟩ 1 1 (recC ⟨tk, nd, ou, lg, dt⟩ (.slice p1 dt.length c1')) rfl rfl (news_of _ _ _) (recC_one _ _ _ _) (by omega) (by unfold maxLen; omega) (by omega) (by have := HSV.out; simp; omega) ?_; intro g2 cap w1 hown hgr hlt2; have bm2 := HT.out.mid HBA.out (show b0 + 1 < b0 + 2 by omega) _ hgr bq.out; have m1 : w1.cell? ⟨b0 + 1, 1, none⟩ = some (.slice pw m cw) := bm2.cell _; have fm : w1.frozen? ⟨b0 + 1, 1, none⟩ = false := bm2.frozen _; clear bm2)
          obtain ⟨q1, q2, q3⟩ := HT.out.step HM.out HBA.out HSZ.out (show b0 + 1 < b0 + 2 by omega) ⟨tk, nd, ou, lg, dt⟩ _ HOZ.out _ hown hgr
          refine wp_named fun Y hY => ?_
          rw [← hY] at q1 q2 q3
          have bq := q3 _ _ bq.out
          have HBY : Hid (Below w.heap.size w Y) := Lib.hid (HB.out.trans (q2.out.below (fun k hk e => by have := HB0.out; rcases e with e | e <;> omega) HB.out.size))
          have HSY : Hid (b0 + 2 ≤ Y.heap.size) := Lib.hid (Nat.le_trans HSZ.out q2.out.size)
          have bk := Lib.hid (q2.out.blk bk.out (fun e => by rcases e with e | e <;> omega))
          clear hY hown hgr hlt2 m1 fm r0 r1 r2 r3 r4 o1 f1
          have HP : Hid (pv = (⟨0, []⟩, (n : Int), 2)) := Lib.hid (by rw [← HP.out, hno.out, if_neg (by decide)])
          have q0 : Y.cell? ⟨b0, 0, none⟩ = some (.int .i64 0) := bk.out.cell _
          have y1 : Y.cell? ⟨b0, 1, none⟩ = some (.slice none 0 0) := bk.out.cell _
          have g0 : Y.frozen? ⟨b0, 0, none⟩ = false := bk.out.frozen _
          have g1 : Y.frozen? ⟨b0, 1, none⟩ = false := bk.out.frozen _
          go_wp2
          obtain ⟨z1, z2, z3⟩ := tape_fin (w := w) 0 bk.out (TO.nil _ (b0 + 2)) (by omega) HBY.out (by rw [HB0.out]; omega) (by rw [HB0.out]; omega)
          refine bodyPost_ret (v := .tuple #[.agg #[.int .i64 0, .slice none 0 0], .int .i64 n, .int .i64 2]) (by exact results_cell3 (fn := Tryz.f21) rfl _ _ b0 24 _ _ rfl z1 Tryz.underlying24 rfl tape_size) rfl ?_
          rw [HP.out]
          first | exact ⟨.slice none 0 0, rfl, ⟨[], z2⟩, z3⟩ | exact ⟨.slice none 0 0, [], rfl, z2, z3⟩
        · go_upto_region 15 with fail
          refine wp_named fun Z hZ => ?_
          have HBZ : Hid (Below V2.heap.size V2 Z) := Lib.hid (by rw [hZ]; exact Below.refl _ _)
          clear hZ
          have HBA : Hid (Below wr.heap.size wr Z) := Lib.hid (HB2A.out.trans (HBZ.out.mono HB2A.out.size))
          have b3 := Lib.hid (b3.out.later HBZ.out b3.out.lt)
          have HOZ := Lib.hid (own_later HO2.out HBZ.out)
          have HRZ : Hid (Z.ownsRow (b0 + 2) 48 5 (.slice pw m cw) m (cellsR acc ds)) := Lib.hid (by have := (HT.out.later HBA.out).own; rwa [HM.out] at this)
          have HSV : Hid (b0 + 2 ≤ Z.heap.size) := Lib.hid (Nat.le_trans HSZ.out HBA.out.size)
          have o1 : Z.cell? ⟨b0 + 1, 1, none⟩ = some (.slice pw m cw) := (bq.out.later HBA.out bq.out.lt).cell _
          have f1 : Z.frozen? ⟨b0 + 1, 1, none⟩ = false := (bq.out.later HBA.out bq.out.lt).frozen _
          clear c0 c1 r0 r1 r2 r3 r4
          have r0 : Z.cell? ⟨G, 0, none⟩ = some (.int .i64 tk) := b3.out.cell _
          have r1 : Z.cell? ⟨G, 1, none⟩ = some (.int .i64 nd) := b3.out.cell _
          have r2 : Z.cell? ⟨G, 2, none⟩ = some (.bool ou) := b3.out.cell _
          have r3 : Z.cell? ⟨G, 3, none⟩ = some (.int .i64 lg) := b3.out.cell _
          have r4 : Z.cell? ⟨G, 4, none⟩ = some (.slice p1 dt.length c1') := b3.out.cell _
          go_upto_region 17 with (at_builtin; refine wpList_append_two rfl _ _ 22 rfl 48 i0 _ 5 56 Tryz.underlying22 hi hz0 hz1 hz2 (by rfl) (by omega) (b0 + 2) (.slice pw m cw) m _ rfl (World.ownsRow.alloc HRZ.out _) ⟨Z.heap.size, 0, none⟩ 1 1 (recC ⟨tk, nd, ou, lg, dt⟩ (.slice p1 dt.length c1')) rfl rfl (news_of _ _ _) (recC_one _ _ _ _) (by omega) (by unfold maxLen; omega) (by omega) (by have := HSV.out; simp; omega) ?_; intro g2 cap w1 hown hgr hlt2; have bm2 := HT.out.mid HBA.out (show b0 + 1 < b0 + 2 by omega) _ hgr bq.out; have m1 : w1.cell? ⟨b0 + 1, 1, none⟩ = some (.slice pw m cw) := bm2.cell _; have fm : w1.frozen? ⟨b0 + 1, 1, none⟩ = false := bm2.frozen _; clear bm2)
          obtain ⟨q1, q2, q3⟩ := HT.out.step HM.out HBA.out HSZ.out (show b0 + 1 < b0 + 2 by omega) ⟨tk, nd, ou, lg, dt⟩ _ HOZ.out _ hown hgr
          refine wp_named fun Y hY => ?_
          rw [← hY] at q1 q2 q3
          have bq := q3 _ _ bq.out
          have HBY : Hid (Below w.heap.size w Y) := Lib.hid (HB.out.trans (q2.out.below (fun k hk e => by have := HB0.out; rcases e with e | e <;> omega) HB.out.size))
          have HSY : Hid (b0 + 2 ≤ Y.heap.size) := Lib.hid (Nat.le_trans HSZ.out q2.out.size)
          have bk := Lib.hid (q2.out.blk bk.out (fun e => by rcases e with e | e <;> omega))
          clear hY hown hgr hlt2 m1 fm r0 r1 r2 r3 r4 o1 f1
          have HP : Hid (pv = (⟨0, []⟩, (n : Int), 2)) := Lib.hid (by rw [← HP.out, hno.out, if_neg (by decide)])
          have q0 : Y.cell? ⟨b0, 0, none⟩ = some (.int .i64 0) := bk.out.cell _
          have y1 : Y.cell? ⟨b0, 1, none⟩ = some (.slice none 0 0) := bk.out.cell _
          have g0 : Y.frozen? ⟨b0, 0, none⟩ = false := bk.out.frozen _
          have g1 : Y.frozen? ⟨b0, 1, none⟩ = false := bk.out.frozen _
          go_wp2
          obtain ⟨z1, z2, z3⟩ := tape_fin (w := w) 0 bk.out (TO.nil _ (b0 + 2)) (by omega) HBY.out (by rw [HB0.out]; omega) (by rw [HB0.out]; omega)
          refine bodyPost_ret (v := .tuple #[.agg #[.int .i64 0, .slice none 0 0], .int .i64 n, .int .i64 2]) (by exact results_cell3 (fn := Tryz.f21) rfl _ _ b0 24 _ _ rfl z1 Tryz.underlying24 rfl tape_size) rfl ?_
          rw [HP.out]
          first | exact ⟨.slice none 0 0, rfl, ⟨[], z2⟩, z3⟩ | exact ⟨.slice none 0 0, [], rfl, z2, z3⟩
        · go_upto_region 15 with (go_at_call 43; refine (HMAY.out V2).mono ?_; rintro e Z ⟨rfl, hZ⟩)
          have HBZ := Lib.hid hZ
          clear hZ
          have HBA : Hid (Below wr.heap.size wr Z) := Lib.hid (HB2A.out.trans (HBZ.out.mono HB2A.out.size))
          have b3 := Lib.hid (b3.out.later HBZ.out b3.out.lt)
          have HOZ := Lib.hid (own_later HO2.out HBZ.out)
          have HRZ : Hid (Z.ownsRow (b0 + 2) 48 5 (.slice pw m cw) m (cellsR acc ds)) := Lib.hid (by have := (HT.out.later HBA.out).own; rwa [HM.out] at this)
          have HSV : Hid (b0 + 2 ≤ Z.heap.size) := Lib.hid (Nat.le_trans HSZ.out HBA.out.size)
          have o1 : Z.cell? ⟨b0 + 1, 1, none⟩ = some (.slice pw m cw) := (bq.out.later HBA.out bq.out.lt).cell _
          have f1 : Z.frozen? ⟨b0 + 1, 1, none⟩ = false := (bq.out.later HBA.out bq.out.lt).frozen _
          clear c0 c1 r0 r1 r2 r3 r4
          have r0 : Z.cell? ⟨G, 0, none⟩ = some (.int .i64 tk) := b3.out.cell _
          have r1 : Z.cell? ⟨G, 1, none⟩ = some (.int .i64 nd) := b3.out.cell _
          have r2 : Z.cell? ⟨G, 2, none⟩ = some (.bool ou) := b3.out.cell _
          have r3 : Z.cell? ⟨G, 3, none⟩ = some (.int .i64 lg) := b3.out.cell _
          have r4 : Z.cell? ⟨G, 4, none⟩ = some (.slice p1 dt.length c1') := b3.out.cell _
          go_upto_region 17 with (at_builtin; refine wpList_append_two rfl _ _ 22 rfl 48 i0 _ 5 56 Tryz.underlying22 hi hz0 hz1 hz2 (by rfl) (by omega) (b0 + 2) (.slice pw m cw) m _ rfl (World.ownsRow.alloc HRZ.out _) ⟨Z.heap.size, 0, none⟩ 1 1 (recC ⟨tk, nd, ou, lg, dt⟩ (.slice p1 dt.length c1')) rfl rfl (news_of _ _ _) (recC_one _ _ _ _) (by omega) (by unfold maxLen; omega) (by omega) (by have := HSV.out; simp; omega) ?_; intro g2 cap w1 hown hgr hlt2; have bm2 := HT.out.mid HBA.out (show b0 + 1 < b0 + 2 by omega) _ hgr bq.out; have m1 : w1.cell? ⟨b0 + 1, 1, none⟩ = some (.slice pw m cw) := bm2.cell _; have fm : w1.frozen? ⟨b0 + 1, 1, none⟩ = false := bm2.frozen _; clear bm2)
          obtain ⟨q1, q2, q3⟩ := HT.out.step HM.out HBA.out HSZ.out (show b0 + 1 < b0 + 2 by omega) ⟨tk, nd, ou, lg, dt⟩ _ HOZ.out _ hown hgr
          refine wp_named fun Y hY => ?_
          rw [← hY] at q1 q2 q3
          have bq := q3 _ _ bq.out
          have HBY : Hid (Below w.heap.size w Y) := Lib.hid (HB.out.trans (q2.out.below (fun k hk e => by have := HB0.out; rcases e with e | e <;> omega) HB.out.size))
          have HSY : Hid (b0 + 2 ≤ Y.heap.size) := Lib.hid (Nat.le_trans HSZ.out q2.out.size)
          have bk := Lib.hid (q2.out.blk bk.out (fun e => by rcases e with e | e <;> omega))
          clear hY hown hgr hlt2 m1 fm r0 r1 r2 r3 r4 o1 f1
          have HP : Hid (pv = (⟨0, []⟩, (n : Int), 2)) := Lib.hid (by rw [← HP.out, hno.out, if_neg (by decide)])
          have q0 : Y.cell? ⟨b0, 0, none⟩ = some (.int .i64 0) := bk.out.cell _
          have y1 : Y.cell? ⟨b0, 1, none⟩ = some (.slice none 0 0) := bk.out.cell _
          have g0 : Y.frozen? ⟨b0, 0, none⟩ = false := bk.out.frozen _
          have g1 : Y.frozen? ⟨b0, 1, none⟩ = false := bk.out.frozen _
          go_wp2
          obtain ⟨z1, z2, z3⟩ := tape_fin (w := w) 0 bk.out (TO.nil _ (b0 + 2)) (by omega) HBY.out (by rw [HB0.out]; omega) (by rw [HB0.out]; omega)
          refine bodyPost_ret (v := .tuple #[.agg #[.int .i64 0, .slice none 0 0], .int .i64 n, .int .i64 2]) (by exact results_cell3 (fn := Tryz.f21) rfl _ _ b0 24 _ _ rfl z1 Tryz.underlying24 rfl tape_size) rfl ?_
          rw [HP.out]
          first | exact ⟨.slice none 0 0, rfl, ⟨[], z2⟩, z3⟩ | exact ⟨.slice none 0 0, [], rfl, z2, z3⟩
        · go_upto_region 15 with (go_at_call 43; refine (HMAY.out V2).mono ?_; rintro e Z ⟨rfl, hZ⟩)
          have HBZ := Lib.hid hZ
          clear hZ
          have HBA : Hid (Below wr.heap.size wr Z) := Lib.hid (HB2A.out.trans (HBZ.out.mono HB2A.out.size))
          have b3 := Lib.hid (b3.out.later HBZ.out b3.out.lt)
          have HOZ := Lib.hid (own_later HO2.out HBZ.out)
          have HRZ : Hid (Z.ownsRow (b0 + 2) 48 5 (.slice pw m cw) m (cellsR acc ds)) := Lib.hid (by have := (HT.out.later HBA.out).own; rwa [HM.out] at this)
          have HSV : Hid (b0 + 2 ≤ Z.heap.size) := Lib.hid (Nat.le_trans HSZ.out HBA.out.size)
          have o1 : Z.cell? ⟨b0 + 1, 1, none⟩ = some (.slice pw m cw) := (bq.out.later HBA.out bq.out.lt).cell _
          have f1 : Z.frozen? ⟨b0 + 1, 1, none⟩ = false := (bq.out.later HBA.out bq.out.lt).frozen _
          clear c0 c1 r0 r1 r2 r3 r4
          have r0 : Z.cell? ⟨G, 0, none⟩ = some (.int .i64 tk) := b3.out.cell _
          have r1 : Z.cell? ⟨G, 1, none⟩ = some (.int .i64 nd) := b3.out.cell _
          have r2 : Z.cell? ⟨G, 2, none⟩ = some (.bool ou) := b3.out.cell _
          have r3 : Z.cell? ⟨G, 3, none⟩ = some (.int .i64 lg) := b3.out.cell _
          have r4 : Z.cell? ⟨G, 4, none⟩ = some (.slice p1 dt.length c1') := b3.out.cell _
          go_upto_region 17 with (at_builtin; refine wpList_append_two rfl _ _ 22 rfl 48 i0 _ 5 56 Tryz.underlying22 hi hz0 hz1 hz2 (by rfl) (by omega) (b0 + 2) (.slice pw m cw) m _ rfl (World.ownsRow.alloc HRZ.out _) ⟨Z.heap.size, 0, none⟩ 1 1 (recC ⟨tk, nd, ou, lg, dt⟩ (.slice p1 dt.length c1')) rfl rfl (news_of _ _ _) (recC_one _ _ _ _) (by omega) (by unfold maxLen; omega) (by omega) (by have := HSV.out; simp; omega) ?_; intro g2 cap w1 hown hgr hlt2; have bm2 := HT.out.mid HBA.out (show b0 + 1 < b0 + 2 by omega) _ hgr bq.out; have m1 : w1.cell? ⟨b0 + 1, 1, none⟩ = some (.slice pw m cw) := bm2.cell _; have fm : w1.frozen? ⟨b0 + 1, 1, none⟩ = false := bm2.frozen _; clear bm2)
          obtain ⟨q1, q2, q3⟩ := HT.out.step HM.out HBA.out HSZ.out (show b0 + 1 < b0 + 2 by omega) ⟨tk, nd, ou, lg, dt⟩ _ HOZ.out _ hown hgr
          refine wp_named fun Y hY => ?_
          rw [← hY] at q1 q2 q3
          have bq := q3 _ _ bq.out
          have HBY : Hid (Below w.heap.size w Y) := Lib.hid (HB.out.trans (q2.out.below (fun k hk e => by have := HB0.out; rcases e with e | e <;> omega) HB.out.size))
          have HSY : Hid (b0 + 2 ≤ Y.heap.size) := Lib.hid (Nat.le_trans HSZ.out q2.out.size)
          have bk := Lib.hid (q2.out.blk bk.out (fun e => by rcases e with e | e <;> omega))
          clear hY hown hgr hlt2 m1 fm r0 r1 r2 r3 r4 o1 f1
          have HP : Hid (goV f rest (n + 1) snap tk (acc ++ [⟨tk, nd, ou, lg, dt⟩]) = pv) := Lib.hid (by rw [← HP.out, if_pos (by decide)])
          have HLT := Lib.hid (HLE.out (by first | rfl | trivial))
          have HMB : Hid (m < 4096) := Lib.hid (of_decide_eq_true HB4.out)
          go_wp2
          refine ⟨⟨f, rest, n + 1, snap, tk, acc ++ [⟨tk, nd, ou, lg, dt⟩], _, _, qr, rfl, rfl, by go_num, HQR, HRC, by have := HLT.out; have := HLF.out; omega, by omega, Lib.hid (by intro h; have := hn1; omega), Lib.hid (by have := HLT.out; have := HNL.out; omega), HP, Lib.hid (by rw [List.length_append, HM.out]; have := HMB.out; simp; omega), bk, bq, q1, HSY, HBY⟩, ?_⟩
          show qr.size < q.size
          rw [← HQR.out, ← HQ.out, S_size, S_size]
          exact HLT.out
end Go.Proofs.YtpciggnanlflkaaGreatDoor.Ad
