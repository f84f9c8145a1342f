/- The example's tape in each call of alive. Conditions: the library's variables hold what its text lays. -/
import Derived.Test.YtpciggnanlflkaaGreatDoorF1
import Derived.Test.YtpciggnanlflkaaGreatDoorYb
namespace Go.Proofs.YtpciggnanlflkaaGreatDoor.Ad
set_option linter.unusedVariables false
set_option linter.unusedSimpArgs false
open Go.RowKit Go.Maps W
def exBy : List UInt8 := bytesB exT
def exTx : List UInt8 := printT exT
theorem ex_right : rightV exT = true := by decide +kernel
theorem exBy_len : exBy.length = 63 := by decide +kernel
theorem exBy_at : exBy[3]? = some 101 ∧ exBy[8]? = some 4 ∧ exBy[12]? = some 3 ∧ exBy[62]? = some 0 := by decide +kernel
theorem ex_buildV : buildV exT = (exBy, 0) := by unfold buildV; rw [if_pos ex_right]; rfl
theorem ex_printV : printV exT = (exTx, 0) := by unfold printV; rw [if_pos ex_right]; rfl
theorem ex_readV : readV8 exBy = (exT, 0) := read_back ex_right
theorem ex_parseV : parseV exTx = (exT, 0, 0) := parse_back ex_right
theorem exTx_is : exTx = [116, 97, 112, 101, 32, 52, 10, 48, 32, 48, 32, 111, 117, 116, 32, 54, 32, 58, 48, 49, 48, 50, 48, 51, 48, 52, 10, 48, 32, 50, 32, 105, 110, 32, 54, 32, 58, 48, 49, 48, 50, 48, 51, 48, 52, 10, 53, 32, 50, 32, 111, 117, 116, 32, 48, 32, 58, 10] := by decide +kernel
/-- A tape in memory. -/
def Tin (w : World) (p : Option Go.Addr) (n c : Nat) (t : Tp) : Prop := n = t.recs.length ∧ RAt w p t.recs ∧ SlOk p n c
theorem Tin.later {w w' : World} {p : Option Go.Addr} {n c : Nat} {t : Tp} (h : Tin w p n c t) (hb : Below w.heap.size w w') : Tin w' p n c t := ⟨h.1, h.2.1.later hb, h.2.2⟩
theorem Tin.of {w : World} {B : Nat} {v : Value} {t : Tp} {ds : List Value} (h : TO w B v t.recs ds) : ∃ p c, v = .slice p t.recs.length c ∧ Tin w p t.recs.length c t := by
  obtain ⟨p, c, e, h1, _, h2⟩ := h.rat
  exact ⟨p, c, e, rfl, h1, h2⟩
theorem ex_example (w : World) : Calls Tryz.prog 32 #[] w fun e w' => ∃ p c, e = .returned (.agg #[.int .i64 4, .slice p 3 c]) ∧ Tin w' p 3 c exT ∧ Below w.heap.size w w' :=
  (example_calls w).mono fun e w' ⟨v, ds, h1, h2, h3⟩ => by
    obtain ⟨p, c, e1, h4⟩ := Tin.of (t := exT) h2
    exact ⟨p, c, by rw [h1, e1]; rfl, h4, h3⟩
theorem ex_build {w : World} {p : Option Go.Addr} {c : Nat} (h : Tin w p 3 c exT) : Calls Tryz.prog 10 #[.agg #[.int .i64 4, .slice p 3 c]] w fun e w' =>
    ∃ q d, e = .returned (.tuple #[.slice q 63 d, .int .i64 0]) ∧ BAt w' q exBy ∧ SlOk q 63 d ∧ (∀ a, q = some a → ∃ g o, a = ⟨g, o, none⟩ ∧ g < w'.heap.size) ∧ Below w.heap.size w w' :=
  (build_calls exT p c w h.2.1).mono fun e w' ⟨v, h1, h2, h3⟩ => by
    rw [ex_buildV] at h1 h2
    obtain ⟨q, d, e1, h4, _, h6⟩ := own_bytes h2
    rw [exBy_len] at e1 h6
    refine ⟨q, d, by rw [h1, e1], h4, h6, fun a ha => ?_, h3⟩
    rcases h4 with h4 | ⟨g, o, h5, h7, _⟩
    · have h4 : exBy = [] := h4
      have := exBy_len; rw [h4] at this; cases this
    · rw [h5] at ha; injection ha with ha; exact ⟨g, o, ha.symm, h7⟩
theorem ex_read {w : World} {q : Option Go.Addr} {d : Nat} (h : BAt w q exBy) (hs : SlOk q 63 d) (hq : ∀ a, q = some a → ∃ g o, a = ⟨g, o, none⟩ ∧ g < w.heap.size) : Calls Tryz.prog 18 #[.slice q 63 d] w fun e w' =>
    ∃ p c, e = .returned (.tuple #[.agg #[.int .i64 4, .slice p 3 c], .int .i64 0]) ∧ Tin w' p 3 c exT ∧ Below w.heap.size w w' :=
  (read_calls exBy q 63 d exBy_len.symm (by rw [exBy_len]; omega) w h hs hq).mono fun e w' ⟨v, ds, h1, h2, h3⟩ => by
    rw [ex_readV] at h1 h2
    obtain ⟨p, c, e1, h4⟩ := Tin.of (t := exT) h2
    exact ⟨p, c, by rw [h1, e1]; rfl, h4, h3⟩
theorem ex_print {w : World} {p : Option Go.Addr} {c : Nat} (h : Tin w p 3 c exT) (hg : Gl w) : Calls Tryz.prog 13 #[.agg #[.int .i64 4, .slice p 3 c]] w fun e w' => e = .returned (.tuple #[.string (S exTx), .int .i64 0]) ∧ Below w.heap.size w w' :=
  (print_calls exT p c w h.2.1 hg).mono fun e w' ⟨h1, h2⟩ => by rw [ex_printV] at h1; exact ⟨h1, h2⟩
theorem ex_parse {w : World} (hg : Gl w) : Calls Tryz.prog 21 #[.string (S exTx)] w fun e w' =>
    ∃ p c, e = .returned (.tuple #[.agg #[.int .i64 4, .slice p 3 c], .int .i64 0, .int .i64 0]) ∧ Tin w' p 3 c exT ∧ Below w.heap.size w w' :=
  (parse_calls exTx (by rw [exTx_is]; decide) w hg).mono fun e w' ⟨v, ds, h1, h2, h3⟩ => by
    rw [ex_parseV] at h1 h2
    obtain ⟨p, c, e1, h4⟩ := Tin.of (t := exT) h2
    exact ⟨p, c, by rw [h1, e1]; rfl, h4, h3⟩
theorem ex_same {w : World} {p q : Option Go.Addr} {c d : Nat} (h : Tin w p 3 c exT) (k : Tin w q 3 d exT) : Calls Tryz.prog 23 #[.agg #[.int .i64 4, .slice p 3 c], .agg #[.int .i64 4, .slice q 3 d]] w fun e w' => e = .returned (.bool true) ∧ Below w.heap.size w w' :=
  (sameTape_calls exT exT p q c d w h.2.1 k.2.1 (by decide) (by decide)).mono fun e w' ⟨h1, h2⟩ => by rw [decide_eq_true rfl] at h1; exact ⟨h1, h2⟩
def exSn : Tp := (snipV exT 2).1
theorem exSn_is : snipV exT 2 = (exSn, 0) ∧ exSn.snap = 2 ∧ exSn.recs.length = 3 ∧ (exSn.recs[0]?).map (·.data.length) = some 2 := by decide +kernel
theorem ex_snip {w : World} {p : Option Go.Addr} {c : Nat} (h : Tin w p 3 c exT) : Calls Tryz.prog 28 #[.agg #[.int .i64 4, .slice p 3 c], .int .i64 2] w fun e w' =>
    ∃ p c, e = .returned (.tuple #[.agg #[.int .i64 2, .slice p 3 c], .int .i64 0]) ∧ Tin w' p 3 c exSn ∧ Below w.heap.size w w' :=
  (snip_calls exT 2 p c w h.2.1).mono fun e w' ⟨v, ds, h1, h2, h3⟩ => by
    obtain ⟨k1, k2, k3, _⟩ := exSn_is
    rw [k1] at h1 h2
    obtain ⟨p, c, e1, h4⟩ := Tin.of (t := exSn) h2
    rw [k3] at e1 h4
    exact ⟨p, c, by rw [h1, e1, k2], h4, h3⟩
def exBt : Tp := (betweenV exT 0 5).1
theorem exBt_is : betweenV exT 0 5 = (exBt, 0) ∧ exBt.snap = 4 ∧ exBt.recs.length = 2 := by decide +kernel
theorem ex_between {w : World} {p : Option Go.Addr} {c : Nat} (h : Tin w p 3 c exT) : Calls Tryz.prog 30 #[.agg #[.int .i64 4, .slice p 3 c], .int .i64 0, .int .i64 5] w fun e w' =>
    ∃ p c, e = .returned (.tuple #[.agg #[.int .i64 4, .slice p 2 c], .int .i64 0]) ∧ Tin w' p 2 c exBt ∧ Below w.heap.size w w' :=
  (between_calls exT 0 5 p c w h.2.1).mono fun e w' ⟨v, ds, h1, h2, h3⟩ => by
    obtain ⟨k1, k2, k3⟩ := exBt_is
    rw [k1] at h1 h2
    obtain ⟨p, c, e1, h4⟩ := Tin.of (t := exBt) h2
    rw [k3] at e1 h4
    exact ⟨p, c, by rw [h1, e1, k2], h4, h3⟩
def exMg : Tp := (mergeV exT exT).1
theorem exMg_is : mergeV exT exT = (exMg, 0) ∧ exMg.snap = 4 ∧ exMg.recs.length = 6 ∧ (exMg.recs[4]?).map (·.tk) = some 5 := by decide +kernel
theorem ex_merge {w : World} {p q : Option Go.Addr} {c d : Nat} (h : Tin w p 3 c exT) (k : Tin w q 3 d exT) : Calls Tryz.prog 27 #[.agg #[.int .i64 4, .slice p 3 c], .agg #[.int .i64 4, .slice q 3 d]] w fun e w' =>
    ∃ p c, e = .returned (.tuple #[.agg #[.int .i64 4, .slice p 6 c], .int .i64 0]) ∧ Tin w' p 6 c exMg ∧ Below w.heap.size w w' :=
  (merge_calls exT exT p q c d w h.2.1 k.2.1 h.2.2 k.2.2).mono fun e w' ⟨v, ds, h1, h2, h3⟩ => by
    obtain ⟨k1, k2, k3, _⟩ := exMg_is
    rw [k1] at h1 h2
    obtain ⟨p, c, e1, h4⟩ := Tin.of (t := exMg) h2
    rw [k3] at e1 h4
    exact ⟨p, c, by rw [h1, e1, k2], h4, h3⟩
theorem exPk_is : pickV (fun _ => true) exT.snap exT.recs = exT.recs := by decide +kernel
theorem ex_pick {w : World} {p q : Option Go.Addr} {c d : Nat} (h : Tin w p 3 c exT) (hq : AnyAt w q) : Calls Tryz.prog 31 #[.agg #[.int .i64 4, .slice p 3 c], .slice q 1 d] w fun e w' =>
    ∃ p c, e = .returned (.tuple #[.agg #[.int .i64 4, .slice p 3 c], .int .i64 0]) ∧ Tin w' p 3 c exT ∧ Below w.heap.size w w' :=
  (pick_any exT ex_right p c q d w h.2.1 hq (fun w' _ r hr pd cd _ _ => look_ok pd _ cd (by
    have : ∀ r ∈ exT.recs, r.data.length < 20 := by decide
    exact this r hr) w')).mono fun e w' ⟨v, ds, h1, h2, h3⟩ => by
    rw [exPk_is] at h2
    obtain ⟨p, c, e1, h4⟩ := Tin.of (t := exT) h2
    exact ⟨p, c, by rw [h1, e1]; rfl, h4, h3⟩
theorem exNo_is : snipV exT 5 = (⟨0, []⟩, 1) := by decide +kernel
theorem ex_snip5 {w : World} {p : Option Go.Addr} {c : Nat} (h : Tin w p 3 c exT) : Calls Tryz.prog 28 #[.agg #[.int .i64 4, .slice p 3 c], .int .i64 5] w fun e w' =>
    ∃ p c, e = .returned (.tuple #[.agg #[.int .i64 0, .slice p 0 c], .int .i64 1]) ∧ Below w.heap.size w w' :=
  (snip_calls exT 5 p c w h.2.1).mono fun e w' ⟨v, ds, h1, h2, h3⟩ => by
    rw [exNo_is] at h1 h2
    obtain ⟨p, c, e1, h4⟩ := Tin.of (t := ⟨0, []⟩) h2
    exact ⟨p, c, by rw [h1, e1]; rfl, h3⟩
theorem ex_isright {w : World} {p : Option Go.Addr} {c : Nat} (h : Tin w p 3 c exT) : Calls Tryz.prog 16 #[.agg #[.int .i64 4, .slice p 3 c]] w fun e w' => e = .returned (.bool true) ∧ Below w.heap.size w w' :=
  (right_calls exT p c w h.2.1).mono fun e w' ⟨h1, h2⟩ => by rw [ex_right] at h1; exact ⟨h1, h2⟩
theorem ex_noright (w : World) : Calls Tryz.prog 16 #[.agg #[.int .i64 (-1), .slice none 0 0]] w fun e w' => e = .returned (.bool false) ∧ Below w.heap.size w w' :=
  (right_calls ⟨-1, []⟩ none 0 w (.inl rfl)).mono fun e w' ⟨h1, h2⟩ => by rw [show rightV ⟨-1, []⟩ = false by decide] at h1; exact ⟨h1, h2⟩
end Go.Proofs.YtpciggnanlflkaaGreatDoor.Ad
