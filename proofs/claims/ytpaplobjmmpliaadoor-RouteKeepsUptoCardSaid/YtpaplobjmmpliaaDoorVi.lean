/- What the six rows share: an argument opened as an address, the listed tables, a world for the witness. Conditions: none beyond those that each theorem states. -/
import Derived.Test.YtpaplobjmmpliaaDoorFl
import Derived.Test.YtpaplobjmmpliaaDoorCards
import Derived.Test.YtpaplobjmmpliaaDoorTie
import Derived.Test.YtpaplobjmmpliaaDoorP6
import Derived.Deep.Slices
import Derived.WalkKit
import Derived.ProofKit
import Derived.OpenShut
import Derived.ShutString
import Derived.ChangeOld
import Derived.Below
import Derived.SizedLaws
import Derived.Carry
import Derived.Deep.DeepHandedRow
import Derived.Lib.LaidTab
import Derived.Shelf.Vars
namespace Go.Proofs.YtpaplobjmmpliaaDoor.Ad
open Go.ChangeShapes Go.WideShapes Go.ChangeAt Go.RowKit W
set_option linter.unusedVariables false
set_option linter.unusedSimpArgs false
theorem flatAd : Fl.flatK Tryd.prog 4 35 = some (.int .i64 :: List.replicate 16 (.int .u8)) := by kernel_rfl
theorem byte_of {n : Int} (h : (Lit.int .u8 n).wf = true) : ∃ x : UInt8, Value.int .u8 n = by8 x := by
  have hx : 0 ≤ n ∧ n ≤ 255 := by simpa [Lit.wf, IntKind.min, IntKind.max, IntKind.signed, IntKind.bits] using h
  refine ⟨UInt8.ofNat n.toNat, ?_⟩
  unfold by8
  congr 1
  rw [UInt8.toNat_ofNat', Nat.mod_eq_of_lt (by omega)]
  omega
theorem bytes_of : ∀ (n : Nat) (cs : List Value), cs.length = n → (∀ i, i < n → ∃ x : UInt8, cs[i]? = some (by8 x)) → ∃ l : List UInt8, l.length = n ∧ cs = l.map by8
  | 0, cs, hl, _ => ⟨[], rfl, List.eq_nil_of_length_eq_zero hl⟩
  | n + 1, [], hl, _ => by simp at hl
  | n + 1, c :: cs, hl, h => by
    obtain ⟨x, hx⟩ := h 0 (by omega)
    obtain ⟨l, h1, h2⟩ := bytes_of n cs (by simpa using hl) (fun i hi => by have := h (i + 1) (by omega); simpa using this)
    refine ⟨x :: l, by simp [h1], ?_⟩
    simp at hx
    rw [hx, h2]; rfl
set_option maxRecDepth 100000 in
/-- An argument of the type api.Addr. -/
theorem open_addr {H : Type} {enc : TypeId × Value → H} {W : World} {r : Reach} {b0 base : Nat} {spare : Nat → Bool} {held : Bool} {v : Value} {d : DataW H} {p : List MemPlace} (hv : Value.okWide Tryd.prog W r b0 35 v) (h : DataW.Trod enc Tryd.prog W base spare held 35 v d p) :
    ∃ a : Addr, a.ok ∧ v = .agg a.cells := by
  obtain ⟨cs, rfl, hs⟩ := WideShapes.okWide_struct Tryd.underlying35 hv
  obtain ⟨fuel, hf⟩ := h
  obtain ⟨hl, hk0⟩ := Fl.flat_fits (P := Tryd.prog) 4 35 _ fuel _ _ flatAd hf
  have hk : ∀ (i : Nat) (k : Fl.FK), (Fl.FK.int .i64 :: List.replicate 16 (.int .u8))[i]? = some k → ∃ v, cs.toList[i]? = some v ∧ k.ok v := hk0
  obtain ⟨u0, hu0, n, rfl, _⟩ := hk 0 (.int .i64) rfl
  have hl' : cs.toList.length = 17 := hl
  cases hcs : cs.toList with
  | nil => rw [hcs] at hl'; simp at hl'
  | cons c0 rest =>
    rw [hcs] at hl' hu0 hk
    obtain ⟨l, h1, h2⟩ := bytes_of 16 rest (by simpa using hl') (fun i hi => by
      obtain ⟨u, hu, m, rfl, hw⟩ := hk (i + 1) (.int .u8) (by rw [List.getElem?_cons_succ, List.getElem?_replicate, if_pos hi])
      obtain ⟨x, hx⟩ := byte_of hw
      exact ⟨x, by simpa [hx] using hu⟩)
    refine ⟨⟨n, l⟩, h1, ?_⟩
    congr 1
    apply Array.toList_inj.1
    rw [hcs]
    simp at hu0
    rw [hu0, h2]; rfl
theorem laidMet_tail {P : Program} {W : World} {x : String × DataW Unit} {rest : List (String × DataW Unit)} (h : laidMet P (x :: rest) W) : laidMet P rest W := by
  obtain ⟨ps, ⟨g, t, cs, fuel, p, q, _, _, _, _, hr, rfl⟩, hn, hc⟩ := h
  exact ⟨q, hr, (List.nodup_append.1 hn).2.1, fun b off hm => hc b off (List.mem_append_right _ hm)⟩
/-- What the shape of the variables gives. -/
theorem gl_of {W : World} {l : List (String × DataW Unit)} (h : laidMetH Tryd.prog l W) (hs : W.ShapedOpen Tryd.prog) : Gl W :=
  ⟨cell_of_shapedOpen_int (t := 3) (zero := #[.int .i64 0]) hs (of_decide_eq_true (by kernel_rfl)) (by kernel_rfl) rfl (by kernel_rfl) (by kernel_rfl) Tryd.underlying3⟩
theorem gDe : Tryd.prog.globalNamed "math/bits.deBruijn64tab" = some 3 := by kernel_rfl
theorem gDeT : (Tryd.prog.globals[3]?).map (·.type) = some 159 := by kernel_rfl
theorem gPow : Tryd.prog.globalNamed "internal/strconv.uint64pow10" = some 1 := by kernel_rfl
theorem gPowT : (Tryd.prog.globals[1]?).map (·.type) = some 150 := by kernel_rfl
theorem cDe : Tryd.prog.cellsOf 159 = 64 := by kernel_rfl
theorem cPow : Tryd.prog.cellsOf 150 = 20 := by kernel_rfl
theorem c5 : Tryd.prog.cellsOf 5 = 1 := by kernel_rfl
theorem c64 : Tryd.prog.cellsOf 97 = 1 := by kernel_rfl
def de64 : List Int := [0, 1, 56, 2, 57, 49, 28, 3, 61, 58, 42, 50, 38, 29, 17, 4, 62, 47, 59, 36, 45, 43, 51, 22, 53, 39, 33, 30, 24, 18, 12, 5, 63, 55, 48, 27, 60, 41, 37, 16, 46, 35, 44, 21, 52, 32, 23, 11, 54, 26, 40, 15, 34, 20, 31, 10, 25, 14, 19, 9, 13, 8, 7, 6]
/-- What the row's list, and the shape of the variables, give. -/
theorem gp_of {W : World} (h : laidMetH Tryd.prog Rows.routeKeepsRow.laid W) (hs : W.ShapedOpen Tryd.prog) : Gp W := by
  have h1 : laidMet Tryd.prog Rows.routeKeepsRow.laid W := h
  have t2 : Lib.TabIs Tryd.prog W "math/bits.deBruijn64tab" .u8 de64 := Lib.tabIs_of_head (rest := _) gDe gDeT Tryd.underlying159 Tryd.underlying5 c5 cDe (laidMet_tail h1)
  have t3 : Lib.TabIs Tryd.prog W "internal/strconv.uint64pow10" .u64 Lib.pow10Tab := Lib.tabIs_of_head (rest := _) gPow gPowT Tryd.underlying150 Tryd.underlying97 c64 cPow (laidMet_tail (laidMet_tail h1))
  exact ⟨gl_of h hs, t2.cell gDe 15 (by decide), Lib.tabBelow_of_tabIs t3⟩
def litC : Nat → DataW Unit → List Value
  | 0, _ => []
  | n + 1, .lit (.int k z) => [.int k z]
  | n + 1, .agg l => l.flatMap (litC n)
  | n + 1, _ => []
def putC (d : DataW Unit) : Obj → Obj
  | .cells _ t f => .cells (litC 4 d).toArray t f
  | o => o
/-- A world for the witness: each listed table holds what its text lays. -/
noncomputable def laidWorld (os : Os) : World :=
  { World.holding Tryd.prog os ⟨#[], #[], []⟩ with heap := (((((World.holding Tryd.prog os ⟨#[], #[], []⟩).heap.modify 1 (putC Rows.laid_internal_strconv_uint64pow10)).modify 2 (putC Rows.laid_math_bits_deBruijn32tab)).modify 3 (putC Rows.laid_math_bits_deBruijn64tab)).modify 4 (putC Rows.laid_unicode_utf8_first)).modify 5 (putC Rows.laid_unicode_utf8_acceptRanges) }
theorem flatRt : Fl.flatK Tryd.prog 5 44 = some (.int .i64 :: (List.replicate 16 (.int .u8) ++ [.int .i64, .int .i64])) := by kernel_rfl
theorem cellsRt : Tryd.prog.cellsOf 44 = 19 := by kernel_rfl
theorem cellsAd : Tryd.prog.cellsOf 35 = 17 := by kernel_rfl
instance : Inhabited Addr := ⟨⟨0, []⟩⟩
instance : Inhabited Rt := ⟨⟨default, 0, 0⟩⟩
theorem open_routes_of {cs : List Value} (hl : cs.length = 19) (hk : ∀ (i : Nat) (k : Fl.FK), (Fl.FK.int .i64 :: (List.replicate 16 (.int .u8) ++ [.int .i64, .int .i64]))[i]? = some k → ∃ v, cs[i]? = some v ∧ k.ok v) : ∃ r : Rt, r.wf ∧ cs = r.vals := by
  obtain ⟨u0, hu0, n0, rfl, w0⟩ := hk 0 (.int .i64) rfl
  obtain ⟨u1, hu1, n1, rfl, w1⟩ := hk 17 (.int .i64) rfl
  obtain ⟨u2, hu2, n2, rfl, w2⟩ := hk 18 (.int .i64) rfl
  obtain ⟨l, h1, h2⟩ := bytes_of 16 ((cs.drop 1).take 16) (by simp [hl]) (fun i hi => by
    obtain ⟨u, hu, m, rfl, hw⟩ := hk (i + 1) (.int .u8) (by rw [List.getElem?_cons_succ, List.getElem?_append_left (by simpa using hi), List.getElem?_replicate, if_pos hi])
    obtain ⟨x, hx⟩ := byte_of hw
    refine ⟨x, ?_⟩
    rw [List.getElem?_take_of_lt hi, List.getElem?_drop, Nat.add_comm, hu, hx])
  refine ⟨⟨⟨n0, l⟩, n1, n2⟩, ⟨h1, w0, w1, w2⟩, ?_⟩
  have e1 : cs = cs.take 1 ++ ((cs.drop 1).take 16 ++ (cs.drop 1).drop 16) := by rw [List.take_append_drop, List.take_append_drop]
  have e2 : cs.take 1 = [.int .i64 n0] := by
    apply List.ext_getElem?
    intro i
    cases i with
    | zero => rw [List.getElem?_take_of_lt (by omega), hu0]; rfl
    | succ i => rw [List.getElem?_eq_none (by simp; omega), List.getElem?_eq_none (by simp)]
  have e3 : (cs.drop 1).drop 16 = [.int .i64 n1, .int .i64 n2] := by
    rw [List.drop_drop]
    apply List.ext_getElem?
    intro i
    rw [List.getElem?_drop]
    match i with
    | 0 => rw [hu1]; rfl
    | 1 => rw [hu2]; rfl
    | i + 2 => rw [List.getElem?_eq_none (by omega), List.getElem?_eq_none (by simp)]
  rw [e1, e2, e3, h2]
  simp [Rt.vals, Addr.vals]
theorem open_addrs_of {cs : List Value} (hl : cs.length = 17) (hk : ∀ (i : Nat) (k : Fl.FK), (Fl.FK.int .i64 :: List.replicate 16 (.int .u8))[i]? = some k → ∃ v, cs[i]? = some v ∧ k.ok v) : ∃ a : Addr, a.ok ∧ cs = a.vals := by
  obtain ⟨u0, hu0, n0, rfl, w0⟩ := hk 0 (.int .i64) rfl
  obtain ⟨l, h1, h2⟩ := bytes_of 16 (cs.drop 1) (by simp [hl]) (fun i hi => by
    obtain ⟨u, hu, m, rfl, hw⟩ := hk (i + 1) (.int .u8) (by rw [List.getElem?_cons_succ, List.getElem?_replicate, if_pos hi])
    obtain ⟨x, hx⟩ := byte_of hw
    refine ⟨x, ?_⟩
    rw [List.getElem?_drop, Nat.add_comm, hu, hx])
  refine ⟨⟨n0, l⟩, h1, ?_⟩
  cases cs with
  | nil => cases hl
  | cons c0 rest =>
    simp only [List.getElem?_cons_zero, Option.some.injEq] at hu0
    simp only [List.drop_succ_cons, List.drop_zero] at h2
    rw [hu0, h2]; rfl
set_option maxRecDepth 100000 in
theorem open_routes {H : Type} {enc : TypeId × Value → H} {W : World} {r : Reach} {b0 base : Nat} {spare : Nat → Bool} {held : Bool} {v : Value} {d : DataW H} {ps : List MemPlace} (hv : Value.okWide Tryd.prog W r b0 22 v) (h : DataW.Trod enc Tryd.prog W base spare held 22 v d ps) :
    ∃ (p : Option Go.Addr) (l : List Rt) (c : Nat), v = .slice p l.length c ∧ (∀ x ∈ l, x.wf) ∧ At W p l ∧ (p = none → c = 0) ∧ l.length ≤ Rows.uptoBulk d := by
  obtain ⟨A0, n, cap, rfl⟩ := WideShapes.okWide_slice Tryd.underlying22 hv
  obtain ⟨fuel, hf⟩ := h
  rcases Deep.open_slice Tryd.underlying22 hf with ⟨hcs, _⟩ | ⟨a, len, cp, m, k, D, Pl, hcs, _, hl, _, hm, hx, hel⟩
  · simp [Value.cells] at hcs
    obtain ⟨rfl, rfl, rfl⟩ := hcs
    exact ⟨none, [], 0, rfl, (fun x hx => by cases hx), .inl rfl, (fun _ => rfl), Nat.zero_le _⟩
  · simp [Value.cells] at hcs
    obtain ⟨rfl, rfl, rfl⟩ := hcs
    obtain ⟨hx, _⟩ := Prod.mk.inj hx
    subst hx
    have hnm : n ≤ m := by rw [hm]; split <;> omega
    have key : ∀ i, ∃ x : Rt, i < n → x.wf ∧ ∀ j u, x.vals[j]? = some u → W.cell? ((a.add (i * 19)).add j) = some u := fun i => by
      by_cases hi : i < n
      · obtain ⟨cs', h1, h2⟩ := hel i (by omega)
        rw [cellsRt] at h1
        obtain ⟨_, h3, h4⟩ := World.cells?_some h1
        obtain ⟨h5, h6⟩ := Fl.flat_fits (P := Tryd.prog) 5 44 _ k _ _ flatRt h2
        obtain ⟨x, hx1, hx2⟩ := open_routes_of h3 h6
        refine ⟨x, fun _ => ⟨hx1, fun j u hu => ?_⟩⟩
        rw [← hx2] at hu
        rw [h4 j (by have := (List.getElem?_eq_some_iff.1 hu).1; omega)]; exact hu
      · exact ⟨default, fun h => absurd h hi⟩
    have hlen : ((List.range n).map fun i => (key i).choose).length = n := by simp
    refine ⟨some a, (List.range n).map fun i => (key i).choose, cap, by rw [hlen], fun x hx => ?_, ?_, fun h => (by cases h), ?_⟩
    · obtain ⟨i, hi, rfl⟩ := List.mem_map.1 hx
      exact ((key i).choose_spec (List.mem_range.1 hi)).1
    · by_cases h0 : n = 0
      · exact .inl (List.eq_nil_of_length_eq_zero (by rw [hlen]; exact h0))
      · have hc0 := ((key 0).choose_spec (by omega)).2 0 (.int .i64 (key 0).choose.net.v) rfl
        have ha0 : (a.add (0 * 19)).add 0 = a := by
          unfold Addr.add; simp
        rw [ha0] at hc0
        have hsp : a.spot = none := by
          unfold World.cell? at hc0
          split at hc0
          · split at hc0
            · cases hc0
            · rename_i h; simpa using h
          · cases hc0
        have hblk : a.block < W.heap.size := World.block_lt_of_cell? W a hc0
        obtain ⟨ab, ao, asp⟩ := a
        simp only at hsp
        subst hsp
        refine .inr ⟨ab, ao, rfl, hblk, fun i x hx j u hu => ?_⟩
        rw [List.getElem?_map] at hx
        have hi : i < n := by
          rcases Nat.lt_or_ge i n with h | h
          · exact h
          · rw [List.getElem?_eq_none (by simpa using h)] at hx; cases hx
        rw [List.getElem?_range hi] at hx
        injection hx with hx
        subst hx
        have := ((key i).choose_spec hi).2 j u hu
        rwa [Addr.add_mid, Addr.add_mid] at this
    · rw [hlen]
      have : ∀ (l : List (DataW H)), l.length ≤ Rows.uptoBulkAll l := by
        intro l
        induction l with
        | nil => exact Nat.zero_le _
        | cons y l ih =>
          have hy : 1 ≤ Rows.uptoBulk y := by
            cases y with
            | lit q => cases q <;> (simp only [Rows.uptoBulk]; omega)
            | _ => simp only [Rows.uptoBulk]; omega
          simp only [List.length_cons, Rows.uptoBulkAll]; omega
      have h2 := this ((List.range n).map D)
      simp only [Rows.uptoBulk, List.length_map, List.length_range] at h2 ⊢
      omega
set_option maxRecDepth 100000 in
theorem open_addrs {H : Type} {enc : TypeId × Value → H} {W : World} {r : Reach} {b0 base : Nat} {spare : Nat → Bool} {held : Bool} {v : Value} {d : DataW H} {ps : List MemPlace} (hv : Value.okWide Tryd.prog W r b0 23 v) (h : DataW.Trod enc Tryd.prog W base spare held 23 v d ps) :
    ∃ (p : Option Go.Addr) (l : List Addr) (c : Nat), v = .slice p l.length c ∧ (∀ x ∈ l, x.ok) ∧ AtA W p l ∧ (p = none → c = 0) ∧ l.length ≤ Rows.uptoBulk d := by
  obtain ⟨A0, n, cap, rfl⟩ := WideShapes.okWide_slice Tryd.underlying23 hv
  obtain ⟨fuel, hf⟩ := h
  rcases Deep.open_slice Tryd.underlying23 hf with ⟨hcs, _⟩ | ⟨a, len, cp, m, k, D, Pl, hcs, _, hl, _, hm, hx, hel⟩
  · simp [Value.cells] at hcs
    obtain ⟨rfl, rfl, rfl⟩ := hcs
    exact ⟨none, [], 0, rfl, (fun x hx => by cases hx), .inl rfl, (fun _ => rfl), Nat.zero_le _⟩
  · simp [Value.cells] at hcs
    obtain ⟨rfl, rfl, rfl⟩ := hcs
    obtain ⟨hx, _⟩ := Prod.mk.inj hx
    subst hx
    have hnm : n ≤ m := by rw [hm]; split <;> omega
    have key : ∀ i, ∃ x : Addr, i < n → x.ok ∧ ∀ j u, x.vals[j]? = some u → W.cell? ((a.add (i * 17)).add j) = some u := fun i => by
      by_cases hi : i < n
      · obtain ⟨cs', h1, h2⟩ := hel i (by omega)
        rw [cellsAd] at h1
        obtain ⟨_, h3, h4⟩ := World.cells?_some h1
        obtain ⟨h5, h6⟩ := Fl.flat_fits (P := Tryd.prog) 4 35 _ k _ _ flatAd h2
        obtain ⟨x, hx1, hx2⟩ := open_addrs_of h3 h6
        refine ⟨x, fun _ => ⟨hx1, fun j u hu => ?_⟩⟩
        rw [← hx2] at hu
        rw [h4 j (by have := (List.getElem?_eq_some_iff.1 hu).1; omega)]; exact hu
      · exact ⟨default, fun h => absurd h hi⟩
    have hlen : ((List.range n).map fun i => (key i).choose).length = n := by simp
    refine ⟨some a, (List.range n).map fun i => (key i).choose, cap, by rw [hlen], fun x hx => ?_, ?_, fun h => (by cases h), ?_⟩
    · obtain ⟨i, hi, rfl⟩ := List.mem_map.1 hx
      exact ((key i).choose_spec (List.mem_range.1 hi)).1
    · by_cases h0 : n = 0
      · exact .inl (List.eq_nil_of_length_eq_zero (by rw [hlen]; exact h0))
      · have hc0 := ((key 0).choose_spec (by omega)).2 0 (.int .i64 (key 0).choose.v) rfl
        have ha0 : (a.add (0 * 17)).add 0 = a := by
          unfold Addr.add; simp
        rw [ha0] at hc0
        have hsp : a.spot = none := by
          unfold World.cell? at hc0
          split at hc0
          · split at hc0
            · cases hc0
            · rename_i h; simpa using h
          · cases hc0
        have hblk : a.block < W.heap.size := World.block_lt_of_cell? W a hc0
        obtain ⟨ab, ao, asp⟩ := a
        simp only at hsp
        subst hsp
        refine .inr ⟨ab, ao, rfl, hblk, fun i x hx j u hu => ?_⟩
        rw [List.getElem?_map] at hx
        have hi : i < n := by
          rcases Nat.lt_or_ge i n with h | h
          · exact h
          · rw [List.getElem?_eq_none (by simpa using h)] at hx; cases hx
        rw [List.getElem?_range hi] at hx
        injection hx with hx
        subst hx
        have := ((key i).choose_spec hi).2 j u hu
        rwa [Addr.add_mid, Addr.add_mid] at this
    · rw [hlen]
      have : ∀ (l : List (DataW H)), l.length ≤ Rows.uptoBulkAll l := by
        intro l
        induction l with
        | nil => exact Nat.zero_le _
        | cons y l ih =>
          have hy : 1 ≤ Rows.uptoBulk y := by
            cases y with
            | lit q => cases q <;> (simp only [Rows.uptoBulk]; omega)
            | _ => simp only [Rows.uptoBulk]; omega
          simp only [List.length_cons, Rows.uptoBulkAll]; omega
      have h2 := this ((List.range n).map D)
      simp only [Rows.uptoBulk, List.length_map, List.length_range] at h2 ⊢
      omega
end Go.Proofs.YtpaplobjmmpliaaDoor.Ad
