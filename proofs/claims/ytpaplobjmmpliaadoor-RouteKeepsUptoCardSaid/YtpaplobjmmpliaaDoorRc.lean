/- Contract of route.may: which lists of routes may be. Conditions: addresses have sixteen bytes, numbers lie within 64 bits. -/
import Derived.Test.YtpaplobjmmpliaaDoorRb
import Derived.Maps.OwnOps
namespace Go.Proofs.YtpaplobjmmpliaaDoor.Ad
set_option linter.unusedVariables false
set_option linter.unusedSimpArgs false
open Go.RowKit Go.Maps W
def zeroRt : Rt := ⟨zeroAd, 0, 0⟩
theorem zeroRt_ok : zeroRt.ok := zero_ok
theorem rcs {r : Rt} (h : r.ok) : r.cells.size = 19 := by simp [Rt.cells, vals_len h]
def zeroNet : Array Value := #[.int .i64 0, .int .u8 0, .int .u8 0, .int .u8 0, .int .u8 0, .int .u8 0, .int .u8 0, .int .u8 0, .int .u8 0, .int .u8 0, .int .u8 0, .int .u8 0, .int .u8 0, .int .u8 0, .int .u8 0, .int .u8 0, .int .u8 0, .int .i64 0]
theorem nszc {r : Rt} (h : r.ok) : (Tryd.prog.info? 81).map (·.size) = some (netC r).size := by rw [netC_size h]; kernel_rfl
theorem none_ (r : Rt) : (netC r).all (·.oneCell') = true := by simp [netC, Addr.vals, Value.oneCell', by8]
theorem built_net {r : Rt} (h : r.ok) : Tryd.prog.built 81 [(0, .agg r.net.vals.toArray), (1, .int .i64 r.bits)] = some (netC r) := by
  unfold Rt.ok Addr.ok at h
  unfold netC Addr.vals
  obtain ⟨x0, x1, x2, x3, x4, x5, x6, x7, x8, x9, x10, x11, x12, x13, x14, x15, hx⟩ := len16 h
  rw [hx]
  kernel_rfl
theorem run_net {r : Rt} (h : r.ok) (w : World) : (Instr.build 81 #[(0, .agg r.net.vals.toArray), (1, .int .i64 r.bits)]).run Tryd.prog w = .ok (.agg (netC r)) w := run_build w 81 _ _ (built_net h)
/-- A slice of routes. -/
def At (w : World) (a : Option Go.Addr) (l : List Rt) : Prop := l = [] ∨ ∃ g o, a = some ⟨g, o, none⟩ ∧ g < w.heap.size ∧ Has w g o l
theorem At.later {w w' : World} {a : Option Go.Addr} {l : List Rt} (h : At w a l) (hb : Below w.heap.size w w') : At w' a l := by
  rcases h with h | ⟨g, o, h1, h2, h3⟩
  · exact .inl h
  · exact .inr ⟨g, o, h1, Nat.lt_of_lt_of_le h2 hb.size, h3.later hb h2⟩
/-- The set of the first k nets. -/
def seen (l : List Rt) (k : Nat) : DataW Unit := setOf (.agg []) ((l.take k).map fun r => Lit.string (keyB r))
theorem seen_zero (l : List Rt) : seen l 0 = .map [] := by simp [seen, setOf]
theorem seen_step {l : List Rt} {k : Nat} {r : Rt} (hr : l[k]? = some r) : seen l (k + 1) = (seen l k).put (.string (keyB r)) (.agg []) := by
  unfold seen
  rw [List.take_add_one, hr]
  simp only [Option.toList_some, List.map_append, List.map_cons, List.map_nil, setOf_snoc]
theorem seen_has {l : List Rt} (hl : ∀ r ∈ l, r.wf) {k : Nat} {r : Rt} (hk : k ≤ l.length) (hr : r.wf) : Maps.has (seen l k) (.string (keyB r)) = false ↔ ∀ j, j < k → ∃ q, l[j]? = some q ∧ q.same r = false := by
  unfold seen
  rw [has_setOf _ _ _ (fun y hy => by obtain ⟨_, _, rfl⟩ := List.mem_map.1 hy; trivial), List.any_map, List.any_eq_false]
  constructor
  · intro h j hj
    obtain ⟨q, hq⟩ : ∃ q, l[j]? = some q := ⟨_, List.getElem?_eq_getElem (by omega)⟩
    refine ⟨q, hq, ?_⟩
    have hm : q ∈ l.take k := List.mem_of_getElem? (i := j) (by rw [List.getElem?_take_of_lt hj]; exact hq)
    have := h q hm
    cases hs : q.same r with
    | false => rfl
    | true => exact absurd (by show Lit.sameKey (.string (keyB q)) (.string (keyB r)) = true; rw [same_key hs]; simp [Lit.sameKey]) this
  · intro h q hq
    obtain ⟨j, hj⟩ := List.mem_iff_getElem?.1 hq
    have hjk : j < k := by have := (List.getElem?_eq_some_iff.1 hj).1; simp at this; omega
    rw [List.getElem?_take_of_lt hjk] at hj
    obtain ⟨q', h1, h2⟩ := h j hjk
    rw [hj] at h1; injection h1 with h1; subst h1
    intro hc
    have hc : Lit.sameKey (.string (keyB q)) (.string (keyB r)) = true := hc
    have hc : keyB q = keyB r := by simpa [Lit.sameKey] using hc
    have := key_inj (hl q (List.mem_of_getElem? hj)) hr hc
    rw [h2] at this; cases this
theorem may_no {l : List Rt} {k : Nat} (hk : k < l.length) (h : ¬ goodTo l (k + 1)) : mayV l = false := by
  cases hm : mayV l with
  | false => rfl
  | true => exact absurd (goodTo_mono ((mayV_iff l).1 hm).2 (by omega)) h
theorem may_long {l : List Rt} (h : 32 < l.length) : mayV l = false := by
  cases hm : mayV l with
  | false => rfl
  | true => have := ((mayV_iff l).1 hm).1; omega
theorem later_map {w w' : World} {P : Program} {k : TypeId} {R : Value → Option (DataW Unit × List MemPlace)} {b n : Nat} {D : DataW Unit} (h : w.ownsMap P k R b n D) (hb : Below w.heap.size w w') : w'.ownsMap P k R b n D := by
  obtain ⟨es, c, h1, h2⟩ := h
  have hlt : b < w.heap.size := (Array.getElem?_eq_some_iff.1 h1).1
  exact ⟨es, c, (hb.block b hlt).trans h1, h2⟩
set_option maxRecDepth 100000 in
set_option maxHeartbeats 4000000 in
theorem may_calls {l : List Rt} (hl : ∀ r ∈ l, r.wf) (p : Option Go.Addr) (c : Nat) (w : World) (hp : At w p l) : Calls Tryd.prog 24 #[.slice p l.length c] w fun e w' => e = .returned (.bool (mayV l)) ∧ Below w.heap.size w w' := by
  have hmm := @run_makeMap Tryd.prog
  have hz := zeroRt_ok
  have z0 := zero_ok
  have bu : ∀ w, (Instr.build 82 #[]).run Tryd.prog w = .ok (.agg #[]) w := fun w => run_build w 82 #[] #[] (by kernel_rfl)
  have zu : ∀ w, (zeroValue 82).run Tryd.prog w = .ok (.agg #[]) w := fun w => by kernel_rfl
  have HP := Lib.hid hp
  have HL := Lib.hid hl
  obtain ⟨n, hn⟩ : ∃ n, l.length = n := ⟨_, rfl⟩
  obtain ⟨mv, hmv⟩ : ∃ mv, mayV l = mv := ⟨_, rfl⟩
  have HN := Lib.hid hn
  have HMV := Lib.hid hmv
  rw [hn, hmv]
  clear hp hl
  go_enter Tryd.func24, Tryd.ntmps24
  by_cases h32 : 32 < n
  · have e0 : decide ((32 : Int) < (n : Int)) = true := decide_eq_true (by omega)
    have e0' : decide (32 < n) = true := decide_eq_true h32
    have HF : Hid (mv = false) := Lib.hid (by rw [← hmv]; exact may_long (by omega))
    clear h32 hn hmv
    go_wp2
    go_ret
    exact ⟨by rw [HF.out]; rfl, Below.refl _ _⟩
  · have e0 : decide ((32 : Int) < (n : Int)) = false := decide_eq_false (by omega)
    have e0' : decide (32 < n) = false := decide_eq_false h32
    have H32 := Lib.hid h32
    have hb32 : n ≤ 32 := by omega
    clear h32 hn hmv
    go_wp2
    go_loopw [5, 6, 7, 8, 9, 10, 17] (fun _ _ _ _ _ _ u wr => ∃ k : Nat, u = .int .i64 k ∧ k ≤ n ∧ Hid (goodTo l k) ∧ Hid (wr.ownsMap Tryd.prog 81 unitElem w.heap.size k (seen l k)) ∧ Hid (Below w.heap.size w wr)) (fun _ _ _ _ _ _ u _ => n - (intOf u).toNat)
    case atStart => exact ⟨0, rfl, Nat.zero_le _, Lib.hid (goodTo_zero l), Lib.hid (by rw [seen_zero]; exact World.ownsMap_made _ _ _ _), Lib.hid ((Below.refl _ _).alloc (Nat.le_refl _) _)⟩
    case round =>
      obtain ⟨k, rfl, hk, HGD, HO, HB⟩ := hrel
      by_cases hlt : k < n
      · have e1 : decide ((k : Int) < (n : Int)) = true := decide_eq_true (by omega)
        have e1' : decide (k < n) = true := decide_eq_true hlt
        have HK : Hid (k < l.length) := Lib.hid (by have := HN.out; omega)
        obtain ⟨r, hr⟩ : ∃ r, l[k]? = some r := ⟨_, List.getElem?_eq_getElem HK.out⟩
        have HR := Lib.hid hr
        have hwf := Lib.hid (HL.out r (List.mem_of_getElem? hr))
        have hap := HP.out.later HB.out
        clear hr
        rcases hap with hap | ⟨g, o, rfl, hgl, hh⟩
        · have := HK.out; rw [hap] at this; exact absurd this (Nat.not_lt_zero _)
        have HH := Lib.hid (hh k r HR.out)
        clear hh hgl
        go_upto_region 7 with (first | (refine wpList_load_at rfl 44 _ rfl g (o + k * 19) r.vals _ rfl HH.out Tryd.underlying44 rfl (by as_aux_lemma => exact rsz hwf.out.ok) ?_) | (refine wpList_store_blk rfl 44 _ _ rfl wr.heap.size 44 zeroRt.cells r.cells rfl rfl (Blk.new _ _ _) (by rw [rcs hwf.out.ok, rcs zeroRt_ok]) (rszc hwf.out.ok) (rone _) ?_; intro W2 P2))
        obtain ⟨B7, b5, s7, t7⟩ := call_store (Below.refl wr.heap.size wr) P2
        have HO := Lib.hid (later_map HO.out B7.out)
        have HB := keep HB B7.out
        obtain ⟨G1, hG1⟩ : ∃ g, wr.heap.size = g := ⟨_, rfl⟩
        rw [hG1] at b5 ⊢
        have c17 := bits_at b5.out hwf.out.ok
        have c18 := link_at b5.out hwf.out.ok
        clear P2 B7 s7 t7 hG1 HH
        obtain ⟨er, her⟩ : ∃ er, r.net.maskE r.bits = er := ⟨_, rfl⟩
        obtain ⟨m, hm⟩ : ∃ m, r.net.mask r.bits = m := ⟨_, rfl⟩
        have hmo : Hid m.ok := Lib.hid (by rw [← hm]; exact mask_ok hwf.out.ok r.bits)
        have HC := Lib.hid (mask_calls r.net hwf.out.ok r.bits)
        rw [her, hm] at HC
        have HER := Lib.hid her
        have HM := Lib.hid hm
        clear her hm
        go_upto_region 8 with (first | (refine wpList_load_at rfl 35 _ rfl G1 0 r.net.vals _ rfl (net_at b5.out) Tryd.underlying35 rfl (by as_aux_lemma => exact asz hwf.out.ok) ?_) | (go_at_call 42; refine (HC.out _).mono ?_; rintro e W3 ⟨rfl, hB8⟩) | (refine wpList_store_blk rfl 35 _ _ rfl W3.heap.size 35 zeroAd.cells m.cells rfl rfl (Blk.new _ _ _) (by first | rfl | rw [csize hmo.out, csize zero_ok]) (szc hmo.out) (one_cells _) ?_; intro W4 P4))
        obtain ⟨B8, b6, s8, t8⟩ := call_store hB8 P4
        have HO := Lib.hid (later_map HO.out B8.out)
        have HB := keep HB B8.out
        have b5 := Lib.hid (b5.out.later B8.out b5.out.lt)
        have c17 := bits_at b5.out hwf.out.ok
        have c18 := link_at b5.out hwf.out.ok
        obtain ⟨G2, hG2⟩ : ∃ g, W3.heap.size = g := ⟨_, rfl⟩
        rw [hG2] at b6 ⊢
        clear hB8 P4 B8 s8 t8 hG2 HC
        go_upto_region 9 with (first | (refine wpList_load_at rfl 35 _ rfl G1 0 r.net.vals _ rfl (net_at b5.out) Tryd.underlying35 rfl (by as_aux_lemma => exact asz hwf.out.ok) ?_) | (refine wpList_build2 rfl 81 0 1 _ _ rfl (.agg r.net.vals.toArray) (.int .i64 r.bits) rfl rfl (netC r) (built_net hwf.out.ok) ?_) | (refine wpList_store_blk rfl 81 _ _ rfl W4.heap.size 81 zeroNet (netC r) rfl rfl (Blk.new _ _ _) (by rw [netC_size hwf.out.ok]; rfl) (nszc hwf.out.ok) (none_ r) ?_; intro W5 P5))
        obtain ⟨B9, b8, s9, t9⟩ := call_store (Below.refl W4.heap.size W4) P5
        have HO := Lib.hid (later_map HO.out B9.out)
        have HB := keep HB B9.out
        have b5 := Lib.hid (b5.out.later B9.out b5.out.lt)
        have b6 := Lib.hid (b6.out.later B9.out b6.out.lt)
        have c17 := bits_at b5.out hwf.out.ok
        have c18 := link_at b5.out hwf.out.ok
        obtain ⟨G3, hG3⟩ : ∃ g, W4.heap.size = g := ⟨_, rfl⟩
        rw [hG3] at b8 ⊢
        clear P5 B9 s9 t9 hG3
        obtain ⟨d, hd⟩ : ∃ d, Maps.has (seen l k) (.string (keyB r)) = d := ⟨_, rfl⟩
        have HS := Lib.hid (seen_has (l := l) HL.out (k := k) (by have := HK.out; omega) hwf.out)
        rw [hd] at HS
        have hky := key_net hwf.out
        go_upto_region 10 with (first | (refine wpList_load_blk rfl 81 _ rfl G3 81 _ _ rfl b8.out Tryd.underlying81 rfl (by as_aux_lemma => exact nszc hwf.out.ok) ?_) | (at_lookup; refine wpList_lookup_own_unit _ rfl _ _ 77 rfl 81 82 lawNet Tryd.underlying77 (zu _) w.heap.size k _ rfl HO.out _ _ rfl hky ?_))
        have HQ := Lib.hid hky
        refine wp_named fun W6 hW6 => ?_
        have B10 : Below W5.heap.size W5 W6 := by rw [hW6]; exact (Below.refl _ _).alloc (Nat.le_refl _) _
        have HO := Lib.hid (later_map HO.out B10)
        have HB := keep HB B10
        have b5 := Lib.hid (b5.out.later B10 b5.out.lt)
        have b6 := Lib.hid (b6.out.later B10 b6.out.lt)
        have b8 := Lib.hid (b8.out.later B10 b8.out.lt)
        have c17 := bits_at b5.out hwf.out.ok
        have c18 := link_at b5.out hwf.out.ok
        clear hW6 B10
        have HONE : Hid (r.one = decide (er = 0 ∧ m = r.net ∧ 0 ≤ r.link ∧ r.link < 16)) := Lib.hid (by unfold Rt.one; rw [HER.out, HM.out])
        cases d
        · by_cases hz : er = 0
          · have f1 : (er != 0) = false := by rw [hz]; rfl
            have q1 : ∀ w, (binOp .neq 35 (.agg m.cells) (.agg r.net.vals.toArray)).run Tryd.prog w = .ok (.bool (!decide (m = r.net))) w := fun w => neq_ad m r.net hmo.out hwf.out.ok w
            by_cases hmn : m = r.net
            · rw [decide_eq_true hmn] at q1
              have HMN := Lib.hid hmn
              clear hmn
              by_cases hl0 : r.link < 0
              · have f2 : decide (r.link < 0) = true := decide_eq_true hl0
                have HF : Hid (mv = false) := Lib.hid (by
                  rw [← HMV.out]
                  exact may_no HK.out fun h => by have h2 := ((goodTo_step HR.out).1 h).2.1; rw [HONE.out] at h2; have := (of_decide_eq_true h2).2.2.1; omega)
                clear HS hd hlt e1 e1'
                go_wp2_with (first | (refine wpList_load_blk rfl 35 _ rfl G2 35 _ _ rfl b6.out Tryd.underlying35 rfl (by as_aux_lemma => exact szc hmo.out) ?_) | (refine wpList_load_at rfl 35 _ rfl G1 0 r.net.vals _ rfl (net_at b5.out) Tryd.underlying35 rfl (by as_aux_lemma => exact asz hwf.out.ok) ?_) | (refine wpList_load_blk rfl 81 _ rfl G3 81 _ _ rfl b8.out Tryd.underlying81 rfl (by as_aux_lemma => exact nszc hwf.out.ok) ?_))
                go_ret
                exact ⟨by rw [HF.out]; rfl, HB.out⟩
              · have f2 : decide (r.link < 0) = false := decide_eq_false hl0
                by_cases hl1 : 16 ≤ r.link
                · have f3 : decide (16 ≤ r.link) = true := decide_eq_true hl1
                  have HF : Hid (mv = false) := Lib.hid (by
                    rw [← HMV.out]
                    exact may_no HK.out fun h => by have h2 := ((goodTo_step HR.out).1 h).2.1; rw [HONE.out] at h2; have := (of_decide_eq_true h2).2.2.2; omega)
                  clear HS hd hlt e1 e1'
                  go_wp2_with (first | (refine wpList_load_blk rfl 35 _ rfl G2 35 _ _ rfl b6.out Tryd.underlying35 rfl (by as_aux_lemma => exact szc hmo.out) ?_) | (refine wpList_load_at rfl 35 _ rfl G1 0 r.net.vals _ rfl (net_at b5.out) Tryd.underlying35 rfl (by as_aux_lemma => exact asz hwf.out.ok) ?_) | (refine wpList_load_blk rfl 81 _ rfl G3 81 _ _ rfl b8.out Tryd.underlying81 rfl (by as_aux_lemma => exact nszc hwf.out.ok) ?_))
                  go_ret
                  exact ⟨by rw [HF.out]; rfl, HB.out⟩
                · have f3 : decide (16 ≤ r.link) = false := decide_eq_false hl1
                  have HG2 : Hid (goodTo l (k + 1)) := Lib.hid ((goodTo_step HR.out).2 ⟨HGD.out, by rw [HONE.out]; exact decide_eq_true ⟨hz, HMN.out, by omega, by omega⟩, HS.out.1 rfl⟩)
                  clear HS hd hz hl0 hl1
                  go_wp2_with (first | (refine wpList_load_blk rfl 35 _ rfl G2 35 _ _ rfl b6.out Tryd.underlying35 rfl (by as_aux_lemma => exact szc hmo.out) ?_) | (refine wpList_load_at rfl 35 _ rfl G1 0 r.net.vals _ rfl (net_at b5.out) Tryd.underlying35 rfl (by as_aux_lemma => exact asz hwf.out.ok) ?_) | (refine wpList_load_blk rfl 81 _ rfl G3 81 _ _ rfl b8.out Tryd.underlying81 rfl (by as_aux_lemma => exact nszc hwf.out.ok) ?_) | (at_mapUpdate; refine wpList_mapUpdate_own _ rfl _ _ _ 77 rfl 81 82 lawNet Tryd.underlying77 (unitElem (H := Unit)) w.heap.size k _ rfl HO.out (by have := HK.out; have := H32.out; have := HN.out; unfold maxLen; omega) _ _ _ rfl rfl HQ.out _ [] unitElem_mk ?_; intro W9 hown9 hgr9))
                  exact ⟨⟨k + 1, by go_num, by omega, HG2, Lib.hid (by rw [seen_step HR.out]; exact hown9), Lib.hid (HB.out.grown hgr9 HB.out.size (fun j hj => by cases hj; exact Nat.le_refl _))⟩, by simp [intOf]; omega⟩
            · rw [decide_eq_false hmn] at q1
              have HF : Hid (mv = false) := Lib.hid (by
                rw [← HMV.out]
                exact may_no HK.out fun h => by have h2 := ((goodTo_step HR.out).1 h).2.1; rw [HONE.out] at h2; exact hmn (of_decide_eq_true h2).2.1)
              clear HS hd hlt e1 e1'
              go_wp2_with (first | (refine wpList_load_blk rfl 35 _ rfl G2 35 _ _ rfl b6.out Tryd.underlying35 rfl (by as_aux_lemma => exact szc hmo.out) ?_) | (refine wpList_load_at rfl 35 _ rfl G1 0 r.net.vals _ rfl (net_at b5.out) Tryd.underlying35 rfl (by as_aux_lemma => exact asz hwf.out.ok) ?_) | (refine wpList_load_blk rfl 81 _ rfl G3 81 _ _ rfl b8.out Tryd.underlying81 rfl (by as_aux_lemma => exact nszc hwf.out.ok) ?_))
              go_ret
              exact ⟨by rw [HF.out]; rfl, HB.out⟩
          · have f1 : (er != 0) = true := bne_iff_ne.2 hz
            have HF : Hid (mv = false) := Lib.hid (by
              rw [← HMV.out]
              exact may_no HK.out fun h => by have h2 := ((goodTo_step HR.out).1 h).2.1; rw [HONE.out] at h2; exact hz (of_decide_eq_true h2).1)
            clear HS hd hlt e1 e1'
            go_wp2_with (first | (refine wpList_load_blk rfl 35 _ rfl G2 35 _ _ rfl b6.out Tryd.underlying35 rfl (by as_aux_lemma => exact szc hmo.out) ?_) | (refine wpList_load_at rfl 35 _ rfl G1 0 r.net.vals _ rfl (net_at b5.out) Tryd.underlying35 rfl (by as_aux_lemma => exact asz hwf.out.ok) ?_) | (refine wpList_load_blk rfl 81 _ rfl G3 81 _ _ rfl b8.out Tryd.underlying81 rfl (by as_aux_lemma => exact nszc hwf.out.ok) ?_))
            go_ret
            exact ⟨by rw [HF.out]; rfl, HB.out⟩
        · skip
          have HF : Hid (mv = false) := Lib.hid (by
            rw [← HMV.out]
            exact may_no HK.out fun h => by have h2 := HS.out.2 ((goodTo_step HR.out).1 h).2.2; cases h2)
          clear HS hd hlt e1 e1'
          go_wp2_with (first | (refine wpList_load_blk rfl 35 _ rfl G2 35 _ _ rfl b6.out Tryd.underlying35 rfl (by as_aux_lemma => exact szc hmo.out) ?_) | (refine wpList_load_at rfl 35 _ rfl G1 0 r.net.vals _ rfl (net_at b5.out) Tryd.underlying35 rfl (by as_aux_lemma => exact asz hwf.out.ok) ?_) | (refine wpList_load_blk rfl 81 _ rfl G3 81 _ _ rfl b8.out Tryd.underlying81 rfl (by as_aux_lemma => exact nszc hwf.out.ok) ?_))
          go_ret
          exact ⟨by rw [HF.out]; rfl, HB.out⟩
      · have e1 : decide ((k : Int) < (n : Int)) = false := decide_eq_false (by omega)
        have e1' : decide (k < n) = false := decide_eq_false hlt
        have HT : Hid (mv = true) := Lib.hid (by
          rw [← HMV.out, mayV_iff, HN.out]
          have hkn : k = n := by omega
          exact ⟨by have := H32.out; omega, by rw [← hkn]; exact HGD.out⟩)
        clear hlt
        go_wp2
        go_ret
        exact ⟨by rw [HT.out]; rfl, HB.out⟩
end Go.Proofs.YtpaplobjmmpliaaDoor.Ad
