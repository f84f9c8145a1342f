/- Contract of tape.Print. Conditions: the library's variables hold what its text lays. -/
import Derived.Test.YtpciggnanlflkaaGreatDoorXb
namespace Go.Proofs.YtpciggnanlflkaaGreatDoor.Ad
set_option linter.unusedVariables false
set_option linter.unusedSimpArgs false
open Go.RowKit Go.Maps W
def hexC (c : UInt8) : List UInt8 := [digC (c.toNat / 16), digC (c.toNat % 16)]
def wayV (o : Bool) : List UInt8 := if o = true then [32, 111, 117, 116, 32] else [32, 105, 110, 32]
/-- A record's line, up to its data. -/
def frontT (r : Rec) : List UInt8 := textB 10 r.tk.toNat ++ ([32] ++ (textB 10 r.node.toNat ++ (wayV r.out ++ (textB 10 r.long.toNat ++ [32, 58]))))
def lineT (r : Rec) : List UInt8 := frontT r ++ r.data.flatMap hexC
def linesT (l : List Rec) : List UInt8 := l.flatMap fun r => lineT r ++ [10]
def headT (t : Tp) : List UInt8 := [116, 97, 112, 101, 32] ++ (textB 10 t.snap.toNat ++ [10])
def printT (t : Tp) : List UInt8 := headT t ++ linesT t.recs
/-- What Print answers. -/
def printV (t : Tp) : List UInt8 × Int := if rightV t = true then (printT t, 0) else ([], 1)
theorem textB_le (n : Nat) : n ≤ 1099511627776 → (textB 10 n).length ≤ 13 := by
  intro h
  have step : ∀ k n, n < 10 ^ (k + 1) → (textB 10 n).length ≤ k + 1 := by
    intro k
    induction k with
    | zero => intro n hn; rw [textB_one (by omega)]; simp
    | succ k ih =>
      intro n hn
      by_cases h1 : n < 10
      · rw [textB_one h1]; simp
      · rw [textB_more (by omega) (by omega), List.length_append]
        have h2 := ih (n / 10) (by rw [Nat.pow_succ] at hn; omega)
        simp; omega
  exact step 12 n (by omega)
theorem may_range {r : Rec} {snap frm : Int} (h : mayV r snap frm = true) : frm ≤ r.tk ∧ r.tk ≤ 1099511627776 ∧ 0 ≤ r.node ∧ r.node < 16 ∧ 0 ≤ r.long ∧ r.long ≤ 65575 := by
  have := of_decide_eq_true h; omega
theorem all_range {snap : Int} : ∀ {l : List Rec} {frm : Int}, 0 ≤ frm → allV snap frm l = true → ∀ r ∈ l, 0 ≤ r.tk ∧ r.tk ≤ 1099511627776 ∧ 0 ≤ r.node ∧ r.node < 16 ∧ 0 ≤ r.long ∧ r.long ≤ 65575 ∧ r.data.length ≤ 65575
  | [], _, _, _ => fun r hr => by cases hr
  | x :: l, frm, h0, h => fun r hr => by
    rw [allV, Bool.and_eq_true] at h
    have h1 := may_range h.1
    have h2 := may_len h.1
    rcases List.mem_cons.1 hr with rfl | hr
    · exact ⟨by omega, by omega, by omega, by omega, by omega, by omega, h2⟩
    · exact all_range (by omega) h.2 r hr
theorem right_all {t : Tp} (h : rightV t = true) : ∀ r ∈ t.recs, 0 ≤ r.tk ∧ r.tk ≤ 1099511627776 ∧ 0 ≤ r.node ∧ r.node < 16 ∧ 0 ≤ r.long ∧ r.long ≤ 65575 ∧ r.data.length ≤ 65575 := by
  unfold rightV at h
  rw [Bool.and_eq_true] at h
  exact all_range (by omega) h.2
theorem hexs_len (l : List UInt8) : (l.flatMap hexC).length = 2 * l.length := by
  induction l with
  | nil => rfl
  | cons x l ih => rw [List.flatMap_cons, List.length_append, ih]; simp [hexC]; omega
theorem front_le {r : Rec} (h : 0 ≤ r.tk ∧ r.tk ≤ 1099511627776 ∧ 0 ≤ r.node ∧ r.node < 16 ∧ 0 ≤ r.long ∧ r.long ≤ 65575 ∧ r.data.length ≤ 65575) : (frontT r).length ≤ 60 := by
  have h1 := textB_le r.tk.toNat (by omega)
  have h2 := textB_le r.node.toNat (by omega)
  have h3 := textB_le r.long.toNat (by omega)
  have h4 : (wayV r.out).length ≤ 5 := by unfold wayV; split <;> decide
  unfold frontT
  simp only [List.length_append, List.length_cons, List.length_nil]
  omega
theorem lines_le : ∀ (l : List Rec), (∀ r ∈ l, 0 ≤ r.tk ∧ r.tk ≤ 1099511627776 ∧ 0 ≤ r.node ∧ r.node < 16 ∧ 0 ≤ r.long ∧ r.long ≤ 65575 ∧ r.data.length ≤ 65575) → (linesT l).length ≤ 131300 * l.length
  | [], _ => by simp [linesT]
  | r :: l, h => by
    have ih := lines_le l fun x hx => h x (List.mem_cons_of_mem _ hx)
    have h1 := front_le (h r List.mem_cons_self)
    have h2 := (h r List.mem_cons_self).2.2.2.2.2.2
    unfold linesT at ih ⊢
    rw [List.flatMap_cons, List.length_append]
    have h3 : (lineT r ++ [10]).length = (frontT r).length + 2 * r.data.length + 1 := by unfold lineT; rw [List.length_append, List.length_append, hexs_len]; simp
    rw [h3, List.length_cons]
    omega
theorem lines_take {l : List Rec} {k : Nat} {r : Rec} (hr : l[k]? = some r) : linesT (l.take (k + 1)) = linesT (l.take k) ++ (lineT r ++ [10]) := by
  unfold linesT
  rw [List.take_add_one, hr]; simp
theorem head_S (ts : List UInt8) : ((⟨#[116, 97, 112, 101, 32]⟩ : ByteArray) ++ S ts) ++ ⟨#[10]⟩ = S ([116, 97, 112, 101, 32] ++ (ts ++ [10])) := by
  rw [show (⟨#[116, 97, 112, 101, 32]⟩ : ByteArray) = S [116, 97, 112, 101, 32] from rfl, show (⟨#[10]⟩ : ByteArray) = S [10] from rfl]
  simp only [S_app, List.append_assoc]
theorem hex_fin : ∀ q : Fin 16, ((⟨#[48, 49, 50, 51, 52, 53, 54, 55, 56, 57, 97, 98, 99, 100, 101, 102]⟩ : ByteArray)[q.val]'(by have := q.isLt; exact this)) = digC q.val := by decide
theorem hex_at (q : Nat) (hb : q < (⟨#[48, 49, 50, 51, 52, 53, 54, 55, 56, 57, 97, 98, 99, 100, 101, 102]⟩ : ByteArray).size) : ((((⟨#[48, 49, 50, 51, 52, 53, 54, 55, 56, 57, 97, 98, 99, 100, 101, 102]⟩ : ByteArray)[q]'hb).toNat : Nat) : Int) = ((digC q).toNat : Int) := by
  rw [hex_fin ⟨q, hb⟩]
theorem front_S (t1 t2 wy t3 : List UInt8) : (((((S t1 ++ ⟨#[32]⟩) ++ S t2) ++ S wy) ++ S t3) ++ ⟨#[32, 58]⟩ : ByteArray) = S (t1 ++ ([32] ++ (t2 ++ (wy ++ (t3 ++ [32, 58]))))) := by
  rw [show (⟨#[32]⟩ : ByteArray) = S [32] from rfl, show (⟨#[32, 58]⟩ : ByteArray) = S [32, 58] from rfl]
  simp only [S_app, List.append_assoc]
set_option maxRecDepth 100000 in
set_option maxHeartbeats 4000000 in
theorem print_calls (t : Tp) (p : Option Go.Addr) (c : Nat) (w : World) (hp : RAt w p t.recs) (hg : Gl w) : Calls Tryz.prog 13 #[.agg #[.int .i64 t.snap, .slice p t.recs.length c]] w fun e w' =>
    e = .returned (.tuple #[.string (S (printV t).1), .int .i64 (printV t).2]) ∧ Below w.heap.size w w' := by
  have HP := Lib.hid hp
  have HG := Lib.hid hg
  have HRI := Lib.hid (fun w' (h : Below w.heap.size w w') => right_calls t p c w' (hp.later h))
  cases hm : rightV t
  · have HM : Hid (printV t = ([], 1)) := Lib.hid (by unfold printV; rw [hm]; rfl)
    rw [hm] at HRI
    clear hp hm hg
    go_enter Tryz.func13, Tryz.ntmps13
    go_upto_region 1 with fail
    refine wp_named fun W hW => ?_
    obtain ⟨bk, BW, sW⟩ := box1 hW
    have c0 : W.cell? ⟨w.heap.size, 0, none⟩ = some (.int .i64 t.snap) := bk.out.cell _
    have c1 : W.cell? ⟨w.heap.size, 1, none⟩ = some (.slice p t.recs.length c) := bk.out.cell _
    clear hW
    go_wp2_with (go_at_call 16; refine (HRI.out _ BW.out).mono ?_; rintro e W2 ⟨rfl, hB2⟩)
    go_ret2
    exact ⟨by rw [HM.out]; rfl, (keep BW hB2).out⟩
  · have HM : Hid (printV t = (printT t, 0)) := Lib.hid (by unfold printV; rw [hm]; rfl)
    rw [hm] at HRI
    have hb32 := right_len hm
    have HRN := Lib.hid (right_all hm)
    have HSN := Lib.hid (right_snap hm)
    obtain ⟨n, hn⟩ : ∃ n, t.recs.length = n := ⟨_, rfl⟩
    have HN := Lib.hid hn
    obtain ⟨sn, hsn⟩ : ∃ n, t.snap = n := ⟨_, rfl⟩
    have HSE := Lib.hid hsn
    rw [hn, hsn] at HRI
    rw [hn, hsn]
    rw [hn] at hb32
    clear hp hm hn hsn hg
    go_enter Tryz.func13, Tryz.ntmps13
    go_upto_region 1 with fail
    refine wp_named fun W hW => ?_
    obtain ⟨bk, BW, sW⟩ := box1 hW
    have c0 : W.cell? ⟨w.heap.size, 0, none⟩ = some (.int .i64 sn) := bk.out.cell _
    have c1 : W.cell? ⟨w.heap.size, 1, none⟩ = some (.slice p n c) := bk.out.cell _
    clear hW
    go_upto_region 3 with (go_at_call 16; refine (HRI.out _ BW.out).mono ?_; rintro e W2 ⟨rfl, hB2⟩)
    have BW := keep BW hB2
    have bk := Lib.hid (bk.out.later hB2 bk.out.lt)
    have HBB := Lib.hid bk.out.lt
    clear hB2 c0 c1 sW HRI
    go_upto_region 4 with fail
    refine wp_named fun X hX => ?_
    have HBD : Hid (Bd (W2.heap.size + 1) W2.heap.size [] X) := Lib.hid (by rw [hX]; exact Bd.new W2 _ (by omega))
    have hBX : Below W2.heap.size W2 X := by rw [hX]; exact (Below.refl _ _).alloc (Nat.le_refl _) _
    have HXS : Hid (X.heap.size = W2.heap.size + 1) := Lib.hid (by rw [hX]; simp)
    have HBX := keep BW hBX
    have HGX := Lib.hid (HG.out.later HBX.out)
    have bk := Lib.hid (bk.out.later hBX bk.out.lt)
    obtain ⟨b, hb⟩ : ∃ b, W2.heap.size = b := ⟨_, rfl⟩
    rw [hb] at HBD HXS HBB ⊢
    clear hX hBX hb BW
    have c0 : X.cell? ⟨w.heap.size, 0, none⟩ = some (.int .i64 sn) := bk.out.cell _
    have hsn0 : sn = (sn.toNat : Int) := by have := HSN.out; have := HSE.out; omega
    have hsn1 : sn.toNat ≤ 65575 := by have := HSN.out; have := HSE.out; omega
    have HIT := Lib.hid (itoa_calls sn.toNat sn hsn0 (by omega) X HGX.out)
    obtain ⟨ts, hts⟩ : ∃ l, textB 10 sn.toNat = l := ⟨_, rfl⟩
    have HTS := Lib.hid hts
    have HTL : Hid (ts.length ≤ 13) := Lib.hid (by rw [← hts]; exact textB_le _ (by omega))
    rw [hts] at HIT
    clear hts hsn0 hsn1
    have hz : (S ts).size ≤ 13 := by rw [S_size]; exact HTL.out
    have HZ : Hid (([] : List UInt8).length + (S ([116, 97, 112, 101, 32] ++ (ts ++ [10]))).size ≤ 140737488355328) := Lib.hid (by have := HTL.out; rw [S_size]; simp; omega)
    have HHD := Lib.hid (head_S ts)
    go_upto_region 5 with (first | (go_at_call 37; refine HIT.out.mono ?_; rintro e V ⟨rfl, hB1⟩) | (go_at_call 36; refine (write_calls (b + 1) b [] _ V (HBD.out.later hB1) (by rw [HHD.out]; exact HZ.out) (by have := hB1.size; have := HXS.out; omega)).mono ?_; rintro e V2 ⟨rfl, hD2, hBu2, hK2⟩))
    have HD : Hid (Bd (b + 1) b (headT t) V2) := Lib.hid (by rw [HHD.out, S_list] at hD2; unfold headT; rw [HSE.out, HTS.out]; exact hD2)
    have bk := Lib.hid (hK2 _ _ _ (by decide) (by have := HBB.out; omega) (bk.out.later hB1 bk.out.lt))
    have HBV : Hid (Below w.heap.size w V2) := Lib.hid ((keep HBX hB1).out.trans (hBu2.below.mono (Nat.le_of_lt HBB.out)))
    have HSV : Hid (b + 1 ≤ V2.heap.size) := Lib.hid (by have := hBu2.below.size; have := hB1.size; have := HXS.out; omega)
    have HGV := Lib.hid (HG.out.later HBV.out)
    have c1 : V2.cell? ⟨w.heap.size, 1, none⟩ = some (.slice p n c) := bk.out.cell _
    clear hB1 hD2 hBu2 hK2 HHD hz HZ HIT HTS HTL HBD HXS HGX HBX c0
    go_upto_region 6 with fail
    clear c1
    go_loopw [6, 7, 9, 22] (fun _ _ _ u22 wr => ∃ k : Nat, u22 = .int .i64 k ∧ k ≤ n ∧ Hid (Bd (b + 1) b (headT t ++ linesT (t.recs.take k)) wr) ∧ Hid (But b (b + 1) V2 wr)) (fun _ _ _ u22 _ => n - (intOf u22).toNat)
    case atStart => exact ⟨0, rfl, Nat.zero_le _, Lib.hid (by simpa [linesT] using HD.out), Lib.hid (But.of (Below.refl _ _) (by omega))⟩
    case round =>
      clear HD
      obtain ⟨k, rfl, hk, HD, HBU⟩ := hrel
      have HBW : Hid (Below w.heap.size w wr) := Lib.hid (HBV.out.trans (HBU.out.below.mono (Nat.le_of_lt HBB.out)))
      have HSW : Hid (b + 1 ≤ wr.heap.size) := Lib.hid (Nat.le_trans HSV.out HBU.out.below.size)
      by_cases hlt : k < n
      · have x1 : decide ((k : Int) < (n : Int)) = true := decide_eq_true (by omega)
        have x1' : decide (k < n) = true := decide_eq_true hlt
        have HK : Hid (k < t.recs.length) := Lib.hid (by have := HN.out; omega)
        obtain ⟨r, hr⟩ : ∃ r, t.recs[k]? = some r := ⟨_, List.getElem?_eq_getElem HK.out⟩
        have HRR := Lib.hid hr
        have HRG := Lib.hid (HRN.out r (List.mem_of_getElem? hr))
        obtain ⟨g, o, rfl, hgl, pd, cd, hr0, hbd, hsl⟩ := own_cellsB HP.out hr
        have hr5 : wr.rangeAt g (o + k * 5) (recC r (.slice pd r.data.length cd)) := fun j v hv => (HBW.out.cell (by exact hgl)).trans (hr0 j v hv)
        have HDT := Lib.hid hbd
        clear hr0
        have HLK : Hid ((headT t ++ linesT (t.recs.take k)).length ≤ 100 + 131300 * 4096) := Lib.hid (by
          have h1 := lines_le (t.recs.take k) fun x hx => HRN.out x (List.mem_of_mem_take hx)
          have h2 := textB_le t.snap.toNat (by have := HSN.out; omega)
          rw [List.length_take] at h1
          rw [List.length_append]
          unfold headT
          simp only [List.length_append, List.length_cons, List.length_nil]
          omega)
        clear hr hbd hgl hsl
        obtain ⟨L, hL⟩ : ∃ l, headT t ++ linesT (t.recs.take k) = l := ⟨_, rfl⟩
        have HL := Lib.hid hL
        rw [hL] at HD HLK
        obtain ⟨tk, nd, ou, lg, dt⟩ := r
        have d0 : wr.cell? ⟨g, o + k * 5, none⟩ = some (.int .i64 tk) := hr5 0 _ rfl
        have d1 : wr.cell? ⟨g, o + k * 5 + 1, none⟩ = some (.int .i64 nd) := hr5 1 _ rfl
        have d2 : wr.cell? ⟨g, o + k * 5 + 2, none⟩ = some (.bool ou) := hr5 2 _ rfl
        have d3 : wr.cell? ⟨g, o + k * 5 + 3, none⟩ = some (.int .i64 lg) := hr5 3 _ rfl
        have d4 : wr.cell? ⟨g, o + k * 5 + 4, none⟩ = some (.slice pd dt.length cd) := hr5 4 _ rfl
        obtain ⟨dn, hdn⟩ : ∃ q, dt.length = q := ⟨_, rfl⟩
        have HDN := Lib.hid hdn
        rw [hdn] at d4
        clear hr5 hdn hL
        go_upto_region 8 with fail
        refine wp_named fun V hV => ?_
        obtain ⟨b3, B3, s3⟩ := box1 hV
        have HD := Lib.hid (HD.out.later B3.out)
        have HBU := Lib.hid (HBU.out.trans (But.of (B3.out.mono HSW.out) (by omega)))
        have HBW := keep HBW B3.out
        have HGR := Lib.hid (HG.out.later HBW.out)
        have HSW2 := Lib.hid (Nat.le_trans HSW.out B3.out.size)
        obtain ⟨G, hG⟩ : ∃ g, wr.heap.size = g := ⟨_, rfl⟩
        have HGB : Hid (G ≠ b) := Lib.hid (by have := HSW.out; omega)
        rw [hG] at b3 s3 ⊢
        clear hV hG d0 d1 d2 d3 d4 B3 s3
        have e2 : V.cell? ⟨G, 2, none⟩ = some (.bool ou) := b3.out.cell _
        go_upto_if 27 with fail
        go_cut [7] (fun u wx => u = .string (S (wayV ou)) ∧ V = wx)
        case first =>
          cases ou
          all_goals
            go_wp2
            go_meet
            case rel => exact ⟨rfl, rfl⟩
        case rest =>
        obtain ⟨rfl, rfl⟩ := hcut
        clear e2
        go_upto_region 11 with fail
        obtain ⟨n1, n2, n3, n4, n5, n6, n7⟩ : 0 ≤ tk ∧ tk ≤ 1099511627776 ∧ 0 ≤ nd ∧ nd < 16 ∧ 0 ≤ lg ∧ lg ≤ 65575 ∧ dt.length ≤ 65575 := HRG.out
        have HI1 := Lib.hid (fun z : Later V => format_calls tk.toNat tk (by omega) (by omega) z.val (HGR.out.later z.property))
        have HI2 := Lib.hid (fun z : Later V => itoa_calls nd.toNat nd (by omega) (by omega) z.val (HGR.out.later z.property))
        have HI3 := Lib.hid (fun z : Later V => itoa_calls lg.toNat lg (by omega) (by omega) z.val (HGR.out.later z.property))
        have HFT : Hid (frontT ⟨tk, nd, ou, lg, dt⟩ = textB 10 tk.toNat ++ ([32] ++ (textB 10 nd.toNat ++ (wayV ou ++ (textB 10 lg.toNat ++ [32, 58]))))) := Lib.hid rfl
        have HFL := Lib.hid (front_le HRG.out)
        have hl1 := textB_le tk.toNat (by omega)
        have hl2 := textB_le nd.toNat (by omega)
        have hl3 := textB_le lg.toNat (by omega)
        have hl4 : (wayV ou).length ≤ 5 := by unfold wayV; split <;> decide
        obtain ⟨t1, ht1⟩ : ∃ l, textB 10 tk.toNat = l := ⟨_, rfl⟩
        obtain ⟨t2, ht2⟩ : ∃ l, textB 10 nd.toNat = l := ⟨_, rfl⟩
        obtain ⟨t3, ht3⟩ : ∃ l, textB 10 lg.toNat = l := ⟨_, rfl⟩
        obtain ⟨wy, hwy⟩ : ∃ l, wayV ou = l := ⟨_, rfl⟩
        rw [ht1] at HI1 HFT hl1
        rw [ht2] at HI2 HFT hl2
        rw [ht3] at HI3 HFT hl3
        rw [hwy] at HFT hl4 ⊢
        rw [← S_size] at hl1 hl2 hl3 hl4
        have z1 : ¬ 9223372036854775807 < (S t1).size + 1 := by omega
        have z2 : ¬ 9223372036854775807 < (S t1).size + 1 + (S t2).size := by omega
        have z3 : ¬ 9223372036854775807 < (S t1).size + 1 + (S t2).size + (S wy).size := by omega
        have z4 : ¬ 9223372036854775807 < (S t1).size + 1 + (S t2).size + (S wy).size + (S t3).size := by omega
        have z5 : ¬ 9223372036854775807 < (S t1).size + 1 + (S t2).size + (S wy).size + (S t3).size + 2 := by omega
        have c0 : ∀ z : Later V, z.val.cell? ⟨G, 0, none⟩ = some (.int .i64 tk) := Later.cell (b3.out.cell _)
        have c1 : ∀ z : Later V, z.val.cell? ⟨G, 1, none⟩ = some (.int .i64 nd) := Later.cell (b3.out.cell _)
        have c3 : ∀ z : Later V, z.val.cell? ⟨G, 3, none⟩ = some (.int .i64 lg) := Later.cell (b3.out.cell _)
        clear ht1 ht2 ht3 hwy n1 n2 n3 n4 n5 n6 n7 hl1 hl2 hl3 hl4
        try simp only [Act.put]
        refine region_later_tail 15 (by kernel_rfl) (by kernel_rfl) ?_
        simp only [List.take_succ_cons, List.take_zero, List.drop_succ_cons, List.drop_zero]
        repeat (first | go_big_quiet_skip | (go_big_quiet_want; first | (go_big_quiet_op; first | go_big_quiet_on | go_big_quiet_call ((first | (go_at_call 38; exact calls_later (HI1.out _)) | (go_at_call 37; first | (with_reducible exact calls_later (HI2.out _)) | (with_reducible exact calls_later (HI3.out _))))))))
        refine wpQuiet_nil ?_
        intro z hz
        rw [front_S, ← HFT.out]
        have b3 := Lib.hid (b3.out.later hz b3.out.lt)
        have HDz := Lib.hid (HD.out.later hz)
        have HBU := Lib.hid (HBU.out.trans (But.of (hz.mono HSW2.out) (by omega)))
        have HSZ := Lib.hid (Nat.le_trans HSW2.out hz.size)
        have HBZ := keep HBW hz
        have HWR := Lib.hid (write_calls (b + 1) b L (S (frontT ⟨tk, nd, ou, lg, dt⟩)) z HDz.out (by have := HLK.out; have := HFL.out; rw [S_size]; omega) HSZ.out)
        clear hz c0 c1 c3 z1 z2 z3 z4 z5 HI1 HI2 HI3 HFT HD HGR
        go_upto_region 12 with (go_at_call 36; refine HWR.out.mono ?_; rintro e V4 ⟨rfl, hD4, hB4, hK4⟩)
        rw [S_list] at hD4
        have b3 := Lib.hid (hK4 _ _ _ (by decide) HGB.out b3.out)
        have HD4 := Lib.hid hD4
        have HBU := Lib.hid (HBU.out.trans hB4)
        have HS4 : Hid (b + 1 ≤ V4.heap.size) := Lib.hid (Nat.le_trans HSZ.out hB4.below.size)
        have e4 : V4.cell? ⟨G, 4, none⟩ = some (.slice pd dn cd) := b3.out.cell _
        clear hD4 hB4 hK4 HWR HDz
        have HDL : Hid (dn ≤ 65575) := Lib.hid (by rw [← HDN.out]; exact HRG.out.2.2.2.2.2.2)
        obtain ⟨L1, hL1⟩ : ∃ l, L ++ frontT ⟨tk, nd, ou, lg, dt⟩ = l := ⟨_, rfl⟩
        have HL1 := Lib.hid hL1
        have HL1n : Hid (L1.length ≤ 160 + 131300 * 4096) := Lib.hid (by have := HLK.out; have := HFL.out; rw [← hL1, List.length_append]; omega)
        rw [hL1] at HD4
        clear hL1
        have hdn5 : dn ≤ 65575 := HDL.out
        go_upto_region 13 with fail
        clear e4
        go_loopw [9, 47] (fun _ u47 wq => ∃ j : Nat, u47 = .int .i64 j ∧ j ≤ dn ∧ Hid (Bd (b + 1) b (L1 ++ (dt.take j).flatMap hexC) wq) ∧ Hid (But b (b + 1) V2 wq)) (fun _ u47 _ => dn - (intOf u47).toNat)
        case atStart => exact ⟨0, rfl, Nat.zero_le _, Lib.hid (by simpa using HD4.out), HBU⟩
        case round =>
          obtain ⟨j, rfl, hj, HD, HBU⟩ := hrel
          have HBW : Hid (Below w.heap.size w wr) := Lib.hid (HBV.out.trans (HBU.out.below.mono (Nat.le_of_lt HBB.out)))
          have HSW : Hid (b + 1 ≤ wr.heap.size) := Lib.hid (Nat.le_trans HSV.out HBU.out.below.size)
          obtain ⟨M, hM⟩ : ∃ m, L1 ++ (dt.take j).flatMap hexC = m := ⟨_, rfl⟩
          have HM0 := Lib.hid hM
          have HML : Hid (M.length ≤ 131310 + 160 + 131300 * 4096) := Lib.hid (by have := HL1n.out; rw [← hM, List.length_append, hexs_len, List.length_take]; omega)
          rw [hM] at HD
          clear hM
          by_cases hlj : j < dn
          · have x1 : decide ((j : Int) < (dn : Int)) = true := decide_eq_true (by omega)
            have x1' : decide (j < dn) = true := decide_eq_true hlj
            have HJ : Hid (j < dt.length) := Lib.hid (by have := HDN.out; omega)
            obtain ⟨x, hx⟩ : ∃ x, dt[j]? = some x := ⟨_, List.getElem?_eq_getElem HJ.out⟩
            have HX := Lib.hid hx
            have hap := HDT.out.later HBW.out
            rcases hap with hap | ⟨g2, o2, rfl, hgl2, hh⟩
            · have := HJ.out; rw [hap] at this; exact absurd this (Nat.not_lt_zero _)
            have cx : wr.cell? ⟨g2, o2 + j, none⟩ = some (.int .u8 x.toNat) := by
              rw [hh j (by rw [S_size]; exact HJ.out)]
              show some (Value.int .u8 ((dt[j]'HJ.out).toNat : Int)) = _
              rw [List.getElem?_eq_getElem HJ.out] at hx
              rw [Option.some.inj hx]
            have hx1 : x.toNat < 256 := x.toNat_lt
            obtain ⟨xn, hxn⟩ : ∃ q, x.toNat = q := ⟨_, rfl⟩
            have HXN := Lib.hid hxn
            rw [hxn] at cx hx1
            clear hx hh hgl2 hxn
            go_upto_region 16 with (go_at_call 39; refine (byte_calls (b + 1) b M (digC (xn / 16)) _ (hex_at _ _) wr HD.out (by have := HML.out; omega) HSW.out).mono ?_; rintro e V5 ⟨rfl, hD5, hB5, hK5⟩)
            have HD5 := Lib.hid hD5
            have HBU := Lib.hid (HBU.out.trans hB5)
            have HS5 : Hid (b + 1 ≤ V5.heap.size) := Lib.hid (Nat.le_trans HSW.out hB5.below.size)
            clear hD5 hB5 hK5 HD cx
            go_upto_region 17 with (go_at_call 39; refine (byte_calls (b + 1) b (M ++ [digC (xn / 16)]) (digC (xn % 16)) _ (hex_at _ _) V5 HD5.out (by have := HML.out; rw [List.length_append]; simp; omega) HS5.out).mono ?_; rintro e V6 ⟨rfl, hD6, hB6, hK6⟩)
            have HN6 : Hid ((M ++ [digC (xn / 16)]) ++ [digC (xn % 16)] = L1 ++ (dt.take (j + 1)).flatMap hexC) := Lib.hid (by
              rw [← HM0.out, List.take_add_one, HX.out]
              simp [hexC, HXN.out])
            have HD6 : Hid (Bd (b + 1) b (L1 ++ (dt.take (j + 1)).flatMap hexC) V6) := Lib.hid (by rw [← HN6.out]; exact hD6)
            have HBU := Lib.hid (HBU.out.trans hB6)
            clear hD6 hB6 hK6 HD5
            go_wp2
            exact ⟨⟨j + 1, by go_num, by omega, HD6, HBU⟩, by simp [intOf]; omega⟩
          · have x1 : decide ((j : Int) < (dn : Int)) = false := decide_eq_false (by omega)
            have x1' : decide (j < dn) = false := decide_eq_false hlj
            have HME : Hid (M ++ [10] = headT t ++ linesT (t.recs.take (k + 1))) := Lib.hid (by
              rw [lines_take HRR.out, ← HM0.out, ← HL1.out, ← HL.out, show dt.take j = dt from List.take_of_length_le (by have := HDN.out; omega)]
              unfold lineT
              simp)
            clear hlj
            go_upto_region 19 with (go_at_call 39; refine (byte_calls (b + 1) b M 10 _ rfl wr HD.out (by have := HML.out; omega) HSW.out).mono ?_; rintro e V5 ⟨rfl, hD5, hB5, hK5⟩)
            have HD5 : Hid (Bd (b + 1) b (headT t ++ linesT (t.recs.take (k + 1))) V5) := Lib.hid (by rw [← HME.out]; exact hD5)
            have HBU := Lib.hid (HBU.out.trans hB5)
            clear hD5 hB5 hK5
            go_wp2
            exact ⟨⟨k + 1, by go_num, by omega, HD5, HBU⟩, by simp [intOf]; omega⟩
      · have x1 : decide ((k : Int) < (n : Int)) = false := decide_eq_false (by omega)
        have x1' : decide (k < n) = false := decide_eq_false hlt
        have HTL : Hid (headT t ++ linesT (t.recs.take k) = printT t) := Lib.hid (by rw [List.take_of_length_le (by have := HN.out; omega)]; rfl)
        have HF : Hid (Calls Tryz.prog 40 #[.pointer (some ⟨b, 0, none⟩)] wr fun e w' => e = .returned (.string (S (printT t))) ∧ Below b wr w') := Lib.hid (by
          have h := HD.out
          rw [HTL.out] at h
          exact Tryz.Builder_String_any b b (printT t) wr h.is (by have := h.lt; omega))
        clear hlt
        go_wp2_with (go_at_call 40; refine HF.out.mono ?_; rintro e W5 ⟨rfl, hB5⟩)
        go_ret2
        exact ⟨by rw [HM.out]; rfl, HBW.out.trans (hB5.mono (Nat.le_of_lt HBB.out))⟩
end Go.Proofs.YtpciggnanlflkaaGreatDoor.Ad
