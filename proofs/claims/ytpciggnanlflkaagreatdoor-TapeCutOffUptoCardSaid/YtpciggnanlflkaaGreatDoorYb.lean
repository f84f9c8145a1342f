/- A tape's text there and back: plain. No program. -/
import Derived.Test.YtpciggnanlflkaaGreatDoorYa
import Derived.Test.YtpciggnanlflkaaGreatDoorXg
namespace Go.Proofs.YtpciggnanlflkaaGreatDoor.Ad
set_option linter.unusedVariables false
set_option linter.unusedSimpArgs false
theorem digC_dec : ∀ d : Fin 10, (digC d.val).toNat = 48 + d.val := by decide +kernel
theorem digC_hex : ∀ d : Fin 16, hexD (digC d.val) = some d.val := by decide +kernel
theorem digC_plain : ∀ d : Fin 16, digC d.val ≠ 32 ∧ digC d.val ≠ 10 ∧ digC d.val ≠ 58 := by decide +kernel
theorem digC_back : ∀ n : Fin 256, ∀ d : Fin 16, hexD (UInt8.ofNat n.val) = some d.val → digC d.val = UInt8.ofNat n.val := by decide +kernel
theorem hexD_is {c : UInt8} {d : Nat} (h : hexD c = some d) : digC d = c := by
  have h1 := hexD_lt h
  have h2 := digC_back ⟨c.toNat, c.toNat_lt⟩ ⟨d, h1⟩
  simp only [UInt8.ofNat_toNat] at h2
  exact h2 h
theorem digsV_app : ∀ (l m : List UInt8) (a : Nat), digsV a (l ++ m) = (digsV a l).bind fun b => digsV b m
  | [], m, a => rfl
  | c :: l, m, a => by
    rw [List.cons_append, digsV, digsV]
    by_cases h : c.toNat < 48 ∨ 57 < c.toNat
    · rw [if_pos h, if_pos h]; rfl
    · rw [if_neg h, if_neg h]; exact digsV_app l m _
theorem digs_one (a d : Nat) (h : d < 10) : digsV a [digC d] = some (10 * a + d) := by
  have h1 := digC_dec ⟨d, h⟩
  simp only at h1
  rw [digsV, if_neg (by omega), digsV, h1]
  congr 1; omega
theorem digs_text (n : Nat) : digsV 0 (textB 10 n) = some n := by
  induction n using Nat.strongRecOn with
  | _ n ih =>
    by_cases h : n < 10
    · rw [textB_one h, digs_one 0 n h]; simp
    · rw [textB_more (by omega) (by omega), digsV_app, ih _ (by omega)]
      show digsV (n / 10) [digC (n % 10)] = some n
      rw [digs_one _ _ (by omega)]
      congr 1; omega
theorem text_ne (b n : Nat) : textB b n ≠ [] := by
  rw [textB]; split <;> simp
theorem text_head {n : Nat} (h : 0 < n) : (textB 10 n).head? ≠ some 48 := by
  induction n using Nat.strongRecOn with
  | _ n ih =>
    by_cases h1 : n < 10
    · rw [textB_one h1]
      have h2 := digC_dec ⟨n, h1⟩
      simp only at h2
      intro e
      simp only [List.head?_cons, Option.some.injEq] at e
      rw [e] at h2
      have : (48 : UInt8).toNat = 48 := rfl
      omega
    · rw [textB_more (by omega) (by omega)]
      have h2 := ih (n / 10) (by omega) (by omega)
      cases e : textB 10 (n / 10) with
      | nil => exact absurd e (text_ne _ _)
      | cons c l => rw [e] at h2; simpa using h2
theorem dec_text {n : Nat} (h : n ≤ 1099511627776) : decV (textB 10 n) = some n := by
  unfold decV
  rw [if_neg, digs_text]
  rintro (h1 | h1 | ⟨h1, h2⟩)
  · exact text_ne _ _ h1
  · have := textB_le n h; omega
  · by_cases h0 : n = 0
    · subst h0; exact h2 (by rw [textB_one (by omega)]; rfl)
    · exact text_head (by omega) h1
theorem digs_zero : ∀ (l : List UInt8) (a n : Nat), digsV a l = some n → a ≤ n
  | [], a, n, h => by rw [digsV] at h; injection h with h; omega
  | c :: l, a, n, h => by
    rw [digsV] at h
    split at h
    · cases h
    · have := digs_zero l _ n h; omega
theorem digs_back : ∀ (k : Nat) (l : List UInt8) (n : Nat), l.length = k → l ≠ [] → (l.head? = some 48 → l = [48]) → digsV 0 l = some n → textB 10 n = l
  | 0, l, n, hk, h0, _, _ => absurd (List.eq_nil_of_length_eq_zero hk) h0
  | k + 1, l, n, hk, h0, hz, h => by
    obtain ⟨m, c, rfl⟩ : ∃ m c, l = m ++ [c] := ⟨l.dropLast, l.getLast h0, (List.dropLast_concat_getLast h0).symm⟩
    rw [digsV_app] at h
    cases hm : digsV 0 m with
    | none => rw [hm] at h; cases h
    | some a =>
      rw [hm] at h
      simp only [Option.bind_some] at h
      rw [digsV] at h
      split at h
      · cases h
      · next hc =>
        rw [digsV] at h
        injection h with h
        have hcd : digC (c.toNat - 48) = c := by
          have h2 := digC_dec ⟨c.toNat - 48, by omega⟩
          simp only at h2
          exact UInt8.toNat_inj.1 (by omega)
        by_cases he : m = []
        · subst he
          rw [digsV] at hm
          injection hm with hm
          subst hm
          rw [textB_one (by omega), ← h, Nat.mul_zero, Nat.zero_add, hcd]; rfl
        · have hm48 : m.head? ≠ some 48 := by
            intro e
            cases m with
            | nil => exact he rfl
            | cons x m =>
              have := hz (by simpa using e)
              simp at this
          have ih := digs_back k m a (by simpa using hk) he (fun e => absurd e hm48) hm
          have ha : 0 < a := by
            rcases Nat.eq_zero_or_pos a with e | e
            · subst e
              rw [textB_one (by omega)] at ih
              exact absurd (by rw [← ih]; rfl) hm48
            · exact e
          rw [textB_more (by omega) (by omega), show n / 10 = a by omega, ih, show n % 10 = c.toNat - 48 by omega, hcd]
theorem dec_back {l : List UInt8} {n : Nat} (h : decV l = some n) : textB 10 n = l := by
  unfold decV at h
  split at h
  · cases h
  · next hc =>
    refine digs_back _ l n rfl (fun e => hc (.inl e)) (fun e => ?_) h
    by_cases h2 : l = [48]
    · exact h2
    · exact absurd (.inr (.inr ⟨e, h2⟩)) hc
theorem hexC_pair (c : UInt8) : hexD (digC (c.toNat / 16)) = some (c.toNat / 16) ∧ hexD (digC (c.toNat % 16)) = some (c.toNat % 16) := by
  have := c.toNat_lt
  exact ⟨digC_hex ⟨c.toNat / 16, by omega⟩, digC_hex ⟨c.toNat % 16, by omega⟩⟩
theorem pairs_hex : ∀ l : List UInt8, pairsV (l.flatMap hexC) = some l
  | [] => rfl
  | c :: l => by
    obtain ⟨h1, h2⟩ := hexC_pair c
    rw [List.flatMap_cons]
    show pairsV (digC (c.toNat / 16) :: digC (c.toNat % 16) :: l.flatMap hexC) = _
    rw [pairsV, h1, h2]
    simp only
    rw [pairs_hex l, Option.map_some]
    congr 2
    have e : 16 * (c.toNat / 16) + c.toNat % 16 = c.toNat := by omega
    rw [e, UInt8.ofNat_toNat]
theorem pairs_back : ∀ (l d : List UInt8), pairsV l = some d → d.flatMap hexC = l
  | [], d, h => by rw [pairsV] at h; injection h with h; subst h; rfl
  | [_], d, h => by rw [pairsV] at h; cases h
  | a :: b :: l, d, h => by
    rw [pairsV] at h
    cases hx : hexD a with
    | none => rw [hx] at h; simp at h
    | some x =>
      cases hy : hexD b with
      | none => rw [hx, hy] at h; simp at h
      | some y =>
        rw [hx, hy] at h
        simp only at h
        cases hl : pairsV l with
        | none => rw [hl] at h; cases h
        | some e =>
          rw [hl, Option.map_some] at h
          injection h with h
          subst h
          have h1 := hexD_lt hx
          have h2 := hexD_lt hy
          have e1 : (UInt8.ofNat (16 * x + y)).toNat = 16 * x + y := by rw [UInt8.toNat_ofNat', Nat.mod_eq_of_lt (by omega)]
          rw [List.flatMap_cons, pairs_back l e hl]
          unfold hexC
          rw [e1, show (16 * x + y) / 16 = x by omega, show (16 * x + y) % 16 = y by omega, hexD_is hx, hexD_is hy]; rfl
/-- Texts without blanks and line ends. -/
def plainT (l : List UInt8) : Prop := ∀ c ∈ l, c ≠ 32 ∧ c ≠ 10
theorem text_plain (n : Nat) : plainT (textB 10 n) := by
  induction n using Nat.strongRecOn with
  | _ n ih =>
    by_cases h : n < 10
    · rw [textB_one h]
      intro c hc
      rw [List.mem_singleton.1 hc]
      have := digC_plain ⟨n, by omega⟩
      exact ⟨this.1, this.2.1⟩
    · rw [textB_more (by omega) (by omega)]
      intro c hc
      rcases List.mem_append.1 hc with hc | hc
      · exact ih _ (by omega) c hc
      · rw [List.mem_singleton.1 hc]
        have := digC_plain ⟨n % 10, by omega⟩
        exact ⟨this.1, this.2.1⟩
theorem hex_plain (l : List UInt8) : plainT (l.flatMap hexC) := fun c hc => by
  obtain ⟨x, _, hx⟩ := List.mem_flatMap.1 hc
  have := x.toNat_lt
  have h1 := digC_plain ⟨x.toNat / 16, by omega⟩
  have h2 := digC_plain ⟨x.toNat % 16, by omega⟩
  unfold hexC at hx
  rcases List.mem_cons.1 hx with rfl | hx
  · exact ⟨h1.1, h1.2.1⟩
  · rw [List.mem_singleton.1 hx]; exact ⟨h2.1, h2.2.1⟩
def inoutB (o : Bool) : List UInt8 := if o = true then outB else inB
theorem inout_plain (o : Bool) : plainT (inoutB o) := by cases o <;> (unfold plainT inoutB outB inB; decide)
theorem way_is (o : Bool) : wayV o = 32 :: (inoutB o ++ [32]) := by cases o <;> rfl
theorem line_is (r : Rec) : lineT r = textB 10 r.tk.toNat ++ 32 :: (textB 10 r.node.toNat ++ 32 :: (inoutB r.out ++ 32 :: (textB 10 r.long.toNat ++ 32 :: (58 :: r.data.flatMap hexC)))) := by
  unfold lineT frontT
  rw [way_is]
  simp only [List.append_assoc, List.cons_append, List.nil_append, List.singleton_append]
theorem blank_no {l : List UInt8} (h : plainT l) : (32 : UInt8) ∉ l := fun hc => (h 32 hc).1 rfl
theorem line_cuts (r : Rec) : cuts 32 (lineT r) = [textB 10 r.tk.toNat, textB 10 r.node.toNat, inoutB r.out, textB 10 r.long.toNat, 58 :: r.data.flatMap hexC] := by
  rw [line_is, cuts_at _ _ _ (blank_no (text_plain _)), cuts_at _ _ _ (blank_no (text_plain _)), cuts_at _ _ _ (blank_no (inout_plain _)), cuts_at _ _ _ (blank_no (text_plain _)), cuts_none]
  intro h
  rcases List.mem_cons.1 h with h | h
  · cases h
  · exact blank_no (hex_plain _) h
theorem inout_is (o : Bool) : isOut (inoutB o) = o ∧ (isIn (inoutB o) = false ∧ isOut (inoutB o) = false → False) := by cases o <;> (unfold isIn isOut inoutB; decide)
theorem record_line {r : Rec} (h : 0 ≤ r.tk ∧ r.tk ≤ 1099511627776 ∧ 0 ≤ r.node ∧ r.node < 16 ∧ 0 ≤ r.long ∧ r.long ≤ 65575 ∧ r.data.length ≤ 65575) : recordV (lineT r) = (r, true) := by
  obtain ⟨h1, h2⟩ := inout_is r.out
  unfold recordV
  rw [line_cuts]
  simp only
  rw [if_neg h2, h1, dec_text (by omega), dec_text (by omega), dec_text (by omega)]
  have hx : hexV (58 :: r.data.flatMap hexC) = some r.data := pairs_hex _
  rw [hx]
  obtain ⟨tk, nd, ou, lg, dt⟩ := r
  simp only [decA, Option.getD_some, Option.isSome_some, Bool.and_self] at *
  rw [show ((tk.toNat : Nat) : Int) = tk by omega, show ((nd.toNat : Nat) : Int) = nd by omega, show ((lg.toNat : Nat) : Int) = lg by omega]
theorem cuts_cons {c : UInt8} : ∀ {l p : List UInt8} {q : List (List UInt8)}, cuts c l = p :: q → c ∉ p ∧ ((q = [] ∧ l = p) ∨ ∃ m, q = cuts c m ∧ l = p ++ c :: m)
  | [], p, q, h => by
    rw [cuts] at h
    injection h with h1 h2
    subst h1; subst h2
    exact ⟨by simp, .inl ⟨rfl, rfl⟩⟩
  | x :: l, p, q, h => by
    rw [cuts] at h
    by_cases hx : x = c
    · rw [if_pos hx] at h
      injection h with h1 h2
      subst h1; subst h2
      exact ⟨by simp, .inr ⟨l, rfl, by rw [hx]; rfl⟩⟩
    · rw [if_neg hx] at h
      cases e : cuts c l with
      | nil => exact absurd e (cuts_ne c l)
      | cons p' q' =>
        rw [e] at h
        injection h with h1 h2
        subst h1; subst h2
        obtain ⟨k1, k2⟩ := cuts_cons e
        refine ⟨fun hm => ?_, ?_⟩
        · rcases List.mem_cons.1 hm with hm | hm
          · exact hx hm.symm
          · exact k1 hm
        · rcases k2 with ⟨e1, e2⟩ | ⟨m, e1, e2⟩
          · exact .inl ⟨e1, by rw [e2]⟩
          · exact .inr ⟨m, e1, by rw [e2]; rfl⟩
theorem cuts_step {c : UInt8} {l p p2 : List UInt8} {q : List (List UInt8)} (h : cuts c l = p :: p2 :: q) : ∃ m, cuts c m = p2 :: q ∧ l = p ++ c :: m := by
  obtain ⟨_, h2⟩ := cuts_cons h
  rcases h2 with ⟨e, _⟩ | ⟨m, e, e2⟩
  · cases e
  · exact ⟨m, e.symm, e2⟩
theorem cuts_last {c : UInt8} {l p : List UInt8} (h : cuts c l = [p]) : l = p := by
  obtain ⟨_, h2⟩ := cuts_cons h
  rcases h2 with ⟨_, e⟩ | ⟨m, e, _⟩
  · exact e
  · exact absurd e.symm (cuts_ne c m)
theorem isSome_get {α : Type} {o : Option α} (h : o.isSome = true) : ∃ x, o = some x := Option.isSome_iff_exists.1 h
theorem record_is {l : List UInt8} (h : (recordV l).2 = true) : lineT (recordV l).1 = l := by
  unfold recordV at h ⊢
  split at h
  · next a b c d e hc =>
    by_cases hio : isIn c = false ∧ isOut c = false
    · rw [if_pos hio] at h; cases h
    · rw [if_neg hio] at h ⊢
      simp only [Bool.and_eq_true] at h
      obtain ⟨ha, hb, hd, he⟩ := h
      obtain ⟨x, hx⟩ := isSome_get ha
      obtain ⟨y, hy⟩ := isSome_get hb
      obtain ⟨z, hz⟩ := isSome_get hd
      obtain ⟨u, hu⟩ := isSome_get he
      obtain ⟨m1, c1, e1⟩ := cuts_step hc
      obtain ⟨m2, c2, e2⟩ := cuts_step c1
      obtain ⟨m3, c3, e3⟩ := cuts_step c2
      obtain ⟨m4, c4, e4⟩ := cuts_step c3
      have e5 := cuts_last c4
      have hc5 : inoutB (isOut c) = c := by
        unfold inoutB
        by_cases ho : isOut c = true
        · rw [if_pos ho]; exact (of_decide_eq_true ho).symm
        · rw [if_neg ho]
          have ho : isOut c = false := by simpa using ho
          have hi : isIn c = true := by
            cases hi : isIn c with
            | true => rfl
            | false => exact absurd ⟨hi, ho⟩ hio
          exact (of_decide_eq_true hi).symm
      have hu2 : 58 :: u.flatMap hexC = e := by
        unfold hexV at hu
        split at hu
        · rw [pairs_back _ _ hu]
        · cases hu
      rw [line_is]
      simp only [hx, hy, hz, hu, decA, Option.getD_some, Int.toNat_natCast]
      rw [dec_back hx, dec_back hy, dec_back hz, hc5, hu2, e1, e2, e3, e4, e5]
  · cases h
theorem line_plain (r : Rec) : (10 : UInt8) ∉ lineT r := by
  rw [line_is]
  intro h
  rcases List.mem_append.1 h with h | h
  · exact (text_plain _ _ h).2 rfl
  rcases List.mem_cons.1 h with h | h
  · cases h
  rcases List.mem_append.1 h with h | h
  · exact (text_plain _ _ h).2 rfl
  rcases List.mem_cons.1 h with h | h
  · cases h
  rcases List.mem_append.1 h with h | h
  · exact (inout_plain _ _ h).2 rfl
  rcases List.mem_cons.1 h with h | h
  · cases h
  rcases List.mem_append.1 h with h | h
  · exact (text_plain _ _ h).2 rfl
  rcases List.mem_cons.1 h with h | h
  · cases h
  rcases List.mem_cons.1 h with h | h
  · cases h
  · exact (hex_plain _ _ h).2 rfl
theorem index_at {c : UInt8} : ∀ {A R : List UInt8}, c ∉ A → Lib.index (A ++ c :: R) [c] = A.length := by
  intro A
  induction A with
  | nil => intro R _; simp [Lib.index]
  | cons x A ih =>
    intro R h
    have h1 : x ≠ c := fun e => h (by rw [e]; exact List.mem_cons_self)
    have h2 := ih (R := R) fun hm => h (List.mem_cons_of_mem _ hm)
    have hp : [c].isPrefixOf (x :: (A ++ c :: R)) = false := by simp [List.isPrefixOf, Ne.symm h1]
    rw [List.cons_append, Lib.index, hp, h2]
    simp
theorem cut1_at {c : UInt8} {A R : List UInt8} (h : c ∉ A) : Lib.cut (A ++ c :: R) [c] = (A, R, true) := by
  unfold Lib.cut
  rw [index_at h, if_pos (by omega)]
  simp
theorem cut1_none {c : UInt8} {l : List UInt8} (h : c ∉ l) : Lib.cut l [c] = (l, [], false) := by
  unfold Lib.cut
  rw [index_none c l h, if_neg (by decide)]
/-- Records read line by line; the last piece is what stands behind the last end. -/
def goP (snap : Int) : Nat → Int → List Rec → List (List UInt8) → Tp × Int × Int
  | n, _, acc, [] => (⟨snap, acc⟩, 0, 0)
  | n, _, acc, [p] => if p = [] then (⟨snap, acc⟩, 0, 0) else (⟨0, []⟩, n, 2)
  | n, frm, acc, p :: q :: ps => if ((recordV p).2 && (decide (acc.length < 4096) && mayV (recordV p).1 snap frm)) = true then goP snap (n + 1) (recordV p).1.tk (acc ++ [(recordV p).1]) (q :: ps) else (⟨0, []⟩, n, 2)
theorem cuts_two {c : UInt8} (l : List UInt8) : (cuts c l = [l] ∧ c ∉ l) ∨ ∃ p m, c ∉ p ∧ l = p ++ c :: m ∧ cuts c l = p :: cuts c m := by
  by_cases h : c ∈ l
  · obtain ⟨p, m, rfl, hp⟩ := List.eq_append_cons_of_mem h
    exact .inr ⟨p, m, hp, rfl, cuts_at c p m hp⟩
  · exact .inl ⟨cuts_none c l h, h⟩
theorem goV_cuts (snap : Int) : ∀ (f n : Nat) (l : List UInt8) (frm : Int) (acc : List Rec), l.length < f → 2 ≤ n → goV f l n snap frm acc = goP snap n frm acc (cuts 10 l)
  | 0, n, l, frm, acc, hf, hn => absurd hf (Nat.not_lt_zero _)
  | f + 1, n, l, frm, acc, hf, hn => by
    by_cases hl : l = []
    · subst hl
      rw [goV_end _ _ (by omega)]; rfl
    · rcases cuts_two (c := 10) l with ⟨h1, h2⟩ | ⟨p, m, hp, rfl, h1⟩
      · rw [h1, goP, if_neg hl, goV_line f n (by omega) l l [] hl false (cut1_none h2) snap frm acc (recordV l).1 (recordV l).2 rfl]; rfl
      · rw [h1, goV_line f n (by omega) _ p m hl true (cut1_at hp) snap frm acc (recordV p).1 (recordV p).2 rfl, Bool.true_and]
        cases e : cuts 10 m with
        | nil => exact absurd e (cuts_ne 10 m)
        | cons q ps =>
          rw [goP, goV_cuts snap f (n + 1) m _ _ (by simp only [List.length_append, List.length_cons] at hf; omega) (by omega), e]
theorem parse_cuts (l : List UInt8) : parseV l = match cuts 10 l with
    | p :: q :: ps => if headOk p = true then goP (decA (decV (Lib.trimPrefix p tapeB))) 2 0 [] (q :: ps) else (⟨0, []⟩, 1, 2)
    | _ => (⟨0, []⟩, 1, 2) := by
  unfold parseV
  rcases cuts_two (c := 10) l with ⟨h1, h2⟩ | ⟨p, m, hp, rfl, h1⟩
  · rw [h1, goV_head _ l l [] false (cut1_none h2)]; rfl
  · rw [h1, goV_head _ _ p m true (cut1_at hp), Bool.true_and]
    cases e : cuts 10 m with
    | nil => exact absurd e (cuts_ne 10 m)
    | cons q ps =>
      simp only
      rw [goV_cuts _ _ 2 m _ _ (by simp only [List.length_append, List.length_cons]; omega) (by omega), e]
theorem prefix_app (a m : List UInt8) : Lib.hasPrefix (a ++ m) a = true ∧ Lib.trimPrefix (a ++ m) a = m := by
  have h : Lib.hasPrefix (a ++ m) a = true := by simp [Lib.hasPrefix]
  exact ⟨h, by simp [Lib.trimPrefix, h]⟩
theorem prefix_is {l a : List UInt8} (h : Lib.hasPrefix l a = true) : l = a ++ Lib.trimPrefix l a := by
  have h1 : a <+: l := by simpa [Lib.hasPrefix] using h
  obtain ⟨m, rfl⟩ := h1
  rw [(prefix_app a m).2]
def headL (snap : Int) : List UInt8 := tapeB ++ textB 10 snap.toNat
theorem headL_ok {s : Int} (h0 : 0 ≤ s) (h1 : s ≤ 65575) : headOk (headL s) = true ∧ decA (decV (Lib.trimPrefix (headL s) tapeB)) = s := by
  obtain ⟨e1, e2⟩ := prefix_app tapeB (textB 10 s.toNat)
  unfold headOk headL
  rw [e1, e2, dec_text (by omega)]
  have e : decA (some s.toNat) = s := by show ((s.toNat : Nat) : Int) = s; omega
  rw [e]
  exact ⟨by rw [decide_eq_true h1]; rfl, rfl⟩
theorem head_is {p : List UInt8} (h : headOk p = true) : headL (decA (decV (Lib.trimPrefix p tapeB))) = p ∧ 0 ≤ decA (decV (Lib.trimPrefix p tapeB)) ∧ decA (decV (Lib.trimPrefix p tapeB)) ≤ 65575 := by
  unfold headOk at h
  simp only [Bool.and_eq_true] at h
  obtain ⟨h1, h2, h3⟩ := h
  obtain ⟨n, hn⟩ := isSome_get h2
  have h4 := of_decide_eq_true h3
  rw [hn] at h4 ⊢
  have e : decA (some n) = (n : Int) := rfl
  rw [e] at h4 ⊢
  refine ⟨?_, by omega, h4⟩
  unfold headL
  rw [Int.toNat_natCast, dec_back hn, ← prefix_is h1]
theorem headL_plain (s : Int) : (10 : UInt8) ∉ headL s := by
  unfold headL
  intro h
  rcases List.mem_append.1 h with h | h
  · exact absurd h (by decide)
  · exact (text_plain _ _ h).2 rfl
theorem print_is (t : Tp) : printT t = headL t.snap ++ 10 :: linesT t.recs := by
  unfold printT headT headL tapeB
  simp only [List.append_assoc, List.singleton_append]
theorem linesT_cons (r : Rec) (l : List Rec) : linesT (r :: l) = lineT r ++ 10 :: linesT l := by unfold linesT; simp
theorem goP_lines {snap : Int} : ∀ (l : List Rec) (n : Nat) (frm : Int) (acc : List Rec) (tail : List (List UInt8)), 0 ≤ frm → allV snap frm l = true → acc.length + l.length ≤ 4096 → tail ≠ [] →
    goP snap n frm acc (l.map lineT ++ tail) = goP snap (n + l.length) (lastV frm l) (acc ++ l) tail
  | [], n, frm, acc, tail, _, _, _, _ => by simp [lastV]
  | r :: l, n, frm, acc, tail, hf, h, hk, ht => by
    rw [allV, Bool.and_eq_true] at h
    have hr := may_range h.1
    have hd := may_len h.1
    have hb := record_line (r := r) ⟨by omega, hr.2.1, hr.2.2.1, hr.2.2.2.1, hr.2.2.2.2.1, hr.2.2.2.2.2, hd⟩
    obtain ⟨q, ps, hq⟩ : ∃ q ps, l.map lineT ++ tail = q :: ps := by
      cases e : l.map lineT ++ tail with
      | nil => exact absurd (List.append_eq_nil_iff.1 e).2 ht
      | cons q ps => exact ⟨q, ps, rfl⟩
    rw [List.length_cons] at hk
    rw [List.map_cons, List.cons_append, hq, goP, hb]
    simp only
    rw [h.1, decide_eq_true (by omega), if_pos (by rfl), ← hq, goP_lines l (n + 1) r.tk (acc ++ [r]) tail (by omega) h.2 (by simp; omega) ht]
    rw [lastV, List.length_cons, List.append_assoc, List.singleton_append, show n + 1 + l.length = n + (l.length + 1) by omega]
theorem cuts_lines : ∀ (l : List Rec) (m : List UInt8), cuts 10 (linesT l ++ m) = l.map lineT ++ cuts 10 m
  | [], m => rfl
  | r :: l, m => by
    rw [linesT_cons, List.append_assoc, List.cons_append, cuts_at _ _ _ (line_plain r), cuts_lines l m]; rfl
theorem parse_front {s : Int} (h0 : 0 ≤ s) (h1 : s ≤ 65575) (m : List UInt8) : parseV (headL s ++ 10 :: m) = goP s 2 0 [] (cuts 10 m) := by
  obtain ⟨e1, e2⟩ := headL_ok h0 h1
  rw [parse_cuts, cuts_at _ _ _ (headL_plain s)]
  cases e : cuts 10 m with
  | nil => exact absurd e (cuts_ne 10 m)
  | cons q ps => simp only; rw [if_pos e1, e2]
/-- What a right tape is printed as is read as it was. -/
theorem parse_back {t : Tp} (h : rightV t = true) : parseV (printT t) = (t, 0, 0) := by
  obtain ⟨h1, h2, h3, h4⟩ := right_split h
  rw [print_is, parse_front h1 h2]
  have e := cuts_lines t.recs []
  rw [List.append_nil] at e
  rw [e, goP_lines t.recs 2 0 [] _ (by omega) h4 (by simpa using h3) (by simp [cuts])]
  rfl
theorem goP_is {snap : Int} : ∀ (ps : List (List UInt8)) (n : Nat) (frm : Int) (acc : List Rec) (l : List UInt8), ps = cuts 10 l → 0 ≤ frm → acc.length ≤ 4096 →
    (∃ rs, goP snap n frm acc ps = ((⟨snap, acc ++ rs⟩ : Tp), (0 : Int), (0 : Int)) ∧ linesT rs = l ∧ allV snap frm rs = true ∧ acc.length + rs.length ≤ 4096) ∨ (∃ k : Nat, goP snap n frm acc ps = ((⟨0, []⟩ : Tp), (k : Int), (2 : Int)) ∧ n ≤ k)
  | [], n, frm, acc, l, hl, _, _ => absurd hl.symm (cuts_ne 10 l)
  | [p], n, frm, acc, l, hl, _, ha => by
    have hp := cuts_last hl.symm
    subst hp
    rw [goP]
    by_cases h : l = []
    · rw [if_pos h]
      subst h
      exact .inl ⟨[], by rw [List.append_nil], rfl, rfl, by simpa using ha⟩
    · rw [if_neg h]; exact .inr ⟨n, rfl, Nat.le_refl _⟩
  | p :: q :: ps, n, frm, acc, l, hl, hf, ha => by
    obtain ⟨m, hm, rfl⟩ := cuts_step hl.symm
    rw [goP]
    by_cases h : ((recordV p).2 && (decide (acc.length < 4096) && mayV (recordV p).1 snap frm)) = true
    · rw [if_pos h]
      simp only [Bool.and_eq_true, decide_eq_true_eq] at h
      obtain ⟨h1, h2, h3⟩ := h
      have hr := may_range h3
      rcases goP_is (q :: ps) (n + 1) (recordV p).1.tk (acc ++ [(recordV p).1]) m hm.symm (by omega) (by simp; omega) with ⟨rs, k1, k2, k3, k4⟩ | ⟨k, k1, k2⟩
      · refine .inl ⟨(recordV p).1 :: rs, ?_, ?_, ?_, ?_⟩
        · rw [k1, List.append_assoc]; rfl
        · rw [linesT_cons, record_is h1, k2]
        · rw [allV, h3, k3]; rfl
        · simp only [List.length_append, List.length_cons, List.length_nil] at k4 ⊢; omega
      · exact .inr ⟨k, k1, by omega⟩
    · rw [if_neg h]; exact .inr ⟨n, rfl, Nat.le_refl _⟩
/-- What Parse takes is what its tape is written as; else it answers no tape, and a line. -/
theorem parse_is (l : List UInt8) : ((parseV l).2 = (0, 0) ∧ printT (parseV l).1 = l ∧ rightV (parseV l).1 = true) ∨ (∃ k : Nat, parseV l = ((⟨0, []⟩ : Tp), (k : Int), (2 : Int)) ∧ 1 ≤ k) := by
  rcases cuts_two (c := 10) l with ⟨h1, h2⟩ | ⟨p, m, hp, rfl, h1⟩
  · rw [parse_cuts, h1]; exact .inr ⟨1, rfl, Nat.le_refl _⟩
  · rw [parse_cuts, h1]
    cases e : cuts 10 m with
    | nil => exact absurd e (cuts_ne 10 m)
    | cons q ps =>
      simp only
      by_cases h : headOk p = true
      · rw [if_pos h]
        obtain ⟨k1, k2, k3⟩ := head_is h
        rcases goP_is (snap := decA (decV (Lib.trimPrefix p tapeB))) (q :: ps) 2 0 [] m e.symm (by omega) (by simp) with ⟨rs, j1, j2, j3, j4⟩ | ⟨k, j1, j2⟩
        · rw [j1]
          refine .inl ⟨rfl, ?_, ?_⟩
          · rw [print_is]
            simp only [List.nil_append]
            rw [k1, j2]
          · unfold rightV
            simp only [List.nil_append]
            simp only [List.length_nil, Nat.zero_add] at j4
            rw [decide_eq_true ⟨k2, k3, j4⟩, Bool.true_and]; exact j3
        · exact .inr ⟨k, j1, by omega⟩
      · rw [if_neg h]; exact .inr ⟨1, rfl, Nat.le_refl _⟩
end Go.Proofs.YtpciggnanlflkaaGreatDoor.Ad
