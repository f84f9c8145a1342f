/- The two runs of ProbeSettles in plain Lean. Conditions: those of each theorem. -/
import Derived.Test.YtmanojnhjhpokaaSeF
import Derived.Test.YtmanojnhjhpokaaHoA
namespace Go.Proofs.Ytmanojnhjhpokaa.PB
set_option linter.unusedVariables false
set_option linter.unusedSimpArgs false
/-- Where a path must be over a way of m bytes. -/
def Stand (d : Cfg) (m : Int) (t : Pt) : Prop := (m < d.base ∧ t.state = 4) ∨ (d.base ≤ m ∧ t.state = 3 ∧ t.low = min m d.most)
/-- Behind the first run. -/
structure First (d : Cfg) (m : Int) (t : Pt) (T j : Int) : Prop where
  inv : Inv 400 t
  cfg : t.cfg = d
  now : t.now = T
  since : t.since = T
  un : t.unum = 0
  t0 : 0 ≤ T
  t1 : T ≤ 40000
  j0 : 0 ≤ j
  err : m < d.base → t.state = 4 ∧ j = d.tries
  fin : d.base ≤ m → t.state = 3 ∧ t.low = min m d.most ∧ t.losses = 0
theorem budget {tries b : Int} (h1 : 1 ≤ tries) (h2 : tries ≤ 16) (h3 : 0 ≤ b) (h4 : b ≤ 16) : (tries + 1) + tries * (1 + b) + 1 ≤ (tries + 1) * (b + 3) ∧ (tries + 1) * (b + 3) ≤ 323 ∧ 0 ≤ tries * b ∧ tries + 2 ≤ (tries + 1) * (b + 3) := by
  have e1 : tries * (1 + b) = tries + tries * b := by rw [Int.mul_add, Int.mul_one]
  have e2 : (tries + 1) * (b + 3) = tries * b + tries * 3 + b + 3 := by rw [Int.add_mul, Int.mul_add]; omega
  have e3 : 0 ≤ tries * b := Int.mul_nonneg (by omega) h3
  have e4 : tries * b ≤ 16 * 16 := Int.mul_le_mul h2 h4 h3 (by decide)
  omega
theorem first_run (talk : Int → Bool) {d : Cfg} {m : Int} {b : Nat} (hd : d.Ok) (h100 : d.wait ≤ 100) (hf : floorOf d.v ≤ m) (hb : d.most - d.base + 1 ≤ 2 ^ b) (hb16 : b ≤ 16) :
    ∃ (t : Pt) (T j : Int), srun talk m ((d.tries + 1) * ((b : Int) + 3) + 1).toNat d.path 0 0 = (t, T, j) ∧ First d m t T j := by
  have hi := path_inv hd
  have e1 : e2 d.path 0 = d.path := e2_self rfl rfl (.inl rfl)
  have hmt := hd.tries
  obtain ⟨g1, g2, g3, g4⟩ := budget (b := (b : Int)) hmt.1 hmt.2 (by omega) (by omega)
  by_cases hm : d.base ≤ m
  · have hP : (d.path.mtries + 1) + d.path.mtries * (1 + (b : Nat)) ≤ ((((d.tries + 1) + d.tries * (1 + (b : Int))).toNat : Nat) : Int) := by
      show (d.tries + 1) + d.tries * (1 + (b : Int)) ≤ _
      omega
    have hE := base_run (m := m) (now := 0) talk (b := b) (P := ((d.tries + 1) + d.tries * (1 + (b : Int))).toNat) (k := ((d.tries + 1) * ((b : Int) + 3) + 1).toNat) (n := 0) (by omega) hi (show (0 : Int) ≤ 0 from Int.le_refl 0) (fun h => absurd h (by show ¬ (0 : Int) < 0; decide)) (by rw [e1]; rfl) hm (by show d.most - d.base ≤ 2 ^ b; omega) hP (by omega) h100
    obtain ⟨t, T, j, r1, r2, r3, r4, r5, r6, r7, r8, r9⟩ := hE.is
    refine ⟨t, T, j, by rw [r1, Int.zero_add], r9.mono (by omega), r6, r5, r4.since.trans r5, r4.un, by omega, by omega, r2, fun h => by omega, fun _ => ⟨r4.st, ?_, r4.lo⟩⟩
    rw [r4.low]
    have : t.most = d.most := by rw [show t.most = t.cfg.most from rfl, r6]; rfl
    rw [this]
  · obtain ⟨t, T, r1, r2, r3, r4, r5, r6, r7, r8⟩ := err_run talk m 0 d.tries.toNat ((d.tries + 1) * ((b : Int) + 3) + 1).toNat 0 d.path 0 0 (by omega) hi (Int.le_refl 0) (fun h => absurd h (by show ¬ (0 : Int) < 0; decide)) (by rw [e1]; exact ⟨rfl, .inr ⟨rfl, rfl, by show d.tries - 0 = _; omega⟩⟩) (by show m < d.base; omega) hf (by omega) h100
    refine ⟨t, T, d.tries, by rw [r1]; simp; omega, r8.mono (by omega), r5, r4, r2.since.trans r4, r2.un, by omega, by omega, by omega, fun _ => ⟨r2.st, rfl⟩, fun h => absurd h hm⟩
/-- Just before it is raised nothing is asked. -/
theorem first_wait {d : Cfg} {m T j : Int} {t : Pt} (h : First d m t T j) (hd : d.Ok) (h1000 : d.raise ≤ 1000) : t.nextA (T + d.raise - 1) = ((0, 0, 0), { t with now := T + d.raise - 1 }) := by
  have hr := hd.raise
  have hn := h.now
  have ht0 := h.t0
  have ht1 := h.t1
  have hst : t.state = 3 ∨ t.state = 4 := by
    by_cases hm : d.base ≤ m
    · exact .inl (h.fin hm).1
    · exact .inr (h.err (by omega)).1
  have hra : t.raise = d.raise := by rw [show t.raise = t.cfg.raise from rfl, h.cfg]
  have he : e2 t (T + d.raise - 1) = { t with now := T + d.raise - 1 } := by
    unfold e2 e1
    rw [if_neg (by rw [h.un]; decide)]
    exact raised_idle (.inr (.inr (by show T + d.raise - 1 - t.since < t.raise; rw [h.since, hra]; omega)))
  rw [nextA_eff (by omega) (by omega) (fun hu => absurd hu (by rw [h.un]; decide)), he, told_none (E := { t with now := T + d.raise - 1 }) hst]
/-- At the greatest size nothing is raised. -/
theorem first_top {d : Cfg} {m T j : Int} {t : Pt} (h : First d m t T j) (hd : d.Ok) (h1000 : d.raise ≤ 1000) (hm : d.most ≤ m) : t.nextA (T + d.raise) = ((0, 0, 0), { t with now := T + d.raise }) ∧ t.low = d.most := by
  have hr := hd.raise
  have hn := h.now
  have ht0 := h.t0
  have ht1 := h.t1
  have hbm := hd.most
  obtain ⟨f1, f2, f3⟩ := h.fin (by omega)
  have hlow : t.low = d.most := by omega
  have hmo : t.most = d.most := by rw [show t.most = t.cfg.most from rfl, h.cfg]
  have he : e2 t (T + d.raise) = { t with now := T + d.raise } := by
    unfold e2 e1
    rw [if_neg (by rw [h.un]; decide)]
    unfold Pt.raised
    by_cases hq : ({ t with now := T + d.raise } : Pt).raise ≤ T + d.raise - ({ t with now := T + d.raise } : Pt).since
    · rw [if_pos hq, if_pos (show ({ t with now := T + d.raise } : Pt).state = 3 from f1), if_neg (show ¬ ({ t with now := T + d.raise } : Pt).low < ({ t with now := T + d.raise } : Pt).most by show ¬ t.low < t.most; omega)]
    · rw [if_neg hq]
  exact ⟨by rw [nextA_eff (by omega) (by omega) (fun hu => absurd hu (by rw [h.un]; decide)), he, told_none (E := { t with now := T + d.raise }) (.inl f1)], hlow⟩
/-- The second run: from where the first one was left, or from a black hole. -/
theorem second_base (talk : Int → Bool) {d : Cfg} {m2 now : Int} {b : Nat} {s : Pt} (hd : d.Ok) (h100 : d.wait ≤ 100) (hf : floorOf d.v ≤ m2) (hb : d.most - d.base + 1 ≤ 2 ^ b) (hb16 : b ≤ 16) (hi : Inv 500 s) (hc : s.cfg = d) (hu : s.unum = 0) (hn : s.now ≤ now) (hx : now ≤ 100000) (hE : (e2 s now).state = 1) :
    ∃ (t : Pt) (T j : Int), srun talk m2 ((d.tries + 1) * ((b : Int) + 3) + 1).toNat s now 0 = (t, T, j) ∧ 0 ≤ j ∧ Stand d m2 t ∧ t.cfg = d ∧ Inv 1000 t := by
  have hmt := hd.tries
  obtain ⟨g1, g2, g3, g4⟩ := budget (b := (b : Int)) hmt.1 hmt.2 (by omega) (by omega)
  obtain ⟨a1, a2, a3, a4⟩ := e2_inv hi hn (by omega)
  have hcc := hc
  unfold Pt.cfg at hcc
  have c1 : s.v = d.v := by rw [← hcc]
  have c2 : s.base = d.base := by rw [← hcc]
  have c3 : s.most = d.most := by rw [← hcc]
  have c4 : s.mtries = d.tries := by rw [← hcc]
  have c6 : s.wait = d.wait := by rw [← hcc]
  have e4 : (e2 s now).mtries = d.tries := by rw [show (e2 s now).mtries = (e2 s now).cfg.tries from rfl, a4, hc]
  have ht : 0 ≤ (e2 s now).tries ∧ (e2 s now).tries < (e2 s now).mtries := by unfold Inv at a1; omega
  by_cases hm : d.base ≤ m2
  · have hE2 := base_run (m := m2) (now := now) talk (b := b) (s := s) (P := ((d.tries + 1) + d.tries * (1 + (b : Int))).toNat) (k := ((d.tries + 1) * ((b : Int) + 3) + 1).toNat) (n := 0) (by omega) hi hn (fun h => absurd h (by rw [hu]; decide)) hE (by rw [c2]; exact hm) (by rw [c3, c2]; omega) (by rw [c4]; omega) (by omega) (by rw [c6]; exact h100)
    obtain ⟨t, T, j, r1, r2, r3, r4, r5, r6, r7, r8, r9⟩ := hE2.is
    refine ⟨t, T, j, by rw [r1, Int.zero_add], r2, .inr ⟨hm, r4.st, ?_⟩, r6.trans hc, r9.mono (by omega)⟩
    rw [r4.low]
    have hmo : t.most = d.most := by rw [show t.most = t.cfg.most from rfl, r6, hc]
    rw [hmo]
  · obtain ⟨t, T, r1, r2, r3, r4, r5, r6, r7, r8⟩ := err_run talk m2 (e2 s now).losses ((e2 s now).mtries - (e2 s now).tries).toNat ((d.tries + 1) * ((b : Int) + 3) + 1).toNat 500 s now 0 (by omega) hi hn (fun h => absurd h (by rw [hu]; decide)) ⟨rfl, .inr ⟨hE, a2, by omega⟩⟩ (by rw [c2]; omega) (by rw [c1]; exact hf) (by omega) (by rw [c6]; exact h100)
    exact ⟨t, T, _, by rw [r1], by omega, .inl ⟨by omega, r2.st⟩, r5.trans hc, r8.mono (by omega)⟩
/-- What a raise makes of a path at its end. -/
theorem raised_search {d : Cfg} {m T j : Int} {t : Pt} (h : First d m t T j) (hd : d.Ok) (h1000 : d.raise ≤ 1000) (hm : d.base ≤ m) (hmm : m < d.most) :
    e2 ({ t with now := T + d.raise - 1 } : Pt) (T + d.raise) = ({ t with now := T + d.raise } : Pt).search := by
  have hr := hd.raise
  obtain ⟨f1, f2, f3⟩ := h.fin hm
  have hmo : t.most = d.most := by rw [show t.most = t.cfg.most from rfl, h.cfg]
  have hra : t.raise = d.raise := by rw [show t.raise = t.cfg.raise from rfl, h.cfg]
  have hs := h.since
  unfold e2 e1
  rw [if_neg (show ¬ 0 < ({ t with now := T + d.raise - 1 } : Pt).unum by show ¬ 0 < t.unum; rw [h.un]; decide)]
  show ({ t with now := T + d.raise } : Pt).raised (T + d.raise) = _
  unfold Pt.raised
  rw [if_pos (show ({ t with now := T + d.raise } : Pt).raise ≤ T + d.raise - ({ t with now := T + d.raise } : Pt).since by show t.raise ≤ T + d.raise - t.since; omega), if_pos (show ({ t with now := T + d.raise } : Pt).state = 3 from f1), if_pos (show ({ t with now := T + d.raise } : Pt).low < ({ t with now := T + d.raise } : Pt).most by show t.low < t.most; omega)]
theorem raised_base {d : Cfg} {m T j : Int} {t : Pt} (h : First d m t T j) (hd : d.Ok) (h1000 : d.raise ≤ 1000) (hm : m < d.base) :
    (e2 ({ t with now := T + d.raise - 1 } : Pt) (T + d.raise)).state = 1 := by
  have hr := hd.raise
  obtain ⟨f1, f2⟩ := h.err hm
  have hra : t.raise = d.raise := by rw [show t.raise = t.cfg.raise from rfl, h.cfg]
  have hs := h.since
  unfold e2 e1
  rw [if_neg (show ¬ 0 < ({ t with now := T + d.raise - 1 } : Pt).unum by show ¬ 0 < t.unum; rw [h.un]; decide)]
  show (({ t with now := T + d.raise } : Pt).raised (T + d.raise)).state = _
  unfold Pt.raised
  rw [if_pos (show ({ t with now := T + d.raise } : Pt).raise ≤ T + d.raise - ({ t with now := T + d.raise } : Pt).since by show t.raise ≤ T + d.raise - t.since; omega), if_neg (show ¬ ({ t with now := T + d.raise } : Pt).state = 3 by show ¬ t.state = 3; omega), if_pos (show ({ t with now := T + d.raise } : Pt).state = 4 from f1)]
  rfl
theorem first_at {d : Cfg} {m T j : Int} {t : Pt} (h : First d m t T j) (hd : d.Ok) (h1000 : d.raise ≤ 1000) : Inv 500 ({ t with now := T + d.raise - 1 } : Pt) := by
  have hr := hd.raise
  have hn := h.now
  have ht1 := h.t1
  exact (h.inv.at_ (n := T + d.raise - 1) (by omega) (by omega)).mono (by decide)
/-- The way has become no narrower. -/
theorem second_wider (talk : Int → Bool) {d : Cfg} {m m2 T j : Int} {b : Nat} {t : Pt} (h : First d m t T j) (hd : d.Ok) (h100 : d.wait ≤ 100) (h1000 : d.raise ≤ 1000) (hb : d.most - d.base + 1 ≤ 2 ^ b) (hb16 : b ≤ 16) (hm : d.base ≤ m) (hmm : m < d.most) (hw : m ≤ m2) :
    ∃ (t2 : Pt) (T2 j2 : Int), srun talk m2 ((d.tries + 1) * ((b : Int) + 3) + 1).toNat ({ t with now := T + d.raise - 1 } : Pt) (T + d.raise) 0 = (t2, T2, j2) ∧ 0 ≤ j2 ∧ Stand d m2 t2 ∧ t2.cfg = d ∧ Inv 1000 t2 := by
  have hmt := hd.tries
  have hr := hd.raise
  have ht0 := h.t0
  have ht1 := h.t1
  obtain ⟨g1, g2, g3, g4⟩ := budget (b := (b : Int)) hmt.1 hmt.2 (by omega) (by omega)
  obtain ⟨f1, f2, f3⟩ := h.fin hm
  have hmo : t.most = d.most := by rw [show t.most = t.cfg.most from rfl, h.cfg]
  have hmtr : t.mtries = d.tries := by rw [show t.mtries = t.cfg.tries from rfl, h.cfg]
  have hwt : t.wait = d.wait := by rw [show t.wait = t.cfg.wait from rfl, h.cfg]
  have he := raised_search h hd h1000 hm hmm
  have htt : 0 ≤ t.tries := by have := h.inv; unfold Inv at this; omega
  have hmul : d.tries * (1 + (b : Int)) = d.tries + d.tries * b := by rw [Int.mul_add, Int.mul_one]
  have hN : Next' m2 (e2 ({ t with now := T + d.raise - 1 } : Pt) (T + d.raise)) ((((d.tries + 1) + d.tries * (1 + (b : Int))).toNat : Nat) : Int) := by
    rw [he]
    refine .inr ⟨⟨rfl, h.un, by show t.low ≤ m2; omega, .inr rfl, f3⟩, .inl ⟨rfl, rfl, b, by show t.most - t.low ≤ 2 ^ b; omega, ?_⟩⟩
    show (t.mtries + 1) + t.mtries * (1 + b) - t.tries ≤ _
    rw [hmtr]
    omega
  have hE := search_run talk m2 ((d.tries + 1) + d.tries * (1 + (b : Int))).toNat ((d.tries + 1) * ((b : Int) + 3) + 1).toNat 500 _ (T + d.raise) 0 (by omega) (first_at h hd h1000) (by show T + d.raise - 1 ≤ T + d.raise; omega) (fun hu => absurd hu (by show ¬ 0 < t.unum; rw [h.un]; decide)) hN (by omega) (by show t.wait ≤ 100; omega)
  obtain ⟨t2, T2, j2, r1, r2, r3, r4, r5, r6, r7, r8, r9⟩ := hE.is
  have hc2 : t2.cfg = d := r6.trans h.cfg
  refine ⟨t2, T2, j2, by rw [r1, Int.zero_add], r2, .inr ⟨by omega, r4.st, ?_⟩, hc2, r9.mono (by omega)⟩
  rw [r4.low, show t2.most = t2.cfg.most from rfl, hc2]
/-- The way has become narrower, and nothing tells it. -/
theorem second_narrow (talk : Int → Bool) {d : Cfg} {m m2 T j : Int} {b : Nat} {t : Pt} (h : First d m t T j) (hd : d.Ok) (h100 : d.wait ≤ 100) (h1000 : d.raise ≤ 1000) (hb : d.most - d.base + 1 ≤ 2 ^ b) (hb16 : b ≤ 16) (hm : m = d.base) (hmm : m < d.most) (hw : m2 < m) :
    ∃ (t2 : Pt) (T2 j2 : Int), srun talk m2 ((d.tries + 1) * ((b : Int) + 3) + 1).toNat ({ t with now := T + d.raise - 1 } : Pt) (T + d.raise) 0 = (t2, T2, j2) ∧ 0 ≤ j2 := by
  have hmt := hd.tries
  have hr := hd.raise
  have ht0 := h.t0
  have ht1 := h.t1
  obtain ⟨g1, g2, g3, g4⟩ := budget (b := (b : Int)) hmt.1 hmt.2 (by omega) (by omega)
  obtain ⟨f1, f2, f3⟩ := h.fin (by omega)
  have hmo : t.most = d.most := by rw [show t.most = t.cfg.most from rfl, h.cfg]
  have hmtr : t.mtries = d.tries := by rw [show t.mtries = t.cfg.tries from rfl, h.cfg]
  have hwt : t.wait = d.wait := by rw [show t.wait = t.cfg.wait from rfl, h.cfg]
  have he := raised_search h hd h1000 (by omega) hmm
  have htt : 0 ≤ t.tries := by have := h.inv; unfold Inv at this; omega
  have hmul : d.tries * (1 + (b : Int)) = d.tries + d.tries * b := by rw [Int.mul_add, Int.mul_one]
  have hN : NextN m2 (e2 ({ t with now := T + d.raise - 1 } : Pt) (T + d.raise)) ((((d.tries + 1) + d.tries * (1 + (b : Int))).toNat : Nat) : Int) := by
    rw [he]
    refine .inr ⟨rfl, h.un, by show m2 < t.low; omega, rfl, .inl ⟨rfl, b, by show t.most - t.low ≤ 2 ^ b; omega, ?_⟩⟩
    show (t.mtries + 1) + t.mtries * (1 + b) - t.tries ≤ _
    rw [hmtr]
    omega
  exact narrow_run talk m2 ((d.tries + 1) + d.tries * (1 + (b : Int))).toNat ((d.tries + 1) * ((b : Int) + 3) + 1).toNat 500 _ (T + d.raise) 0 (by omega) (first_at h hd h1000) (by show T + d.raise - 1 ≤ T + d.raise; omega) (fun hu => absurd hu (by show ¬ 0 < t.unum; rw [h.un]; decide)) hN (by omega) (by omega) (by show t.wait ≤ 100; omega)
end Go.Proofs.Ytmanojnhjhpokaa.PB
