/- Losses at a path's end in plain Lean, and the contracts of Lost and Got by what they come to. Conditions: those of each theorem. -/
import Derived.Test.YtmanojnhjhpokaaSeE
import Derived.Test.YtmanojnhjhpokaaSeB
namespace Go.Proofs.Ytmanojnhjhpokaa.PB
set_option linter.unusedVariables false
set_option linter.unusedSimpArgs false
open Go.RowKit
/-- The path with so many losses. -/
def Lz (t : Pt) (j : Int) : Pt := { t with losses := j }
/-- The path as a black hole leaves it. -/
def holed (t : Pt) : Pt := { t.under0 0 with state := 1, hsize := 0, hheard := false, losses := 0 }
section
variable {m z j : Int} {t : Pt}
theorem lostA_go (hx : t.now ≤ 1099511627776) : t.lostA z t.now = (((t.lost z).1, 0), (t.lost z).2) := by
  have hl : ¬ t.late t.now := by unfold Pt.late; omega
  unfold Pt.lostA; rw [if_neg hl]
theorem gotA_go (hx : t.now ≤ 1099511627776) : t.gotA z t.now = (0, t.got z) := by
  have hl : ¬ t.late t.now := by unfold Pt.late; omega
  unfold Pt.gotA; rw [if_neg hl]
theorem counts_fin (hs : t.state = 3) (h1 : t.base < z) (h2 : z ≤ t.low) : (Lz t j).counts z = true := (counts_iff (Lz t j) z).2 ⟨.inr hs, h1, h2⟩
theorem counts_not (h : ¬ (t.base < z ∧ z ≤ t.low)) : (Lz t j).counts z = false := by
  cases e : (Lz t j).counts z
  · rfl
  · exact absurd ((counts_iff (Lz t j) z).1 e).2 h
theorem lost_more (hx : t.now ≤ 1099511627776) (hs : t.state = 3) (h1 : t.base < z) (h2 : z ≤ t.low) (hj : j + 1 < t.mlosses) : (Lz t j).lostA z t.now = ((false, 0), Lz t (j + 1)) := by
  have := lostA_go (t := Lz t j) (z := z) hx
  rw [show (Lz t j).now = t.now from rfl] at this
  rw [this]
  unfold Pt.lost
  rw [if_pos (counts_fin hs h1 h2), if_pos (show (Lz t j).losses + 1 < (Lz t j).mlosses from hj)]
  rfl
theorem lost_hole (hx : t.now ≤ 1099511627776) (hs : t.state = 3) (h1 : t.base < z) (h2 : z ≤ t.low) (hj : ¬ j + 1 < t.mlosses) : (Lz t j).lostA z t.now = ((true, 0), holed t) := by
  have := lostA_go (t := Lz t j) (z := z) hx
  rw [show (Lz t j).now = t.now from rfl] at this
  rw [this]
  unfold Pt.lost
  rw [if_pos (counts_fin hs h1 h2), if_neg (show ¬ (Lz t j).losses + 1 < (Lz t j).mlosses from hj)]
  rfl
theorem lost_other (hx : t.now ≤ 1099511627776) (h : ¬ (t.base < z ∧ z ≤ t.low)) : (Lz t j).lostA z t.now = ((false, 0), Lz t j) := by
  have := lostA_go (t := Lz t j) (z := z) hx
  rw [show (Lz t j).now = t.now from rfl] at this
  rw [this]
  unfold Pt.lost
  rw [if_neg (by rw [counts_not h]; decide)]
theorem got_other (hx : t.now ≤ 1099511627776) (h : ¬ (t.base < z ∧ z ≤ t.low)) : (Lz t j).gotA z t.now = (0, Lz t j) := by
  have := gotA_go (t := Lz t j) (z := z) hx
  rw [show (Lz t j).now = t.now from rfl] at this
  rw [this]
  unfold Pt.got
  rw [if_neg (by rw [counts_not h]; decide)]
theorem got_fin (hx : t.now ≤ 1099511627776) (hs : t.state = 3) (h1 : t.base < z) (h2 : z ≤ t.low) : (Lz t j).gotA z t.now = (0, Lz t 0) := by
  have := gotA_go (t := Lz t j) (z := z) hx
  rw [show (Lz t j).now = t.now from rfl] at this
  rw [this]
  unfold Pt.got
  rw [if_pos (counts_fin hs h1 h2)]
  rfl
theorem Lz.inv {K : Int} (h : Inv K t) (h0 : 0 ≤ j) (h1 : j < t.mlosses) : Inv K (Lz t j) := by unfold Inv at *; dsimp only [Lz]; omega
theorem holed_inv {K : Int} (h : Inv K t) : Inv K (holed t) := by unfold Inv at *; dsimp only [holed, Pt.under0]; omega
theorem Lz.self (h : t.losses = j) : Lz t j = t := by subst h; rfl
/-- Behind a black hole the base is probed. -/
theorem holed_next {K : Int} (h : Inv K t) : (holed t).nextA t.now = ((t.base, t.number + 1, 0), sent (holed t) t.now) := by
  have hi := holed_inv h
  have hx : t.now ≤ 1099511627776 := by unfold Inv at h; omega
  have := nextA_go (s := holed t) (now := t.now) (Int.le_refl _) hx
  rw [same_now (holed t) (n := t.now) rfl] at this
  rw [this]
  unfold Pt.next
  rw [if_neg (show ¬ 0 < (holed t).unum by show ¬ (0 : Int) < 0; omega), raised_idle (E := holed t) (.inl rfl), told_sent (E := holed t) (.inl rfl)]
  rw [(tried_in hi).1 rfl]
  rfl
end
theorem lost_go (K : Int) (s t : Pt) (g : Nat) (z now : Int) (y : Bool) (w : World) (h : Is w g s) (hi : Inv K s) (hK : K ≤ 1125899906842624) (hx : Hid (s.lostA z now = ((y, 0), t))) :
    Calls Try.prog 23 #[.pointer (some ⟨g, 0, none⟩), .int .i64 z, .int .i64 now] w fun e w' => e = .returned (.tuple #[.bool y, .int .i64 0]) ∧ Put w w' g 66 t.cells := by
  have := lost_any K s g z now w h hi hK
  rw [hx.out] at this
  exact this
theorem got_go (K : Int) (s t : Pt) (g : Nat) (z now : Int) (w : World) (h : Is w g s) (hi : Inv K s) (hK : K ≤ 1125899906842624) (hx : Hid (s.gotA z now = (0, t))) :
    Calls Try.prog 24 #[.pointer (some ⟨g, 0, none⟩), .int .i64 z, .int .i64 now] w fun e w' => e = .returned (.int .i64 0) ∧ Put w w' g 66 t.cells := by
  have := got_any K s g z now w h hi hK
  rw [hx.out] at this
  exact this
theorem rest_in (n a b : Int) (w : World) (ha : 0 ≤ a) (h : a ≤ b) (hb : b ≤ 65535) : Calls Try.prog 18 #[.int .i64 n, .int .i64 a, .int .i64 b] w fun e w' => ∃ r : Int, e = .returned (.int .i64 r) ∧ a ≤ r ∧ r ≤ b ∧ w = w' :=
  (rest_calls n a b w ha h hb).mono fun _ _ k => ⟨_, k.1, (restF_in n a b h).1, (restF_in n a b h).2, k.2⟩
/-- From New on: settle over a way that the base gets through comes to its end. -/
theorem settled_from (talk : Int → Bool) {d : Cfg} {m most : Int} (hd : d.Ok) (h100 : d.wait ≤ 100) (hm : d.base ≤ m) (h0 : 400 ≤ most) (h1 : most ≤ 1048576) :
    ∃ (t : Pt) (T j : Int), srun talk m (most + 1).toNat d.path 0 0 = (t, T, j) ∧ 0 ≤ j ∧ Fin m t ∧ t.now = T ∧ t.cfg = d ∧ 0 ≤ T ∧ T ≤ 35000 ∧ Inv 350 t := by
  have hi := path_inv hd
  have e1 : e2 d.path 0 = d.path := e2_self rfl rfl (.inl rfl)
  have hmt := hd.tries
  have hb : d.path.most - d.path.base ≤ 2 ^ 16 := by
    have := hd.most1; have := hd.base; have := floor_pos d.v
    show d.most - d.base ≤ 65536; omega
  have hP : (d.path.mtries + 1) + d.path.mtries * (1 + (16 : Nat)) ≤ ((((d.tries + 1) + d.tries * 17).toNat : Nat) : Int) := by
    show (d.tries + 1) + d.tries * (1 + 16) ≤ _
    omega
  have hk : ((d.tries + 1) + d.tries * 17).toNat ≤ 289 := by omega
  have hE := base_run (m := m) (now := 0) talk (b := 16) (P := ((d.tries + 1) + d.tries * 17).toNat) (k := (most + 1).toNat) (n := 0) (by omega) hi (show (0 : Int) ≤ 0 from Int.le_refl 0) (fun h => absurd h (by show ¬ (0 : Int) < 0; decide)) (by rw [e1]; rfl) hm hb hP (by omega) h100
  obtain ⟨t, T, j, a, b, c, dd, e, f, g, h, i⟩ := hE.is
  exact ⟨t, T, j, by rw [a, Int.zero_add], b, dd, e, f, by omega, by omega, i.mono (by omega)⟩
end Go.Proofs.Ytmanojnhjhpokaa.PB
