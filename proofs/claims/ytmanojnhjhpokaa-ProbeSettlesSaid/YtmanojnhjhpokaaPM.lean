/- mosaiclaw28.alive, the chapter's second example, answers true. Conditions: none. -/
import Derived.Test.YtmanojnhjhpokaaPL
import Derived.Test.YtmanojnhjhpokaaPS
namespace Go.Proofs.Ytmanojnhjhpokaa.PB
set_option linter.unusedVariables false
set_option linter.unusedSimpArgs false
open Go.RowKit
def scrA : Array Value := #[.int .i64 2, .int .i64 0, .int .i64 0, .int .i64 0, .int .i64 0, .int .i64 0, .int .i64 0, .int .i64 0, .int .i64 0, .int .i64 0, .int .i64 0, .int .i64 3, .int .i64 0, .int .i64 0, .int .i64 0, .int .i64 0, .int .i64 0, .int .i64 0, .int .i64 0, .int .i64 1, .int .i64 0, .int .i64 5, .int .i64 2, .int .i64 0, .int .i64 0, .int .i64 0, .int .i64 0, .int .i64 0, .int .i64 0, .int .i64 0, .int .i64 0, .int .i64 0, .int .i64 5, .int .i64 4, .int .i64 0, .int .i64 0, .int .i64 0, .int .i64 0, .int .i64 0, .int .i64 0, .int .i64 0, .int .i64 2, .int .i64 1400, .int .i64 6, .int .i64 2, .int .i64 0, .int .i64 0, .int .i64 0, .int .i64 0, .int .i64 0, .int .i64 0, .int .i64 0, .int .i64 0, .int .i64 0, .int .i64 6, .int .i64 3, .int .i64 0, .int .i64 0, .int .i64 0, .int .i64 0, .int .i64 0, .int .i64 0, .int .i64 0, .int .i64 3, .int .i64 0, .int .i64 7, .int .i64 2, .int .i64 0, .int .i64 0, .int .i64 0, .int .i64 0, .int .i64 0, .int .i64 0, .int .i64 0, .int .i64 0, .int .i64 0, .int .i64 7, .int .i64 4, .int .i64 0, .int .i64 0, .int .i64 0, .int .i64 0, .int .i64 0, .int .i64 0, .int .i64 0, .int .i64 4, .int .i64 1400, .int .i64 8, .int .i64 2, .int .i64 0, .int .i64 0, .int .i64 0, .int .i64 0, .int .i64 0, .int .i64 0, .int .i64 0, .int .i64 0, .int .i64 0, .int .i64 8, .int .i64 4, .int .i64 0, .int .i64 0, .int .i64 0, .int .i64 0, .int .i64 0, .int .i64 0, .int .i64 0, .int .i64 5, .int .i64 1400, .int .i64 9, .int .i64 2, .int .i64 0, .int .i64 0, .int .i64 0, .int .i64 0, .int .i64 0, .int .i64 0, .int .i64 0, .int .i64 0, .int .i64 0, .int .i64 108, .int .i64 2, .int .i64 0, .int .i64 0, .int .i64 0, .int .i64 0, .int .i64 0, .int .i64 0, .int .i64 0, .int .i64 0, .int .i64 0, .int .i64 109]
def szA : Array Value := #[.int .i64 1000, .int .i64 0, .int .i64 1500, .int .i64 0, .int .i64 1400, .int .i64 0, .int .i64 1401, .int .i64 0, .int .i64 1401, .int .i64 0, .int .i64 0, .int .i64 1500]
set_option maxRecDepth 100000 in
theorem scr_at (k : Nat) (h : k < 12) : scrA[k * 11]? = some (.int .i64 (opAt k).kind) ∧ scrA[k * 11 + 1]? = some (.int .i64 (opAt k).c.v) ∧ scrA[k * 11 + 2]? = some (.int .i64 (opAt k).c.base) ∧ scrA[k * 11 + 3]? = some (.int .i64 (opAt k).c.most) ∧ scrA[k * 11 + 4]? = some (.int .i64 (opAt k).c.tries) ∧ scrA[k * 11 + 5]? = some (.int .i64 (opAt k).c.losses) ∧ scrA[k * 11 + 6]? = some (.int .i64 (opAt k).c.wait) ∧ scrA[k * 11 + 7]? = some (.int .i64 (opAt k).c.raise) ∧ scrA[k * 11 + 8]? = some (.int .i64 (opAt k).n) ∧ scrA[k * 11 + 9]? = some (.int .i64 (opAt k).size) ∧ scrA[k * 11 + 10]? = some (.int .i64 (opAt k).now) :=
  match k, h with
  | 0, _ => ⟨rfl, rfl, rfl, rfl, rfl, rfl, rfl, rfl, rfl, rfl, rfl⟩
  | 1, _ => ⟨rfl, rfl, rfl, rfl, rfl, rfl, rfl, rfl, rfl, rfl, rfl⟩
  | 2, _ => ⟨rfl, rfl, rfl, rfl, rfl, rfl, rfl, rfl, rfl, rfl, rfl⟩
  | 3, _ => ⟨rfl, rfl, rfl, rfl, rfl, rfl, rfl, rfl, rfl, rfl, rfl⟩
  | 4, _ => ⟨rfl, rfl, rfl, rfl, rfl, rfl, rfl, rfl, rfl, rfl, rfl⟩
  | 5, _ => ⟨rfl, rfl, rfl, rfl, rfl, rfl, rfl, rfl, rfl, rfl, rfl⟩
  | 6, _ => ⟨rfl, rfl, rfl, rfl, rfl, rfl, rfl, rfl, rfl, rfl, rfl⟩
  | 7, _ => ⟨rfl, rfl, rfl, rfl, rfl, rfl, rfl, rfl, rfl, rfl, rfl⟩
  | 8, _ => ⟨rfl, rfl, rfl, rfl, rfl, rfl, rfl, rfl, rfl, rfl, rfl⟩
  | 9, _ => ⟨rfl, rfl, rfl, rfl, rfl, rfl, rfl, rfl, rfl, rfl, rfl⟩
  | 10, _ => ⟨rfl, rfl, rfl, rfl, rfl, rfl, rfl, rfl, rfl, rfl, rfl⟩
  | 11, _ => ⟨rfl, rfl, rfl, rfl, rfl, rfl, rfl, rfl, rfl, rfl, rfl⟩
  | k + 12, h => absurd h (by omega)
theorem sz_at (k : Nat) (h : k < 12) : szA[k]? = some (.int .i64 (szAt k)) :=
  match k, h with
  | 0, _ => rfl
  | 1, _ => rfl
  | 2, _ => rfl
  | 3, _ => rfl
  | 4, _ => rfl
  | 5, _ => rfl
  | 6, _ => rfl
  | 7, _ => rfl
  | 8, _ => rfl
  | 9, _ => rfl
  | 10, _ => rfl
  | 11, _ => rfl
  | k + 12, h => absurd h (by omega)
theorem usual_calls (w : World) : Calls Try.prog 10 #[] w fun e w' => e = .returned usualC.val ∧ Below w.heap.size w w' := by
  go_enter Try.func10, Try.ntmps10
  go_wp2
  exact bodyPost_ret (v := usualC.val) (by simp [results, Try.results10, go_sem, usualC, Cfg.val]) rfl ⟨rfl, by repeat (first | exact Below.refl _ _ | refine Below.alloc ?_ (by simp) _ | apply bdn | refine Below.setCell ?_ (by simp) _)⟩
theorem does_lit (K : Int) (s : Pt) (g : Nat) (o : Op) (w : World) (h : Is w g s) (hi : Inv K s) (hK : K + 1 ≤ 1125899906842624) :
    Calls Try.prog 12 #[.pointer (some ⟨g, 0, none⟩), .agg #[.int .i64 o.kind, .int .i64 o.c.v, .int .i64 o.c.base, .int .i64 o.c.most, .int .i64 o.c.tries, .int .i64 o.c.losses, .int .i64 o.c.wait, .int .i64 o.c.raise, .int .i64 o.n, .int .i64 o.size, .int .i64 o.now]] w fun e w' =>
      e = .returned (.agg #[.int .i64 (s.says o).a, .int .i64 (s.says o).b, .bool (s.says o).yes, .int .i64 (s.says o).e, .int .i64 (s.says o).size, .int .i64 (s.says o).st]) ∧ Put w w' g 66 (s.after o).cells := does_any K s g o w h hi hK
theorem Blk.ne_ {w : World} {g g' : Nat} {t t' : TypeId} {cs cs' : Array Value} (h : Blk w g t cs) (h' : Blk w g' t' cs') (hne : t ≠ t') : ¬ g = g' := by
  rintro rfl
  unfold Blk at h h'
  rw [h] at h'
  injection h' with h'
  injection h' with _ ht
  exact hne ht
theorem put_blk {w w1 : World} {g b : Nat} {t u : TypeId} {cs ds : Array Value} (h : Put w w1 g t cs) (hb : Blk w b u ds) (hne : ¬ b = g) : Blk w1 b u ds := (h.rest b hb.lt hne).trans hb
/-- What stands at the head of each round. -/
def AtK (w : World) (g bs bz : Nat) (i : Value) (wr : World) : Prop := ∃ k : Nat, k ≤ 12 ∧ i = .int .i64 k ∧ Is wr g (stAt k) ∧ Blk wr bs 33 scrA ∧ Blk wr bz 59 szA ∧ Below w.heap.size w wr ∧ w.heap.size ≤ g ∧ w.heap.size ≤ bs ∧ w.heap.size ≤ bz
set_option maxRecDepth 100000 in
set_option maxHeartbeats 4000000 in
theorem alive_calls (w : World) : Calls Try.prog 8 #[] w fun e w' => e = .returned (.bool true) ∧ Below w.heap.size w w' := by
  go_enter Try.func8, Try.ntmps8
  go_wp2_with fail
  refine (usual_calls w).mono ?_
  rintro e w1 ⟨rfl, hb1⟩
  have hz1 : w.heap.size ≤ w1.heap.size := hb1.size
  go_wp2_with fail
  refine (new_calls usualC w1).mono ?_
  rintro e w2 ⟨hm, -⟩
  obtain ⟨g, rfl, hg, hI, hb2⟩ := hm usual_ok
  have hz2 : w1.heap.size ≤ w2.heap.size := hb2.size
  have hb2' := hb2.mono hz1
  have hB2 := Lib.hid (hb1.trans hb2'); clear hb1 hb2 hb2' hm
  have H2 := Lib.hid hI; clear hI
  have us1 : Hid (usualC.path.state = 1) := Lib.hid rfl
  have us2 : Hid (usualC.path.size = 1000) := Lib.hid (by decide)
  go_wp2_with (first | (go_at_call 14; (with_reducible refine (state_same usualC.path g _ H2.out).mono ?_); rintro e w' ⟨rfl, rfl⟩; rw [us1.out]) | (go_at_call 15; (with_reducible refine (size_same usualC.path g _ H2.out).mono ?_); rintro e w' ⟨rfl, rfl⟩; rw [us2.out]))
  have hlt4 : g < w2.heap.size := H2.out.lt
  have hz4 : w.heap.size ≤ w2.heap.size := by omega
  obtain ⟨bs, hbs⟩ : ∃ bs, bs = w2.heap.size := ⟨_, rfl⟩
  obtain ⟨bz, hbz⟩ : ∃ bz, bz = w2.heap.size + 1 := ⟨_, rfl⟩
  rw [← hbz, ← hbs]
  have h0 : AtK w g bs bz (.int .i64 0) ((w2.alloc (.cells scrA 33)).alloc (.cells szA 59)) := ⟨0, by omega, rfl, (H2.out.alloc _).alloc _, (Blk.new_at hbs).alloc _, Blk.new_at (by rw [hbz]; simp), (hB2.out.alloc hz4 _).alloc (by simp; omega) _, by omega, by omega, by omega⟩
  have H0 := Lib.hid h0
  clear h0 us1 us2 hB2 hbs hbz hz1 hz2 hz4 hlt4 hg H2
  go_loopw [5] (fun i wr => AtK w g bs bz i wr) (fun i _ => 12 - (intOf i).toNat)
  case atStart => exact H0.out
  case round =>
    clear H0
    obtain ⟨k, hk, rfl, hI, hS, hZ, hB, hg, hb1, hb2⟩ := hrel
    have n1 : ¬ bs = g := hS.ne_ hI (by decide)
    have n2 : ¬ bz = g := hZ.ne_ hI (by decide)
    have hl1 : bs < wr.heap.size := hS.lt
    have hl2 : bz < wr.heap.size := hZ.lt
    have hl3 : g < wr.heap.size := hI.lt
    have HI := Lib.hid hI
    have HS := Lib.hid hS
    have HZ := Lib.hid hZ
    have HB := Lib.hid hB
    by_cases hlt : k < 12
    · obtain ⟨e0, a0, y0⟩ := said k hlt
      obtain ⟨d0, d1, d2, d3, d4, d5, d6, d7, d8, d9, d10⟩ := scr_at k hlt
      have f0 : wr.cell? ⟨bs, k * 11, none⟩ = some (.int .i64 (opAt k).kind) := (hS.cell _).trans d0
      have f1 : wr.cell? ⟨bs, k * 11 + 1, none⟩ = some (.int .i64 (opAt k).c.v) := (hS.cell _).trans d1
      have f2 : wr.cell? ⟨bs, k * 11 + 2, none⟩ = some (.int .i64 (opAt k).c.base) := (hS.cell _).trans d2
      have f3 : wr.cell? ⟨bs, k * 11 + 3, none⟩ = some (.int .i64 (opAt k).c.most) := (hS.cell _).trans d3
      have f4 : wr.cell? ⟨bs, k * 11 + 4, none⟩ = some (.int .i64 (opAt k).c.tries) := (hS.cell _).trans d4
      have f5 : wr.cell? ⟨bs, k * 11 + 5, none⟩ = some (.int .i64 (opAt k).c.losses) := (hS.cell _).trans d5
      have f6 : wr.cell? ⟨bs, k * 11 + 6, none⟩ = some (.int .i64 (opAt k).c.wait) := (hS.cell _).trans d6
      have f7 : wr.cell? ⟨bs, k * 11 + 7, none⟩ = some (.int .i64 (opAt k).c.raise) := (hS.cell _).trans d7
      have f8 : wr.cell? ⟨bs, k * 11 + 8, none⟩ = some (.int .i64 (opAt k).n) := (hS.cell _).trans d8
      have f9 : wr.cell? ⟨bs, k * 11 + 9, none⟩ = some (.int .i64 (opAt k).size) := (hS.cell _).trans d9
      have f10 : wr.cell? ⟨bs, k * 11 + 10, none⟩ = some (.int .i64 (opAt k).now) := (hS.cell _).trans d10
      have fz : wr.cell? ⟨bz, k, none⟩ = some (.int .i64 (szAt k)) := (hZ.cell _).trans (sz_at k hlt)
      have q1 : (((stAt k).says (opAt k)).e != 0) = false := bne_eq_false_iff_eq.2 e0
      have q2 : (((stAt k).says (opAt k)).a != szAt k) = false := bne_eq_false_iff_eq.2 a0
      obtain ⟨b, hb⟩ : ∃ b, ((opAt k).kind != 2) = b := ⟨_, rfl⟩
      rw [hb] at y0
      cases b
      · clear d0 d1 d2 d3 d4 d5 d6 d7 d8 d9 d10 e0 a0 hI hS hZ hB
        go_wp2_with (go_at_call 12; (with_reducible refine (does_lit k (stAt k) g (opAt k) _ HI.out (stAt_inv k) (by omega)).mono ?_); rintro e w5 ⟨rfl, hp5⟩; have l1 : bs < w5.heap.size := Nat.lt_of_lt_of_le hl1 hp5.size; have l2 : bz < w5.heap.size := Nat.lt_of_lt_of_le hl2 hp5.size; have o1 : ∀ o i, (w5.alloc o).cell? ⟨bs, i, none⟩ = wr.cell? ⟨bs, i, none⟩ := (fun o i => (World.cell?_alloc_lt w5 o ⟨bs, i, none⟩ l1).trans (hp5.cell_other bs hl1 n1 i)); have o2 : ∀ o i, (w5.alloc o).cell? ⟨bz, i, none⟩ = wr.cell? ⟨bz, i, none⟩ := (fun o i => (World.cell?_alloc_lt w5 o ⟨bz, i, none⟩ l2).trans (hp5.cell_other bz hl2 n2 i)))
        go_quiet (fail)
        go_wp2_with fail
        go_roundw
        case rel =>
          exact ⟨k + 1, by omega, by go_num, ((hp5.blk : Is w5 g ((stAt k).after (opAt k))).alloc _).drewN _, ((put_blk hp5 HS.out n1).alloc _).drewN _, ((put_blk hp5 HZ.out n2).alloc _).drewN _, bdn ((Put.below HB.out hp5 hg).alloc (by have := HB.out.size; have := hp5.size; omega) _) _, hg, hb1, hb2⟩
        case measure => simp [intOf]; omega
      · clear d0 d1 d2 d3 d4 d5 d6 d7 d8 d9 d10 e0 a0 hI hS hZ hB
        go_wp2_with (go_at_call 12; (with_reducible refine (does_lit k (stAt k) g (opAt k) _ HI.out (stAt_inv k) (by omega)).mono ?_); rintro e w5 ⟨rfl, hp5⟩; have l1 : bs < w5.heap.size := Nat.lt_of_lt_of_le hl1 hp5.size; have l2 : bz < w5.heap.size := Nat.lt_of_lt_of_le hl2 hp5.size; have o1 : ∀ o i, (w5.alloc o).cell? ⟨bs, i, none⟩ = wr.cell? ⟨bs, i, none⟩ := (fun o i => (World.cell?_alloc_lt w5 o ⟨bs, i, none⟩ l1).trans (hp5.cell_other bs hl1 n1 i)); have o2 : ∀ o i, (w5.alloc o).cell? ⟨bz, i, none⟩ = wr.cell? ⟨bz, i, none⟩ := (fun o i => (World.cell?_alloc_lt w5 o ⟨bz, i, none⟩ l2).trans (hp5.cell_other bz hl2 n2 i)))
        go_quiet (fail)
        go_wp2_with fail
        go_roundw
        case rel =>
          exact ⟨k + 1, by omega, by go_num, ((hp5.blk : Is w5 g ((stAt k).after (opAt k))).alloc _).drewN _, ((put_blk hp5 HS.out n1).alloc _).drewN _, ((put_blk hp5 HZ.out n2).alloc _).drewN _, bdn ((Put.below HB.out hp5 hg).alloc (by have := HB.out.size; have := hp5.size; omega) _) _, hg, hb1, hb2⟩
        case measure => simp [intOf]; omega
    · obtain rfl : k = 12 := by omega
      obtain ⟨s1, s2, s3⟩ := last_said
      have m1 : ((stAt 12).nextA 108).1 = (0, 0, 1) := by rw [s1]
      have m2 : ((stAt 12).nextA 108).2 = stAt 12 := by rw [s1]
      have M1 := Lib.hid m1
      have M2 := Lib.hid m2
      have M3 := Lib.hid s2
      have M4 := Lib.hid s3
      clear s1 s2 s3 m1 m2 hI hS hZ hB
      go_wp2_with (first | (go_at_call 22; (with_reducible refine (next_any _ (stAt 12) g 108 _ HI.out (stAt_inv 12) (by omega)).mono ?_); rintro e w5 ⟨rfl, hp5⟩; rw [M1.out]; rw [M2.out] at hp5) | (go_at_call 14; (with_reducible refine (state_same (stAt 12) g _ hp5.blk).mono ?_); rintro e w' ⟨rfl, rfl⟩; rw [M3.out]) | (go_at_call 15; (with_reducible refine (size_same (stAt 12) g _ hp5.blk).mono ?_); rintro e w' ⟨rfl, rfl⟩; rw [M4.out]))
      go_ret
      exact ⟨rfl, Put.below HB.out hp5 hg⟩
end Go.Proofs.Ytmanojnhjhpokaa.PB
