/-
  R8: Walks of windrowref14: Little, Same, Lay.
  R7: Walks of windrowref03.
-/
import Derived.Test.YtecaahcbbdbpbaaW14
import Derived.Test.YtecaahcbbdbpbaaW15
import Derived.Test.YtecaahcbbdbpbaaW18
namespace Go.Eng
open Wr
set_option linter.unusedVariables false
set_option linter.unusedSimpArgs false
/-- bounds of a measure, but for its conventional zones' sectors -/
structure GB (g : Geom) : Prop where
  c : 2 ≤ g.conv
  s : 6 ≤ g.seq
  z : g.conv + g.seq ≤ 64
  n : 8 ≤ g.size
  m : g.size ≤ 256
theorem GOk.gb {g : Geom} (h : GOk g) : GB g := ⟨h.c, h.s, h.z, h.n, h.m⟩
theorem c_r03_Blocks {g : Geom} {H : AH} (h : GB g) : Acalls P0 S0 59 [.agg (gC g)] H fun v H' => v = I (blocks g) ∧ Fr No H H' := by
  have h1 := h.s; have h2 := h.z; have h3 := h.n; have h4 := h.m; have h5 := h.c
  refine Acalls.go m59 rfl ?_
  rw [slots0_1]; unfold b59
  generalize hbb : blocks g = bb
  have hq : g.size.tdiv 2 = g.size / 2 := Int.tdiv_eq_ediv_of_nonneg (by omega)
  have hM : ∀ k : Nat, (k : Int) ≤ 64 → 0 ≤ (k : Int) * (g.size / 2) ∧ (k : Int) * (g.size / 2) ≤ 16384 := fun k hk => mul_le_16 (by omega) (by omega) (by omega) (by omega)
  simp (disch := first | omega | assumption | exact id rfl | (simp only [okw_wr]; assumption)) only [RC, RO, RM, RT, AV.cells, Option.map_some, AV.one, AV.all1, i64_wrap, u64_wrap, u32_wrap, u8_wrap, Nat.zero_add, Nat.add_zero, Nat.reduceEqDiff, Nat.reduceLeDiff, Nat.reduceAdd, Nat.left_eq_add, Nat.add_eq_left, Nat.add_left_cancel_iff, reduceIte, eq_self, decide_true, decide_false, Bool.not_true, Bool.not_false, reduceCtorEq, List.getElem?_cons_zero, List.getElem?_cons_succ, List.set_cons_zero, List.set_cons_succ]
  refine Cs_loop (fun m T H' => ∃ k : Nat, (m : Int) + k = g.seq - 5 ∧ T 1 = .ptr (some (H.n, 0)) ∧ T 4 = I (5 + k) ∧ T 3 = I (k * (g.size / 2)) ∧ H'.g H.n = .cells (gC g) 23 false ∧ Fr No H H') (n := (g.seq - 5).toNat) ⟨0, by omega, ?_⟩ ?_
  · simp (disch := omega) only [upd_ne, upd_same]
    exact ⟨(by first | trivial | rfl), by simp, by simp, (by first | trivial | rfl), by (refine ⟨by (try simp only []); omega, fun b hb hm => ?_⟩; simp (disch := first | omega | assumption) only [upd_ne])⟩
  · rintro m T H2 ⟨k, hm, t1, t4, t3, g2, f2⟩
    have hk := hM k (by omega)
    have e1 : ((k + 1 : Nat) : Int) * (g.size / 2) = k * (g.size / 2) + g.size / 2 := by rw [Int.natCast_succ, Int.add_mul, Int.one_mul]
    generalize hx : (k : Int) * (g.size / 2) = x at *
    (simp (disch := first | omega | assumption | exact id rfl | (simp only [okw_wr]; assumption)) only [t1, t4, t3, g2, hq, RC, RO, RM, RT, AV.cells, Option.map_some, AV.one, AV.all1, i64_wrap, u64_wrap, u32_wrap, u8_wrap, Nat.zero_add, Nat.add_zero, Nat.reduceEqDiff, Nat.reduceLeDiff, Nat.reduceAdd, Nat.left_eq_add, Nat.add_eq_left, Nat.add_left_cancel_iff, reduceIte, eq_self, decide_true, decide_false, Bool.not_true, Bool.not_false, reduceCtorEq, List.getElem?_cons_zero, List.getElem?_cons_succ, List.set_cons_zero, List.set_cons_succ]; repeat' (first | (refine Gs_split (fun hb => ?_) (fun hb => ?_) <;> (simp only [hb]; (try simp only [decide_eq_true_eq, decide_eq_false_iff_not, Bool.not_eq_true', Bool.not_eq_false', ne_eq, Decidable.not_not, not_true_eq_false] at hb); (try simp (disch := first | omega | assumption | exact id rfl | (simp only [okw_wr]; assumption)) only [t1, t4, t3, g2, hq, RC, RO, RM, RT, AV.cells, Option.map_some, AV.one, AV.all1, i64_wrap, u64_wrap, u32_wrap, u8_wrap, Nat.zero_add, Nat.add_zero, Nat.reduceEqDiff, Nat.reduceLeDiff, Nat.reduceAdd, Nat.left_eq_add, Nat.add_eq_left, Nat.add_left_cancel_iff, reduceIte, eq_self, decide_true, decide_false, Bool.not_true, Bool.not_false, reduceCtorEq, List.getElem?_cons_zero, List.getElem?_cons_succ, List.set_cons_zero, List.set_cons_succ]))) | (refine Is_split (fun hb => ?_) (fun hb => ?_) <;> (simp only [hb]; (try simp only [decide_eq_true_eq, decide_eq_false_iff_not, Bool.not_eq_true', Bool.not_eq_false', ne_eq, Decidable.not_not, not_true_eq_false] at hb); (try simp (disch := first | omega | assumption | exact id rfl | (simp only [okw_wr]; assumption)) only [t1, t4, t3, g2, hq, RC, RO, RM, RT, AV.cells, Option.map_some, AV.one, AV.all1, i64_wrap, u64_wrap, u32_wrap, u8_wrap, Nat.zero_add, Nat.add_zero, Nat.reduceEqDiff, Nat.reduceLeDiff, Nat.reduceAdd, Nat.left_eq_add, Nat.add_eq_left, Nat.add_left_cancel_iff, reduceIte, eq_self, decide_true, decide_false, Bool.not_true, Bool.not_false, reduceCtorEq, List.getElem?_cons_zero, List.getElem?_cons_succ, List.set_cons_zero, List.set_cons_succ]))) | (refine Dg_split (fun hb => ?_) (fun hb => ?_) <;> (simp only [hb]; (try simp only [decide_eq_true_eq, decide_eq_false_iff_not, Bool.not_eq_true', Bool.not_eq_false', ne_eq, Decidable.not_not, not_true_eq_false] at hb); (try simp (disch := first | omega | assumption | exact id rfl | (simp only [okw_wr]; assumption)) only [t1, t4, t3, g2, hq, RC, RO, RM, RT, AV.cells, Option.map_some, AV.one, AV.all1, i64_wrap, u64_wrap, u32_wrap, u8_wrap, Nat.zero_add, Nat.add_zero, Nat.reduceEqDiff, Nat.reduceLeDiff, Nat.reduceAdd, Nat.left_eq_add, Nat.add_eq_left, Nat.add_left_cancel_iff, reduceIte, eq_self, decide_true, decide_false, Bool.not_true, Bool.not_false, reduceCtorEq, List.getElem?_cons_zero, List.getElem?_cons_succ, List.set_cons_zero, List.set_cons_succ])))))
    · refine ⟨m - 1, by omega, k + 1, by omega, (by first | trivial | rfl), ?_, ?_, (by first | trivial | rfl), f2⟩
      · congr 1 <;> omega
      · first | done | rw [e1]
    · refine ⟨?_, f2⟩
      have hk5 : (k : Int) = g.seq - 5 := by omega
      rw [← hbb]; unfold blocks
      rw [← hk5, hx, Int.min_eq_right (by omega)]
    · refine ⟨?_, f2⟩
      have hk5 : (k : Int) = g.seq - 5 := by omega
      rw [← hbb]; unfold blocks
      rw [← hk5, hx, Int.min_eq_left (by omega)]
theorem blocks_rng {g : Geom} (h : GB g) : 0 ≤ blocks g ∧ blocks g ≤ 4096 := by
  have h1 := h.s; have h2 := h.z; have h3 := h.n; have h4 := h.m; have h5 := h.c
  have := mul_le_16 (a := g.seq - 5) (b := g.size / 2) (by omega) (by omega) (by omega) (by omega)
  unfold blocks; omega
theorem c_r03_Pages {g : Geom} {H : AH} (h : GB g) : Acalls P0 S0 35 [.agg (gC g)] H fun v H' => v = I (pages g) ∧ Fr No H H' := by
  have hr := blocks_rng h
  refine Acalls.go m35 rfl ?_
  rw [slots0_1]; unfold b35
  generalize hpp : pages g = pp
  unfold pages at hpp
  simp (disch := first | omega | assumption | exact id rfl | (simp only [okw_wr]; assumption)) only [RC, RO, RM, RT, AV.cells, Option.map_some, AV.one, AV.all1, i64_wrap, u64_wrap, u32_wrap, u8_wrap, Nat.zero_add, Nat.add_zero, Nat.reduceEqDiff, Nat.reduceLeDiff, Nat.reduceAdd, Nat.left_eq_add, Nat.add_eq_left, Nat.add_left_cancel_iff, reduceIte, eq_self, decide_true, decide_false, Bool.not_true, Bool.not_false, reduceCtorEq, List.getElem?_cons_zero, List.getElem?_cons_succ, List.set_cons_zero, List.set_cons_succ]
  refine Cs_loop (fun m T H' => ∃ k : Nat, m + k = 500 ∧ (0 < k → 10 * ((k : Int) - 1) < blocks g) ∧ T 1 = .ptr (some (H.n, 0)) ∧ T 3 = I k ∧ H'.g H.n = .cells (gC g) 23 false ∧ H.n < H'.n ∧ Fr No H H') (n := 500) ⟨0, rfl, by omega, ?_⟩ ?_
  · simp (disch := omega) only [upd_ne, upd_same]
    exact ⟨(by first | trivial | rfl), rfl, (by first | trivial | rfl), by omega, by (refine ⟨by (try simp only []); omega, fun b hb hm => ?_⟩; simp (disch := first | omega | assumption) only [upd_ne])⟩
  · rintro m T H2 ⟨k, hm, hk, t1, t3, g2, lt2, f2⟩
    have q2 := f2.n
    by_cases hk0 : 10 * (k : Int) < blocks g
    · simp (disch := first | omega | assumption | exact id rfl | (simp only [okw_wr]; assumption)) only [t1, t3, g2, RC, RO, RM, RT, AV.cells, Option.map_some, AV.one, AV.all1, i64_wrap, u64_wrap, u32_wrap, u8_wrap, Nat.zero_add, Nat.add_zero, Nat.reduceEqDiff, Nat.reduceLeDiff, Nat.reduceAdd, Nat.left_eq_add, Nat.add_eq_left, Nat.add_left_cancel_iff, reduceIte, eq_self, decide_true, decide_false, Bool.not_true, Bool.not_false, reduceCtorEq, List.getElem?_cons_zero, List.getElem?_cons_succ, List.set_cons_zero, List.set_cons_succ]
      refine (c_r03_Blocks h).mono ?_
      rintro _ H3 ⟨rfl, f3⟩
      have g3 : H3.g H.n = .cells (gC g) 23 false := by rw [f3.at lt2, g2]
      have q3 := f3.n
      have hd : decide (10 * (k : Int) < blocks g) = true := decide_eq_true hk0
      simp (disch := first | omega | assumption | exact id rfl | (simp only [okw_wr]; assumption)) only [t1, t3, hd, RC, RO, RM, RT, AV.cells, Option.map_some, AV.one, AV.all1, i64_wrap, u64_wrap, u32_wrap, u8_wrap, Nat.zero_add, Nat.add_zero, Nat.reduceEqDiff, Nat.reduceLeDiff, Nat.reduceAdd, Nat.left_eq_add, Nat.add_eq_left, Nat.add_left_cancel_iff, reduceIte, eq_self, decide_true, decide_false, Bool.not_true, Bool.not_false, reduceCtorEq, List.getElem?_cons_zero, List.getElem?_cons_succ, List.set_cons_zero, List.set_cons_succ]
      refine ⟨m - 1, by omega, k + 1, by omega, fun _ => by omega, (by first | trivial | rfl), by rw [Int.natCast_succ], (by first | trivial | rfl), by omega, f2.trans f3⟩
    · simp (disch := first | omega | assumption | exact id rfl | (simp only [okw_wr]; assumption)) only [t1, t3, g2, RC, RO, RM, RT, AV.cells, Option.map_some, AV.one, AV.all1, i64_wrap, u64_wrap, u32_wrap, u8_wrap, Nat.zero_add, Nat.add_zero, Nat.reduceEqDiff, Nat.reduceLeDiff, Nat.reduceAdd, Nat.left_eq_add, Nat.add_eq_left, Nat.add_left_cancel_iff, reduceIte, eq_self, decide_true, decide_false, Bool.not_true, Bool.not_false, reduceCtorEq, List.getElem?_cons_zero, List.getElem?_cons_succ, List.set_cons_zero, List.set_cons_succ]
      refine (c_r03_Blocks h).mono ?_
      rintro _ H3 ⟨rfl, f3⟩
      have hd : decide (10 * (k : Int) < blocks g) = false := decide_eq_false hk0
      simp (disch := first | omega | assumption | exact id rfl | (simp only [okw_wr]; assumption)) only [t1, t3, hd, RC, RO, RM, RT, AV.cells, Option.map_some, AV.one, AV.all1, i64_wrap, u64_wrap, u32_wrap, u8_wrap, Nat.zero_add, Nat.add_zero, Nat.reduceEqDiff, Nat.reduceLeDiff, Nat.reduceAdd, Nat.left_eq_add, Nat.add_eq_left, Nat.add_left_cancel_iff, reduceIte, eq_self, decide_true, decide_false, Bool.not_true, Bool.not_false, reduceCtorEq, List.getElem?_cons_zero, List.getElem?_cons_succ, List.set_cons_zero, List.set_cons_succ]
      refine ⟨?_, f2.trans f3⟩
      rw [← hpp]; congr 1
      by_cases hk1 : 0 < k
      · have := hk hk1; omega
      · omega
theorem gright_iff (g : Geom) : gright g = true ↔ 2 ≤ g.conv ∧ 6 ≤ g.seq ∧ g.conv ≤ 64 ∧ g.seq ≤ 64 - g.conv ∧ 8 ≤ g.size ∧ g.size ≤ 256 ∧ 3 ≤ g.opn ∧ pages g + 3 ≤ g.soft ∧ g.soft ≤ 65536 := by
  unfold gright; simp only [Bool.and_eq_true, decide_eq_true_eq, and_assoc]
theorem c_r03_Right {g : Geom} {H : AH} : Acalls P0 S0 17 [.agg (gC g)] H fun v H' => v = .bool (gright g) ∧ Fr No H H' := by
  refine Acalls.go m17 rfl ?_
  rw [slots0_1]; unfold b17
  have hgi := gright_iff g
  generalize hr : gright g = q at hgi ⊢
  (simp (disch := first | omega | assumption | exact id rfl | (simp only [okw_wr]; assumption)) only [RC, RO, RM, RT, AV.cells, Option.map_some, AV.one, AV.all1, i64_wrap, u64_wrap, u32_wrap, u8_wrap, Nat.zero_add, Nat.add_zero, Nat.reduceEqDiff, Nat.reduceLeDiff, Nat.reduceAdd, Nat.left_eq_add, Nat.add_eq_left, Nat.add_left_cancel_iff, reduceIte, eq_self, decide_true, decide_false, Bool.not_true, Bool.not_false, reduceCtorEq, List.getElem?_cons_zero, List.getElem?_cons_succ, List.set_cons_zero, List.set_cons_succ]; repeat' (first | (refine Gs_split (fun hb => ?_) (fun hb => ?_) <;> (simp only [hb]; (try simp only [decide_eq_true_eq, decide_eq_false_iff_not, Bool.not_eq_true', Bool.not_eq_false', ne_eq, Decidable.not_not, not_true_eq_false] at hb); (try simp (disch := first | omega | assumption | exact id rfl | (simp only [okw_wr]; assumption)) only [RC, RO, RM, RT, AV.cells, Option.map_some, AV.one, AV.all1, i64_wrap, u64_wrap, u32_wrap, u8_wrap, Nat.zero_add, Nat.add_zero, Nat.reduceEqDiff, Nat.reduceLeDiff, Nat.reduceAdd, Nat.left_eq_add, Nat.add_eq_left, Nat.add_left_cancel_iff, reduceIte, eq_self, decide_true, decide_false, Bool.not_true, Bool.not_false, reduceCtorEq, List.getElem?_cons_zero, List.getElem?_cons_succ, List.set_cons_zero, List.set_cons_succ]))) | (refine Is_split (fun hb => ?_) (fun hb => ?_) <;> (simp only [hb]; (try simp only [decide_eq_true_eq, decide_eq_false_iff_not, Bool.not_eq_true', Bool.not_eq_false', ne_eq, Decidable.not_not, not_true_eq_false] at hb); (try simp (disch := first | omega | assumption | exact id rfl | (simp only [okw_wr]; assumption)) only [RC, RO, RM, RT, AV.cells, Option.map_some, AV.one, AV.all1, i64_wrap, u64_wrap, u32_wrap, u8_wrap, Nat.zero_add, Nat.add_zero, Nat.reduceEqDiff, Nat.reduceLeDiff, Nat.reduceAdd, Nat.left_eq_add, Nat.add_eq_left, Nat.add_left_cancel_iff, reduceIte, eq_self, decide_true, decide_false, Bool.not_true, Bool.not_false, reduceCtorEq, List.getElem?_cons_zero, List.getElem?_cons_succ, List.set_cons_zero, List.set_cons_succ]))) | (refine Dg_split (fun hb => ?_) (fun hb => ?_) <;> (simp only [hb]; (try simp only [decide_eq_true_eq, decide_eq_false_iff_not, Bool.not_eq_true', Bool.not_eq_false', ne_eq, Decidable.not_not, not_true_eq_false] at hb); (try simp (disch := first | omega | assumption | exact id rfl | (simp only [okw_wr]; assumption)) only [RC, RO, RM, RT, AV.cells, Option.map_some, AV.one, AV.all1, i64_wrap, u64_wrap, u32_wrap, u8_wrap, Nat.zero_add, Nat.add_zero, Nat.reduceEqDiff, Nat.reduceLeDiff, Nat.reduceAdd, Nat.left_eq_add, Nat.add_eq_left, Nat.add_left_cancel_iff, reduceIte, eq_self, decide_true, decide_false, Bool.not_true, Bool.not_false, reduceCtorEq, List.getElem?_cons_zero, List.getElem?_cons_succ, List.set_cons_zero, List.set_cons_succ])))))
  all_goals first
    | (refine ⟨?_, by (refine ⟨by (try simp only []); omega, fun b hb hm => ?_⟩; simp (disch := first | omega | assumption) only [upd_ne])⟩; cases q; rfl; exact absurd (hgi.mp rfl) (by intro hh; omega))
    | skip
  have gb : GB g := ⟨by omega, by omega, by omega, by omega, by omega⟩
  have hp := blocks_rng gb
  have hpg : 0 ≤ pages g ∧ pages g ≤ 500 := by unfold pages; omega
  refine (c_r03_Pages gb).mono ?_
  rintro _ H2 ⟨rfl, f2⟩
  refine ⟨rfl, ?_⟩
  simp (disch := first | omega | assumption | exact id rfl | (simp only [okw_wr]; assumption)) only [RC, RO, RM, RT, AV.cells, Option.map_some, AV.one, AV.all1, i64_wrap, u64_wrap, u32_wrap, u8_wrap, Nat.zero_add, Nat.add_zero, Nat.reduceEqDiff, Nat.reduceLeDiff, Nat.reduceAdd, Nat.left_eq_add, Nat.add_eq_left, Nat.add_left_cancel_iff, reduceIte, eq_self, decide_true, decide_false, Bool.not_true, Bool.not_false, reduceCtorEq, List.getElem?_cons_zero, List.getElem?_cons_succ, List.set_cons_zero, List.set_cons_succ]
  refine ⟨?_, by (refine ⟨by (try simp only []); omega, fun b hb hm => ?_⟩; simp (disch := first | omega | assumption) only [upd_ne])⟩
  have : (q = true) ↔ pages g + 3 ≤ g.soft := by rw [hgi]; constructor <;> intro h <;> omega
  cases q
  · congr 1; exact decide_eq_false (fun h => by have := this.mpr h; cases this)
  · congr 1; exact decide_eq_true (this.mp rfl)
theorem num_rng {g : Geom} (h : GB g) {k : Int} (hk : 0 ≤ k ∧ k ≤ 64) : 0 ≤ k * g.size ∧ k * g.size ≤ 16384 := mul_le_16 hk.1 hk.2 (by have := h.n; omega) h.m
set_option maxHeartbeats 1000000 in
theorem c_r03_Num {g : Geom} {a : At} {H : AH} (h : GB g) : Acalls P0 S0 31 [.agg (gC g), .agg (aC a)] H fun v H' => v = I (num g a) ∧ Fr No H H' := by
  have h1 := h.s; have h2 := h.z; have h3 := h.n; have h4 := h.m; have h5 := h.c
  refine Acalls.go m31 rfl ?_
  rw [slots0_2]; unfold b31
  generalize hnum : num g a = q
  unfold num zones at hnum
  simp (disch := first | omega | assumption | exact id rfl | (simp only [okw_wr]; assumption)) only [RC, RO, RM, RT, AV.cells, Option.map_some, AV.one, AV.all1, i64_wrap, u64_wrap, u32_wrap, u8_wrap, Nat.zero_add, Nat.add_zero, Nat.reduceEqDiff, Nat.reduceLeDiff, Nat.reduceAdd, Nat.left_eq_add, Nat.add_eq_left, Nat.add_left_cancel_iff, reduceIte, eq_self, decide_true, decide_false, Bool.not_true, Bool.not_false, reduceCtorEq, List.getElem?_cons_zero, List.getElem?_cons_succ, List.set_cons_zero, List.set_cons_succ]
  refine Cs_loop (fun m T H' => ∃ k : Nat, (m : Int) + k = g.seq ∧ T 2 = .ptr (some (H.n, 0)) ∧ T 3 = .ptr (some (H.n + 1, 0)) ∧ T 6 = I (g.conv + k) ∧ T 5 = I (k * g.size) ∧ ¬ (g.conv ≤ a.zone ∧ a.zone < g.conv + k ∧ 0 ≤ a.off ∧ a.off < g.size) ∧ H'.g H.n = .cells (gC g) 23 false ∧ H'.g (H.n + 1) = .cells (aC a) 67 false ∧ Fr No H H') (n := g.seq.toNat) ⟨0, by omega, ?_⟩ ?_
  · simp (disch := omega) only [upd_ne, upd_same]
    exact ⟨(by first | trivial | rfl), (by first | trivial | rfl), by simp, by simp, by omega, (by first | trivial | rfl), (by first | trivial | rfl), by (refine ⟨by (try simp only []); omega, fun b hb hm => ?_⟩; simp (disch := first | omega | assumption) only [upd_ne])⟩
  · rintro m T H2 ⟨k, hm, t2, t3, t6, t5, hno, g2, a2, f2⟩
    simp (disch := first | omega | assumption | exact id rfl | (simp only [okw_wr]; assumption)) only [t2, t3, t6, t5, g2, RC, RO, RM, RT, AV.cells, Option.map_some, AV.one, AV.all1, i64_wrap, u64_wrap, u32_wrap, u8_wrap, Nat.zero_add, Nat.add_zero, Nat.reduceEqDiff, Nat.reduceLeDiff, Nat.reduceAdd, Nat.left_eq_add, Nat.add_eq_left, Nat.add_left_cancel_iff, reduceIte, eq_self, decide_true, decide_false, Bool.not_true, Bool.not_false, reduceCtorEq, List.getElem?_cons_zero, List.getElem?_cons_succ, List.set_cons_zero, List.set_cons_succ]
    refine Is_split (fun hb => ?_) (fun hb => ?_)
    · have hk := of_decide_eq_true hb
      simp only [hb]
      have hM := num_rng h (k := k) (by omega)
      have hM1 := num_rng h (k := (k + 1 : Nat)) (by omega)
      have e1 : ((k + 1 : Nat) : Int) * g.size = k * g.size + g.size := by rw [Int.natCast_succ, Int.add_mul, Int.one_mul]
      have hz : a.zone = g.conv + k → (a.zone - g.conv) * g.size = k * g.size := fun hz => by rw [hz]; congr 1; omega
      rw [e1] at hM1
      simp (disch := first | omega | assumption | exact id rfl | (simp only [okw_wr]; assumption)) only [t2, t3, t6, t5, RC, RO, RM, RT, AV.cells, Option.map_some, AV.one, AV.all1, i64_wrap, u64_wrap, u32_wrap, u8_wrap, Nat.zero_add, Nat.add_zero, Nat.reduceEqDiff, Nat.reduceLeDiff, Nat.reduceAdd, Nat.left_eq_add, Nat.add_eq_left, Nat.add_left_cancel_iff, reduceIte, eq_self, decide_true, decide_false, Bool.not_true, Bool.not_false, reduceCtorEq, List.getElem?_cons_zero, List.getElem?_cons_succ, List.set_cons_zero, List.set_cons_succ]
      refine Cs_loop (fun m' T' H' => ∃ o : Nat, (m' : Int) + o = g.size ∧ T' 2 = .ptr (some (H.n, 0)) ∧ T' 3 = .ptr (some (H.n + 1, 0)) ∧ T' 6 = I (g.conv + k) ∧ T' 7 = I o ∧ T' 5 = I (k * g.size + o) ∧ ¬ (a.zone = g.conv + k ∧ 0 ≤ a.off ∧ a.off < o) ∧ H'.g H.n = .cells (gC g) 23 false ∧ H'.g (H.n + 1) = .cells (aC a) 67 false ∧ Fr No H H') (n := g.size.toNat) ⟨0, by omega, ?_⟩ ?_
      · simp (disch := omega) only [upd_ne, upd_same, t2, t3, t6, t5]
        exact ⟨(by first | trivial | rfl), (by first | trivial | rfl), (by first | trivial | rfl), rfl, by simp, by omega, g2, a2, f2⟩
      · rintro m' T' H3 ⟨o, ho, k2, k3, k6, k7, k5, hno2, g3, a3, f3⟩
        generalize hx : (k : Int) * g.size = x at *
        (simp (disch := first | omega | assumption | exact id rfl | (simp only [okw_wr]; assumption)) only [k2, k3, k6, k7, k5, g3, a3, RC, RO, RM, RT, AV.cells, Option.map_some, AV.one, AV.all1, i64_wrap, u64_wrap, u32_wrap, u8_wrap, Nat.zero_add, Nat.add_zero, Nat.reduceEqDiff, Nat.reduceLeDiff, Nat.reduceAdd, Nat.left_eq_add, Nat.add_eq_left, Nat.add_left_cancel_iff, reduceIte, eq_self, decide_true, decide_false, Bool.not_true, Bool.not_false, reduceCtorEq, List.getElem?_cons_zero, List.getElem?_cons_succ, List.set_cons_zero, List.set_cons_succ]; repeat' (first | (refine Gs_split (fun hb => ?_) (fun hb => ?_) <;> (simp only [hb]; (try simp only [decide_eq_true_eq, decide_eq_false_iff_not, Bool.not_eq_true', Bool.not_eq_false', ne_eq, Decidable.not_not, not_true_eq_false] at hb); (try simp (disch := first | omega | assumption | exact id rfl | (simp only [okw_wr]; assumption)) only [k2, k3, k6, k7, k5, g3, a3, RC, RO, RM, RT, AV.cells, Option.map_some, AV.one, AV.all1, i64_wrap, u64_wrap, u32_wrap, u8_wrap, Nat.zero_add, Nat.add_zero, Nat.reduceEqDiff, Nat.reduceLeDiff, Nat.reduceAdd, Nat.left_eq_add, Nat.add_eq_left, Nat.add_left_cancel_iff, reduceIte, eq_self, decide_true, decide_false, Bool.not_true, Bool.not_false, reduceCtorEq, List.getElem?_cons_zero, List.getElem?_cons_succ, List.set_cons_zero, List.set_cons_succ]))) | (refine Is_split (fun hb => ?_) (fun hb => ?_) <;> (simp only [hb]; (try simp only [decide_eq_true_eq, decide_eq_false_iff_not, Bool.not_eq_true', Bool.not_eq_false', ne_eq, Decidable.not_not, not_true_eq_false] at hb); (try simp (disch := first | omega | assumption | exact id rfl | (simp only [okw_wr]; assumption)) only [k2, k3, k6, k7, k5, g3, a3, RC, RO, RM, RT, AV.cells, Option.map_some, AV.one, AV.all1, i64_wrap, u64_wrap, u32_wrap, u8_wrap, Nat.zero_add, Nat.add_zero, Nat.reduceEqDiff, Nat.reduceLeDiff, Nat.reduceAdd, Nat.left_eq_add, Nat.add_eq_left, Nat.add_left_cancel_iff, reduceIte, eq_self, decide_true, decide_false, Bool.not_true, Bool.not_false, reduceCtorEq, List.getElem?_cons_zero, List.getElem?_cons_succ, List.set_cons_zero, List.set_cons_succ]))) | (refine Dg_split (fun hb => ?_) (fun hb => ?_) <;> (simp only [hb]; (try simp only [decide_eq_true_eq, decide_eq_false_iff_not, Bool.not_eq_true', Bool.not_eq_false', ne_eq, Decidable.not_not, not_true_eq_false] at hb); (try simp (disch := first | omega | assumption | exact id rfl | (simp only [okw_wr]; assumption)) only [k2, k3, k6, k7, k5, g3, a3, RC, RO, RM, RT, AV.cells, Option.map_some, AV.one, AV.all1, i64_wrap, u64_wrap, u32_wrap, u8_wrap, Nat.zero_add, Nat.add_zero, Nat.reduceEqDiff, Nat.reduceLeDiff, Nat.reduceAdd, Nat.left_eq_add, Nat.add_eq_left, Nat.add_left_cancel_iff, reduceIte, eq_self, decide_true, decide_false, Bool.not_true, Bool.not_false, reduceCtorEq, List.getElem?_cons_zero, List.getElem?_cons_succ, List.set_cons_zero, List.set_cons_succ])))))
        · refine ⟨?_, f3⟩
          rename_i hza
          have hzz := hz hza
          rw [← hnum, if_neg (by omega), if_neg (by omega), if_neg (by omega), if_neg (by omega), hzz]
          congr 1; omega
        · refine ⟨m' - 1, by omega, o + 1, by omega, (by first | trivial | rfl), (by first | trivial | rfl), (by first | trivial | rfl), by rw [Int.natCast_succ], ?_, by omega, (by first | trivial | rfl), (by first | trivial | rfl), f3⟩
          congr 1; omega
        · refine ⟨m' - 1, by omega, o + 1, by omega, (by first | trivial | rfl), (by first | trivial | rfl), (by first | trivial | rfl), by rw [Int.natCast_succ], ?_, by omega, (by first | trivial | rfl), (by first | trivial | rfl), f3⟩
          congr 1; omega
        · refine ⟨m - 1, by omega, k + 1, by omega, (by first | trivial | rfl), (by first | trivial | rfl), ?_, ?_, by omega, (by first | trivial | rfl), (by first | trivial | rfl), f3⟩
          · congr 1; omega
          · rw [e1]; congr 1; omega
    · have hk := of_decide_eq_false hb
      simp only [hb]
      simp (disch := first | omega | assumption | exact id rfl | (simp only [okw_wr]; assumption)) only [t2, t3, t6, t5, RC, RO, RM, RT, AV.cells, Option.map_some, AV.one, AV.all1, i64_wrap, u64_wrap, u32_wrap, u8_wrap, Nat.zero_add, Nat.add_zero, Nat.reduceEqDiff, Nat.reduceLeDiff, Nat.reduceAdd, Nat.left_eq_add, Nat.add_eq_left, Nat.add_left_cancel_iff, reduceIte, eq_self, decide_true, decide_false, Bool.not_true, Bool.not_false, reduceCtorEq, List.getElem?_cons_zero, List.getElem?_cons_succ, List.set_cons_zero, List.set_cons_succ]
      refine ⟨?_, f2⟩
      rw [← hnum]
      by_cases c1 : a.zone < g.conv
      · rw [if_pos c1]
      · rw [if_neg c1]
        by_cases c2 : a.zone ≥ g.conv + g.seq
        · rw [if_pos c2]
        · rw [if_neg c2]
          by_cases c3 : a.off < 0
          · rw [if_pos c3]
          · rw [if_neg c3, if_pos (by omega)]
end Go.Eng
namespace Go.Eng
open Wr
set_option linter.unusedVariables false
set_option linter.unusedSimpArgs false
def little (g : Geom) : Bool := gright g && decide (g.conv + g.seq ≤ 14) && decide (g.size ≤ 24) && decide (g.soft ≤ 60)
theorem c_r14_Little {g : Geom} {H : AH} : Acalls P0 S0 6 [.agg (gC g)] H fun v H' => v = .bool (little g) ∧ Fr No H H' := by
  refine Acalls.go m6 rfl ?_
  rw [slots0_1]; unfold b6
  simp (disch := first | omega | assumption | exact id rfl | (simp only [okw_wr]; assumption)) only [RC, RO, RM, RT, AV.cells, Option.map_some, AV.one, AV.all1, i64_wrap, u64_wrap, u32_wrap, u8_wrap, Nat.zero_add, Nat.add_zero, Nat.reduceEqDiff, Nat.reduceLeDiff, Nat.reduceAdd, Nat.left_eq_add, Nat.add_eq_left, Nat.add_left_cancel_iff, reduceIte, eq_self, decide_true, decide_false, Bool.not_true, Bool.not_false, reduceCtorEq, List.getElem?_cons_zero, List.getElem?_cons_succ, List.set_cons_zero, List.set_cons_succ]
  refine (c_r03_Right (g := g)).mono ?_
  rintro _ H1 ⟨rfl, f1⟩
  have q1 := f1.le
  have hgi := gright_iff g
  have hl : little g = true ↔ (gright g = true ∧ g.conv + g.seq ≤ 14 ∧ g.size ≤ 24 ∧ g.soft ≤ 60) := by unfold little; simp only [Bool.and_eq_true, decide_eq_true_eq, and_assoc]
  generalize hlq : little g = lq at hl ⊢
  by_cases hg : gright g = true
  · have := hgi.mp hg
    have hw : IntKind.i64.wrap (g.conv + g.seq) = g.conv + g.seq := i64_wrap (by omega)
    (simp (disch := first | omega | assumption | exact id rfl | (simp only [okw_wr]; assumption)) only [f1.old, hw, hg, RC, RO, RM, RT, AV.cells, Option.map_some, AV.one, AV.all1, i64_wrap, u64_wrap, u32_wrap, u8_wrap, Nat.zero_add, Nat.add_zero, Nat.reduceEqDiff, Nat.reduceLeDiff, Nat.reduceAdd, Nat.left_eq_add, Nat.add_eq_left, Nat.add_left_cancel_iff, reduceIte, eq_self, decide_true, decide_false, Bool.not_true, Bool.not_false, reduceCtorEq, List.getElem?_cons_zero, List.getElem?_cons_succ, List.set_cons_zero, List.set_cons_succ]; repeat' (first | (refine Gs_split (fun hb => ?_) (fun hb => ?_) <;> (simp only [hb]; (try simp only [decide_eq_true_eq, decide_eq_false_iff_not, Bool.not_eq_true', Bool.not_eq_false', ne_eq, Decidable.not_not, not_true_eq_false] at hb); (try simp (disch := first | omega | assumption | exact id rfl | (simp only [okw_wr]; assumption)) only [f1.old, hw, hg, RC, RO, RM, RT, AV.cells, Option.map_some, AV.one, AV.all1, i64_wrap, u64_wrap, u32_wrap, u8_wrap, Nat.zero_add, Nat.add_zero, Nat.reduceEqDiff, Nat.reduceLeDiff, Nat.reduceAdd, Nat.left_eq_add, Nat.add_eq_left, Nat.add_left_cancel_iff, reduceIte, eq_self, decide_true, decide_false, Bool.not_true, Bool.not_false, reduceCtorEq, List.getElem?_cons_zero, List.getElem?_cons_succ, List.set_cons_zero, List.set_cons_succ]))) | (refine Is_split (fun hb => ?_) (fun hb => ?_) <;> (simp only [hb]; (try simp only [decide_eq_true_eq, decide_eq_false_iff_not, Bool.not_eq_true', Bool.not_eq_false', ne_eq, Decidable.not_not, not_true_eq_false] at hb); (try simp (disch := first | omega | assumption | exact id rfl | (simp only [okw_wr]; assumption)) only [f1.old, hw, hg, RC, RO, RM, RT, AV.cells, Option.map_some, AV.one, AV.all1, i64_wrap, u64_wrap, u32_wrap, u8_wrap, Nat.zero_add, Nat.add_zero, Nat.reduceEqDiff, Nat.reduceLeDiff, Nat.reduceAdd, Nat.left_eq_add, Nat.add_eq_left, Nat.add_left_cancel_iff, reduceIte, eq_self, decide_true, decide_false, Bool.not_true, Bool.not_false, reduceCtorEq, List.getElem?_cons_zero, List.getElem?_cons_succ, List.set_cons_zero, List.set_cons_succ]))) | (refine Dg_split (fun hb => ?_) (fun hb => ?_) <;> (simp only [hb]; (try simp only [decide_eq_true_eq, decide_eq_false_iff_not, Bool.not_eq_true', Bool.not_eq_false', ne_eq, Decidable.not_not, not_true_eq_false] at hb); (try simp (disch := first | omega | assumption | exact id rfl | (simp only [okw_wr]; assumption)) only [f1.old, hw, hg, RC, RO, RM, RT, AV.cells, Option.map_some, AV.one, AV.all1, i64_wrap, u64_wrap, u32_wrap, u8_wrap, Nat.zero_add, Nat.add_zero, Nat.reduceEqDiff, Nat.reduceLeDiff, Nat.reduceAdd, Nat.left_eq_add, Nat.add_eq_left, Nat.add_left_cancel_iff, reduceIte, eq_self, decide_true, decide_false, Bool.not_true, Bool.not_false, reduceCtorEq, List.getElem?_cons_zero, List.getElem?_cons_succ, List.set_cons_zero, List.set_cons_succ])))))
    all_goals refine ⟨?_, by (refine ⟨by (try simp only []); omega, fun b hb hm => ?_⟩; simp (disch := first | omega | assumption) only [f1.old, upd_ne])⟩
    all_goals simp only [AV.bool.injEq]
    all_goals rw [Bool.eq_iff_iff, hl]
    all_goals grind
  · have hg' : gright g = false := by simpa using hg
    (simp (disch := first | omega | assumption | exact id rfl | (simp only [okw_wr]; assumption)) only [f1.old, hg', RC, RO, RM, RT, AV.cells, Option.map_some, AV.one, AV.all1, i64_wrap, u64_wrap, u32_wrap, u8_wrap, Nat.zero_add, Nat.add_zero, Nat.reduceEqDiff, Nat.reduceLeDiff, Nat.reduceAdd, Nat.left_eq_add, Nat.add_eq_left, Nat.add_left_cancel_iff, reduceIte, eq_self, decide_true, decide_false, Bool.not_true, Bool.not_false, reduceCtorEq, List.getElem?_cons_zero, List.getElem?_cons_succ, List.set_cons_zero, List.set_cons_succ]; repeat' (first | (refine Gs_split (fun hb => ?_) (fun hb => ?_) <;> (simp only [hb]; (try simp only [decide_eq_true_eq, decide_eq_false_iff_not, Bool.not_eq_true', Bool.not_eq_false', ne_eq, Decidable.not_not, not_true_eq_false] at hb); (try simp (disch := first | omega | assumption | exact id rfl | (simp only [okw_wr]; assumption)) only [f1.old, hg', RC, RO, RM, RT, AV.cells, Option.map_some, AV.one, AV.all1, i64_wrap, u64_wrap, u32_wrap, u8_wrap, Nat.zero_add, Nat.add_zero, Nat.reduceEqDiff, Nat.reduceLeDiff, Nat.reduceAdd, Nat.left_eq_add, Nat.add_eq_left, Nat.add_left_cancel_iff, reduceIte, eq_self, decide_true, decide_false, Bool.not_true, Bool.not_false, reduceCtorEq, List.getElem?_cons_zero, List.getElem?_cons_succ, List.set_cons_zero, List.set_cons_succ]))) | (refine Is_split (fun hb => ?_) (fun hb => ?_) <;> (simp only [hb]; (try simp only [decide_eq_true_eq, decide_eq_false_iff_not, Bool.not_eq_true', Bool.not_eq_false', ne_eq, Decidable.not_not, not_true_eq_false] at hb); (try simp (disch := first | omega | assumption | exact id rfl | (simp only [okw_wr]; assumption)) only [f1.old, hg', RC, RO, RM, RT, AV.cells, Option.map_some, AV.one, AV.all1, i64_wrap, u64_wrap, u32_wrap, u8_wrap, Nat.zero_add, Nat.add_zero, Nat.reduceEqDiff, Nat.reduceLeDiff, Nat.reduceAdd, Nat.left_eq_add, Nat.add_eq_left, Nat.add_left_cancel_iff, reduceIte, eq_self, decide_true, decide_false, Bool.not_true, Bool.not_false, reduceCtorEq, List.getElem?_cons_zero, List.getElem?_cons_succ, List.set_cons_zero, List.set_cons_succ]))) | (refine Dg_split (fun hb => ?_) (fun hb => ?_) <;> (simp only [hb]; (try simp only [decide_eq_true_eq, decide_eq_false_iff_not, Bool.not_eq_true', Bool.not_eq_false', ne_eq, Decidable.not_not, not_true_eq_false] at hb); (try simp (disch := first | omega | assumption | exact id rfl | (simp only [okw_wr]; assumption)) only [f1.old, hg', RC, RO, RM, RT, AV.cells, Option.map_some, AV.one, AV.all1, i64_wrap, u64_wrap, u32_wrap, u8_wrap, Nat.zero_add, Nat.add_zero, Nat.reduceEqDiff, Nat.reduceLeDiff, Nat.reduceAdd, Nat.left_eq_add, Nat.add_eq_left, Nat.add_left_cancel_iff, reduceIte, eq_self, decide_true, decide_false, Bool.not_true, Bool.not_false, reduceCtorEq, List.getElem?_cons_zero, List.getElem?_cons_succ, List.set_cons_zero, List.set_cons_succ])))))
    refine ⟨?_, by (refine ⟨by (try simp only []); omega, fun b hb hm => ?_⟩; simp (disch := first | omega | assumption) only [f1.old, upd_ne])⟩
    simp only [AV.bool.injEq]
    rw [Bool.eq_iff_iff, hl, hg']; simp
theorem fC_eqs (a b : Wr.Found) : aeqs (fC a) (fC b) = some (decide (a = b)) := by
  unfold fC rC
  rw [aeqs_cons aeq1_i (aeqs_cons aeq1_i (aeqs_cons aeq1_i (aeqs_cons aeq1_i (aeqs_cons aeq1_i (aeqs_cons aeq1_i (bC_eqs _ _))))))]
  congr 1
  rw [Bool.eq_iff_iff]
  simp only [Bool.and_eq_true, decide_eq_true_eq]
  constructor
  · rintro ⟨h1, h2, h3, h4, h5, h6, h7⟩
    cases a with | mk p r => cases b with | mk q s => cases r; cases s; simp_all
  · rintro rfl; simp
theorem fC_fits (a : Wr.Found) : fits (List.replicate 38 .i) (fC a) = true := by
  have : (List.replicate 38 Leaf.i) = [.i, .i, .i, .i, .i, .i] ++ List.replicate 32 .i := by rfl
  have e : fC a = [I a.place, I a.r.kind, I a.r.epoch, I a.r.seq, I a.r.block, I a.r.count] ++ bC a.r.data := rfl
  rw [this, e]; exact fits_app rfl (bC_fits _)
theorem eq_Found : eqF P0 54 = some (List.replicate 38 .i) := by kernel_rfl
theorem b_neF {a b : Wr.Found} : abin P0 .neq 54 (.agg (fC a)) (.agg (fC b)) = some (.bool (decide (a ≠ b))) := by
  rw [b_neA eq_Found (fC_fits a) (fC_fits b), fC_eqs]; simp
theorem c_r14_Same {v w : AV} {L M : List Wr.Found} {H : AH} (hs : Sl H.g 38 fC v L) (ht : Sl H.g 38 fC w M) (hv : sb v < H.n) (hw : sb w < H.n) (hl : L.length < 1000000) :
    Acalls P0 S0 9 [v, w] H fun r H' => r = .bool (decide (L = M)) ∧ Fr No H H' := by
  refine Acalls.go m9 rfl ?_
  rw [slots0_2]; unfold b9
  generalize hq : decide (L = M) = q
  (simp (disch := first | omega | assumption | exact id rfl | (simp only [okw_wr]; assumption)) only [hs.ln, ht.ln, RC, RO, RM, RT, AV.cells, Option.map_some, AV.one, AV.all1, i64_wrap, u64_wrap, u32_wrap, u8_wrap, Nat.zero_add, Nat.add_zero, Nat.reduceEqDiff, Nat.reduceLeDiff, Nat.reduceAdd, Nat.left_eq_add, Nat.add_eq_left, Nat.add_left_cancel_iff, reduceIte, eq_self, decide_true, decide_false, Bool.not_true, Bool.not_false, reduceCtorEq, List.getElem?_cons_zero, List.getElem?_cons_succ, List.set_cons_zero, List.set_cons_succ]; repeat' (first | (refine Gs_split (fun hb => ?_) (fun hb => ?_) <;> (simp only [hb]; (try simp only [decide_eq_true_eq, decide_eq_false_iff_not, Bool.not_eq_true', Bool.not_eq_false', ne_eq, Decidable.not_not, not_true_eq_false] at hb); (try simp (disch := first | omega | assumption | exact id rfl | (simp only [okw_wr]; assumption)) only [hs.ln, ht.ln, RC, RO, RM, RT, AV.cells, Option.map_some, AV.one, AV.all1, i64_wrap, u64_wrap, u32_wrap, u8_wrap, Nat.zero_add, Nat.add_zero, Nat.reduceEqDiff, Nat.reduceLeDiff, Nat.reduceAdd, Nat.left_eq_add, Nat.add_eq_left, Nat.add_left_cancel_iff, reduceIte, eq_self, decide_true, decide_false, Bool.not_true, Bool.not_false, reduceCtorEq, List.getElem?_cons_zero, List.getElem?_cons_succ, List.set_cons_zero, List.set_cons_succ]))) | (refine Is_split (fun hb => ?_) (fun hb => ?_) <;> (simp only [hb]; (try simp only [decide_eq_true_eq, decide_eq_false_iff_not, Bool.not_eq_true', Bool.not_eq_false', ne_eq, Decidable.not_not, not_true_eq_false] at hb); (try simp (disch := first | omega | assumption | exact id rfl | (simp only [okw_wr]; assumption)) only [hs.ln, ht.ln, RC, RO, RM, RT, AV.cells, Option.map_some, AV.one, AV.all1, i64_wrap, u64_wrap, u32_wrap, u8_wrap, Nat.zero_add, Nat.add_zero, Nat.reduceEqDiff, Nat.reduceLeDiff, Nat.reduceAdd, Nat.left_eq_add, Nat.add_eq_left, Nat.add_left_cancel_iff, reduceIte, eq_self, decide_true, decide_false, Bool.not_true, Bool.not_false, reduceCtorEq, List.getElem?_cons_zero, List.getElem?_cons_succ, List.set_cons_zero, List.set_cons_succ]))) | (refine Dg_split (fun hb => ?_) (fun hb => ?_) <;> (simp only [hb]; (try simp only [decide_eq_true_eq, decide_eq_false_iff_not, Bool.not_eq_true', Bool.not_eq_false', ne_eq, Decidable.not_not, not_true_eq_false] at hb); (try simp (disch := first | omega | assumption | exact id rfl | (simp only [okw_wr]; assumption)) only [hs.ln, ht.ln, RC, RO, RM, RT, AV.cells, Option.map_some, AV.one, AV.all1, i64_wrap, u64_wrap, u32_wrap, u8_wrap, Nat.zero_add, Nat.add_zero, Nat.reduceEqDiff, Nat.reduceLeDiff, Nat.reduceAdd, Nat.left_eq_add, Nat.add_eq_left, Nat.add_left_cancel_iff, reduceIte, eq_self, decide_true, decide_false, Bool.not_true, Bool.not_false, reduceCtorEq, List.getElem?_cons_zero, List.getElem?_cons_succ, List.set_cons_zero, List.set_cons_succ])))))
  · refine ⟨?_, Fr.refl _⟩
    rw [← hq]; congr 1; symm; exact decide_eq_false (fun h => hb (by rw [h]))
  · have hlen : L.length = M.length := by omega
    refine Cs_loop (fun m T H' => ∃ i : Nat, m + i = L.length ∧ T 0 = v ∧ T 1 = w ∧ T 5 = I i ∧ L.take i = M.take i ∧ Fr No H H') ⟨0, rfl, ?_⟩ ?_
    · simp (disch := omega) only [upd_ne, upd_same]
      exact ⟨(by first | trivial | rfl), (by first | trivial | rfl), rfl, rfl, Fr.refl _⟩
    · rintro m T H2 ⟨i, hm, t0, t1, t5, hti, f2⟩
      (simp (disch := first | omega | assumption | exact id rfl | (simp only [okw_wr]; assumption)) only [t0, t1, t5, hs.ln, hs.ix, ht.ix, hs.cN found0, ht.cN found0, f2.at, b_neF, RC, RO, RM, RT, AV.cells, Option.map_some, AV.one, AV.all1, i64_wrap, u64_wrap, u32_wrap, u8_wrap, Nat.zero_add, Nat.add_zero, Nat.reduceEqDiff, Nat.reduceLeDiff, Nat.reduceAdd, Nat.left_eq_add, Nat.add_eq_left, Nat.add_left_cancel_iff, reduceIte, eq_self, decide_true, decide_false, Bool.not_true, Bool.not_false, reduceCtorEq, List.getElem?_cons_zero, List.getElem?_cons_succ, List.set_cons_zero, List.set_cons_succ]; repeat' (first | (refine Gs_split (fun hb => ?_) (fun hb => ?_) <;> (simp only [hb]; (try simp only [decide_eq_true_eq, decide_eq_false_iff_not, Bool.not_eq_true', Bool.not_eq_false', ne_eq, Decidable.not_not, not_true_eq_false] at hb); (try simp (disch := first | omega | assumption | exact id rfl | (simp only [okw_wr]; assumption)) only [t0, t1, t5, hs.ln, hs.ix, ht.ix, hs.cN found0, ht.cN found0, f2.at, b_neF, RC, RO, RM, RT, AV.cells, Option.map_some, AV.one, AV.all1, i64_wrap, u64_wrap, u32_wrap, u8_wrap, Nat.zero_add, Nat.add_zero, Nat.reduceEqDiff, Nat.reduceLeDiff, Nat.reduceAdd, Nat.left_eq_add, Nat.add_eq_left, Nat.add_left_cancel_iff, reduceIte, eq_self, decide_true, decide_false, Bool.not_true, Bool.not_false, reduceCtorEq, List.getElem?_cons_zero, List.getElem?_cons_succ, List.set_cons_zero, List.set_cons_succ]))) | (refine Is_split (fun hb => ?_) (fun hb => ?_) <;> (simp only [hb]; (try simp only [decide_eq_true_eq, decide_eq_false_iff_not, Bool.not_eq_true', Bool.not_eq_false', ne_eq, Decidable.not_not, not_true_eq_false] at hb); (try simp (disch := first | omega | assumption | exact id rfl | (simp only [okw_wr]; assumption)) only [t0, t1, t5, hs.ln, hs.ix, ht.ix, hs.cN found0, ht.cN found0, f2.at, b_neF, RC, RO, RM, RT, AV.cells, Option.map_some, AV.one, AV.all1, i64_wrap, u64_wrap, u32_wrap, u8_wrap, Nat.zero_add, Nat.add_zero, Nat.reduceEqDiff, Nat.reduceLeDiff, Nat.reduceAdd, Nat.left_eq_add, Nat.add_eq_left, Nat.add_left_cancel_iff, reduceIte, eq_self, decide_true, decide_false, Bool.not_true, Bool.not_false, reduceCtorEq, List.getElem?_cons_zero, List.getElem?_cons_succ, List.set_cons_zero, List.set_cons_succ]))) | (refine Dg_split (fun hb => ?_) (fun hb => ?_) <;> (simp only [hb]; (try simp only [decide_eq_true_eq, decide_eq_false_iff_not, Bool.not_eq_true', Bool.not_eq_false', ne_eq, Decidable.not_not, not_true_eq_false] at hb); (try simp (disch := first | omega | assumption | exact id rfl | (simp only [okw_wr]; assumption)) only [t0, t1, t5, hs.ln, hs.ix, ht.ix, hs.cN found0, ht.cN found0, f2.at, b_neF, RC, RO, RM, RT, AV.cells, Option.map_some, AV.one, AV.all1, i64_wrap, u64_wrap, u32_wrap, u8_wrap, Nat.zero_add, Nat.add_zero, Nat.reduceEqDiff, Nat.reduceLeDiff, Nat.reduceAdd, Nat.left_eq_add, Nat.add_eq_left, Nat.add_left_cancel_iff, reduceIte, eq_self, decide_true, decide_false, Bool.not_true, Bool.not_false, reduceCtorEq, List.getElem?_cons_zero, List.getElem?_cons_succ, List.set_cons_zero, List.set_cons_succ])))))
      · refine ⟨?_, f2⟩
        rw [← hq]; congr 1; symm
        apply decide_eq_false
        intro h; rw [h] at hb; exact hb rfl
      · refine ⟨m - 1, by omega, i + 1, by omega, (by first | trivial | rfl), (by first | trivial | rfl), by rw [Int.natCast_succ], ?_, f2⟩
        rw [Int.toNat_natCast] at hb
        rw [takeF_snoc (by omega) found0, takeF_snoc (by omega) found0, hti, hb]
      · refine ⟨?_, f2⟩
        rw [← hq]; congr 1; symm
        apply decide_eq_true
        rw [List.take_of_length_le (by omega), List.take_of_length_le (by omega)] at hti
        exact hti
/-! ### windrowref14.Lay -/
structure S3 where
  zone : Nat
  r : Rec
  junk : Bool
def sC (s : S3) : List AV := B8 s.zone :: (rC s.r ++ [.bool s.junk])
theorem sC_len (s : S3) : (sC s).length = 39 := by simp [sC, rC_len]
theorem sC_0 {s : S3} : (sC s)[0]? = some (B8 s.zone) := rfl
theorem sC_38 {s : S3} : (sC s)[38]? = some (.bool s.junk) := by
  unfold sC
  rw [List.getElem?_cons_succ, List.getElem?_append_right (by rw [rC_len]; omega), rC_len]; rfl
theorem sC_r {s : S3} : ((sC s).drop 1).take 37 = rC s.r := by
  unfold sC
  rw [List.drop_succ_cons, List.drop_zero, List.take_left' (rC_len _)]
theorem Sl.cNp {α : Type} {g : Nat → AB} {k : Nat} {enc : α → List AV} {v : AV} {L : List α} (h : Sl g k enc v L) (df : α) {i : Int} {o n : Nat} (hi : 0 ≤ i ∧ i < L.length) (ho : o + n ≤ k) : Eng.cN (g (sb v)) (so v + i.toNat * k + o) n = some (((enc (L.getD i.toNat df)).drop o).take n) := by
  have hN := h.cN df hi
  rcases h.cells with ⟨h1, _⟩ | ⟨c, sl, cs, e, ro, h1, h2, h3, h4, _⟩
  · subst h1; simp at hi; omega
  · have hi' : i.toNat < L.length := by omega
    have hm : (i.toNat + 1) * k ≤ L.length * k := Nat.mul_le_mul_right _ hi'
    rw [Nat.add_mul, Nat.one_mul] at hm
    rw [h2, cN_c (by omega)] at hN ⊢
    rw [← Option.some.inj hN, List.drop_take, List.take_take, Nat.min_eq_left (by omega), List.drop_drop]
def s30 : S3 := ⟨0, rec0, false⟩
/-- zones are right -/
structure ZOk (g : Geom) (L : List Zone) : Prop where
  l : L.length = (zones g).toNat
  c : ∀ z : Nat, z < L.length → (z : Int) < g.conv → zat L z = ⟨4, 0⟩
  s : ∀ z : Nat, z < L.length → g.conv ≤ (z : Int) → (zat L z).state ≠ 4 ∧ 0 ≤ (zat L z).point ∧ (zat L z).point ≤ g.size
end Go.Eng
