/-
  R6: Walks of windrowref06: Read, Lay.
-/
import Derived.Test.YtecaahcbbdbpbaaW17
namespace Go.Eng
open Wr
set_option linter.unusedVariables false
set_option linter.unusedSimpArgs false
def rCl (r : Rec) (l : List AV) : List AV := I r.kind :: I r.epoch :: I r.seq :: I r.block :: I r.count :: l
theorem rCl_rC (r : Rec) : rC r = rCl r (bC r.data) := rfl
theorem rCl_set {r : Rec} {l : List AV} {x : Nat} {v : AV} : (rCl r l).set (5 + x * 1) v = rCl r (l.set x v) := by
  rw [Nat.mul_one, Nat.add_comm]; rfl
theorem rCl_len {r : Rec} {l : List AV} (h : l.length = 32) : (rCl r l).length = 37 := by simp [rCl, h]
def dat (p : Page) (k : Nat) : List Nat := (p.l.drop 25).take k ++ List.replicate (32 - k) 0
theorem dat_len {p : Page} {k : Nat} (h : k ≤ 32) : (dat p k).length = 32 := by simp [dat, p.len]; omega
theorem dat_set {p : Page} {k : Nat} (h : k < 32) : (dat p k).set k (p.l.getD (25 + k) 0) = dat p (k + 1) := by
  unfold dat
  have hl : ((p.l.drop 25).take k).length = k := by rw [List.length_take, List.length_drop, p.len]; omega
  obtain ⟨m, hm⟩ : ∃ m, 32 - k = m + 1 := ⟨32 - k - 1, by omega⟩
  rw [hm, show 32 - (k + 1) = m by omega, List.set_append_right _ _ (by omega), hl, Nat.sub_self, List.replicate_succ, List.set_cons_zero, take_drop_snoc (by rw [p.len]; omega)]; simp
set_option maxHeartbeats 1000000 in
theorem c_r06_Read {p : Page} {H : AH} : Acalls P0 S0 30 [.agg (bC p)] H fun v H' => v = .tup [.agg (rC (recRead p).1), I (recRead p).2] ∧ Fr No H H' := by
  refine Acalls.go m30 rfl ?_
  rw [slots0_1]; unfold b30
  have tp := bC_len p
  simp (disch := first | omega | assumption | exact id rfl | (simp only [okw_wr]; assumption)) only [z_rec, RC, RO, RM, RT, AV.cells, Option.map_some, AV.one, AV.all1, i64_wrap, u64_wrap, u32_wrap, u8_wrap, Nat.zero_add, Nat.add_zero, Nat.reduceEqDiff, Nat.reduceLeDiff, Nat.reduceAdd, Nat.left_eq_add, Nat.add_eq_left, Nat.add_left_cancel_iff, reduceIte, eq_self, decide_true, decide_false, Bool.not_true, Bool.not_false, reduceCtorEq, List.getElem?_cons_zero, List.getElem?_cons_succ, List.set_cons_zero, List.set_cons_succ]
  refine (c_r06_Summed (p := p)).mono ?_
  rintro _ H1 ⟨rfl, f1⟩
  have q1 := f1.le
  have r0 := rC_len rec0
  have r1 := rC_one rec0
  (simp (disch := first | omega | assumption | exact id rfl | (simp only [okw_wr]; assumption)) only [f1.old, fill_nil, z_rec, RC, RO, RM, RT, AV.cells, Option.map_some, AV.one, AV.all1, i64_wrap, u64_wrap, u32_wrap, u8_wrap, Nat.zero_add, Nat.add_zero, Nat.reduceEqDiff, Nat.reduceLeDiff, Nat.reduceAdd, Nat.left_eq_add, Nat.add_eq_left, Nat.add_left_cancel_iff, reduceIte, eq_self, decide_true, decide_false, Bool.not_true, Bool.not_false, reduceCtorEq, List.getElem?_cons_zero, List.getElem?_cons_succ, List.set_cons_zero, List.set_cons_succ]; repeat' (first | (refine Gs_split (fun hb => ?_) (fun hb => ?_) <;> (simp only [hb]; (try simp only [decide_eq_true_eq, decide_eq_false_iff_not, Bool.not_eq_true', Bool.not_eq_false', ne_eq, Decidable.not_not, not_true_eq_false] at hb); (try simp (disch := first | omega | assumption | exact id rfl | (simp only [okw_wr]; assumption)) only [f1.old, fill_nil, z_rec, RC, RO, RM, RT, AV.cells, Option.map_some, AV.one, AV.all1, i64_wrap, u64_wrap, u32_wrap, u8_wrap, Nat.zero_add, Nat.add_zero, Nat.reduceEqDiff, Nat.reduceLeDiff, Nat.reduceAdd, Nat.left_eq_add, Nat.add_eq_left, Nat.add_left_cancel_iff, reduceIte, eq_self, decide_true, decide_false, Bool.not_true, Bool.not_false, reduceCtorEq, List.getElem?_cons_zero, List.getElem?_cons_succ, List.set_cons_zero, List.set_cons_succ]))) | (refine Is_split (fun hb => ?_) (fun hb => ?_) <;> (simp only [hb]; (try simp only [decide_eq_true_eq, decide_eq_false_iff_not, Bool.not_eq_true', Bool.not_eq_false', ne_eq, Decidable.not_not, not_true_eq_false] at hb); (try simp (disch := first | omega | assumption | exact id rfl | (simp only [okw_wr]; assumption)) only [f1.old, fill_nil, z_rec, RC, RO, RM, RT, AV.cells, Option.map_some, AV.one, AV.all1, i64_wrap, u64_wrap, u32_wrap, u8_wrap, Nat.zero_add, Nat.add_zero, Nat.reduceEqDiff, Nat.reduceLeDiff, Nat.reduceAdd, Nat.left_eq_add, Nat.add_eq_left, Nat.add_left_cancel_iff, reduceIte, eq_self, decide_true, decide_false, Bool.not_true, Bool.not_false, reduceCtorEq, List.getElem?_cons_zero, List.getElem?_cons_succ, List.set_cons_zero, List.set_cons_succ]))) | (refine Dg_split (fun hb => ?_) (fun hb => ?_) <;> (simp only [hb]; (try simp only [decide_eq_true_eq, decide_eq_false_iff_not, Bool.not_eq_true', Bool.not_eq_false', ne_eq, Decidable.not_not, not_true_eq_false] at hb); (try simp (disch := first | omega | assumption | exact id rfl | (simp only [okw_wr]; assumption)) only [f1.old, fill_nil, z_rec, RC, RO, RM, RT, AV.cells, Option.map_some, AV.one, AV.all1, i64_wrap, u64_wrap, u32_wrap, u8_wrap, Nat.zero_add, Nat.add_zero, Nat.reduceEqDiff, Nat.reduceLeDiff, Nat.reduceAdd, Nat.left_eq_add, Nat.add_eq_left, Nat.add_left_cancel_iff, reduceIte, eq_self, decide_true, decide_false, Bool.not_true, Bool.not_false, reduceCtorEq, List.getElem?_cons_zero, List.getElem?_cons_succ, List.set_cons_zero, List.set_cons_succ])))))
  · refine ⟨?_, by (refine ⟨by (try simp only []); omega, fun b hb hm => ?_⟩; simp (disch := first | omega | assumption) only [f1.old, upd_ne])⟩
    unfold recRead; rw [if_pos (by simpa using hb)]; rfl
  · have hcr : crcRight p.l = true := by simpa using hb
    have hlt := getD_lt p.lt 0
    have num := fun (o n : Int) (h : 1 ≤ n ∧ n ≤ 8 ∧ 0 ≤ o ∧ o + n ≤ 60) => c_r06_high (p := p) (o := o) (n := n) (H := ⟨roAll (upd H1.g H1.n .dead), H1.n + 1⟩) h
    simp (disch := first | omega | assumption | exact id rfl | (simp only [okw_wr]; assumption)) only [f1.old, ixp0, byte0, RC, RO, RM, RT, AV.cells, Option.map_some, AV.one, AV.all1, i64_wrap, u64_wrap, u32_wrap, u8_wrap, Nat.zero_add, Nat.add_zero, Nat.reduceEqDiff, Nat.reduceLeDiff, Nat.reduceAdd, Nat.left_eq_add, Nat.add_eq_left, Nat.add_left_cancel_iff, reduceIte, eq_self, decide_true, decide_false, Bool.not_true, Bool.not_false, reduceCtorEq, List.getElem?_cons_zero, List.getElem?_cons_succ, List.set_cons_zero, List.set_cons_succ]
    refine (num 1 8 (by omega)).mono ?_
    rintro _ Ha ⟨rfl, -⟩
    refine ⟨rfl, ?_⟩
    simp (disch := first | omega | assumption | exact id rfl | (simp only [okw_wr]; assumption)) only [f1.old, ixp0, byte0, Int.reduceToNat, RC, RO, RM, RT, AV.cells, Option.map_some, AV.one, AV.all1, i64_wrap, u64_wrap, u32_wrap, u8_wrap, Nat.zero_add, Nat.add_zero, Nat.reduceEqDiff, Nat.reduceLeDiff, Nat.reduceAdd, Nat.left_eq_add, Nat.add_eq_left, Nat.add_left_cancel_iff, reduceIte, eq_self, decide_true, decide_false, Bool.not_true, Bool.not_false, reduceCtorEq, List.getElem?_cons_zero, List.getElem?_cons_succ, List.set_cons_zero, List.set_cons_succ]
    refine (num 9 8 (by omega)).mono ?_
    rintro _ Hb ⟨rfl, -⟩
    refine ⟨rfl, ?_⟩
    simp (disch := first | omega | assumption | exact id rfl | (simp only [okw_wr]; assumption)) only [f1.old, ixp0, byte0, Int.reduceToNat, RC, RO, RM, RT, AV.cells, Option.map_some, AV.one, AV.all1, i64_wrap, u64_wrap, u32_wrap, u8_wrap, Nat.zero_add, Nat.add_zero, Nat.reduceEqDiff, Nat.reduceLeDiff, Nat.reduceAdd, Nat.left_eq_add, Nat.add_eq_left, Nat.add_left_cancel_iff, reduceIte, eq_self, decide_true, decide_false, Bool.not_true, Bool.not_false, reduceCtorEq, List.getElem?_cons_zero, List.getElem?_cons_succ, List.set_cons_zero, List.set_cons_succ]
    refine (num 17 4 (by omega)).mono ?_
    rintro _ Hc ⟨rfl, -⟩
    refine ⟨rfl, ?_⟩
    simp (disch := first | omega | assumption | exact id rfl | (simp only [okw_wr]; assumption)) only [f1.old, ixp0, byte0, Int.reduceToNat, RC, RO, RM, RT, AV.cells, Option.map_some, AV.one, AV.all1, i64_wrap, u64_wrap, u32_wrap, u8_wrap, Nat.zero_add, Nat.add_zero, Nat.reduceEqDiff, Nat.reduceLeDiff, Nat.reduceAdd, Nat.left_eq_add, Nat.add_eq_left, Nat.add_left_cancel_iff, reduceIte, eq_self, decide_true, decide_false, Bool.not_true, Bool.not_false, reduceCtorEq, List.getElem?_cons_zero, List.getElem?_cons_succ, List.set_cons_zero, List.set_cons_succ]
    refine (num 21 4 (by omega)).mono ?_
    rintro _ Hd ⟨rfl, -⟩
    refine ⟨rfl, ?_⟩
    generalize hrr : (⟨p.l.getD 0 0, number p.l 1 8, number p.l 9 8, number p.l 17 4, number p.l 21 4, Bytes.zero 32⟩ : Rec) = rz
    have t0 := rC_len rz
    have t1 := rC_one rz
    have t2 : (rC rec0).length = (rC rz).length := by rw [rC_len, rC_len]
    simp (disch := first | omega | assumption | exact id rfl | (simp only [okw_wr]; assumption)) only [f1.old, fill_rec, z_rec, Int.reduceToNat, hrr, RC, RO, RM, RT, AV.cells, Option.map_some, AV.one, AV.all1, i64_wrap, u64_wrap, u32_wrap, u8_wrap, Nat.zero_add, Nat.add_zero, Nat.reduceEqDiff, Nat.reduceLeDiff, Nat.reduceAdd, Nat.left_eq_add, Nat.add_eq_left, Nat.add_left_cancel_iff, reduceIte, eq_self, decide_true, decide_false, Bool.not_true, Bool.not_false, reduceCtorEq, List.getElem?_cons_zero, List.getElem?_cons_succ, List.set_cons_zero, List.set_cons_succ]
    have hz0 : (bC (Bytes.zero 32)) = (dat p 0).map B8 := by simp [bC, Bytes.zero, dat]
    have hlast : rCl rz ((dat p 32).map B8) = rC (recOf p) := by subst hrr; simp [rCl, rC, recOf, bC, sub32, dat]
    refine Cs_loop (fun m T H' => ∃ k : Nat, m + k = 32 ∧ T 1 = .ptr (some (H.n, 0)) ∧ T 2 = .ptr (some (H.n + 1, 0)) ∧ T 4 = .ptr (some (H1.n, 0)) ∧ T 5 = I k ∧ H'.g H.n = .cells (bC p) 61 false ∧ H'.g (H.n + 1) = .cells (rC rec0) 47 false ∧ H'.g H1.n = .cells (rCl rz ((dat p k).map B8)) 47 false ∧ H1.n + 1 ≤ H'.n ∧ Fr No H H') ⟨0, rfl, ?_⟩ ?_
    · simp (disch := omega) only [upd_ne, upd_same, f1.old]
      refine ⟨(by first | trivial | rfl), (by first | trivial | rfl), (by first | trivial | rfl), rfl, (by first | trivial | rfl), (by first | trivial | rfl), ?_, Nat.le_refl _, by (refine ⟨by (try simp only []); omega, fun b hb hm => ?_⟩; simp (disch := first | omega | assumption) only [f1.old, upd_ne])⟩
      rw [← hz0, rCl_rC]; subst hrr; rfl
    · rintro m T H2 ⟨k, hm, k1, k2, k4, k5, gp, gr, gd, q2, f2⟩
      simp (disch := first | omega | assumption | exact id rfl | (simp only [okw_wr]; assumption)) only [k1, k2, k4, k5, RC, RO, RM, RT, AV.cells, Option.map_some, AV.one, AV.all1, i64_wrap, u64_wrap, u32_wrap, u8_wrap, Nat.zero_add, Nat.add_zero, Nat.reduceEqDiff, Nat.reduceLeDiff, Nat.reduceAdd, Nat.left_eq_add, Nat.add_eq_left, Nat.add_left_cancel_iff, reduceIte, eq_self, decide_true, decide_false, Bool.not_true, Bool.not_false, reduceCtorEq, List.getElem?_cons_zero, List.getElem?_cons_succ, List.set_cons_zero, List.set_cons_succ]
      refine Is_split (fun hb1 => ?_) (fun hb1 => ?_)
      · have hk := of_decide_eq_true hb1
        simp only [hb1]
        have hdl := dat_len (p := p) (k := k) (by omega)
        have hi1 : 0 ≤ 25 + (k : Int) ∧ 25 + (k : Int) < 64 := by omega
        have ok : okw (.cells (rCl rz ((dat p k).map B8)) 47 false) (5 + (k : Int).toNat * 1) := ⟨_, _, rfl, by rw [rCl_len (by rw [List.length_map]; exact hdl)]; omega⟩
        simp (disch := first | omega | assumption | exact id rfl | (simp only [okw_wr]; assumption)) only [k1, k2, k4, k5, q_ixP, page_ixP, gp, page_at, gd, wr1_c, rCl_set, RC, RO, RM, RT, AV.cells, Option.map_some, AV.one, AV.all1, i64_wrap, u64_wrap, u32_wrap, u8_wrap, Nat.zero_add, Nat.add_zero, Nat.reduceEqDiff, Nat.reduceLeDiff, Nat.reduceAdd, Nat.left_eq_add, Nat.add_eq_left, Nat.add_left_cancel_iff, reduceIte, eq_self, decide_true, decide_false, Bool.not_true, Bool.not_false, reduceCtorEq, List.getElem?_cons_zero, List.getElem?_cons_succ, List.set_cons_zero, List.set_cons_succ]
        refine ⟨m - 1, by omega, k + 1, by omega, (by first | trivial | rfl), (by first | trivial | rfl), (by first | trivial | rfl), by rw [Int.natCast_succ], (by first | trivial | rfl), (by first | trivial | rfl), ?_, q2, by (refine ⟨by (try simp only []); omega, fun b hb hm => ?_⟩; simp (disch := first | omega | assumption) only [f2.at, upd_ne])⟩
        have e : (25 + (k : Int)).toNat = 25 + k := by omega
        rw [e, Int.toNat_natCast, ← List.map_set, dat_set (by omega)]
      · have hk := of_decide_eq_false hb1
        simp only [hb1]
        have : k = 32 := by omega
        subst this
        rw [hlast] at gd
        have t3 := rC_len (recOf p)
        have t4 := rC_one (recOf p)
        have t5 : (rC rec0).length = (rC (recOf p)).length := by rw [rC_len, rC_len]
        simp (disch := first | omega | assumption | exact id rfl | (simp only [okw_wr]; assumption)) only [k1, k2, k4, k5, gd, RC, RO, RM, RT, AV.cells, Option.map_some, AV.one, AV.all1, i64_wrap, u64_wrap, u32_wrap, u8_wrap, Nat.zero_add, Nat.add_zero, Nat.reduceEqDiff, Nat.reduceLeDiff, Nat.reduceAdd, Nat.left_eq_add, Nat.add_eq_left, Nat.add_left_cancel_iff, reduceIte, eq_self, decide_true, decide_false, Bool.not_true, Bool.not_false, reduceCtorEq, List.getElem?_cons_zero, List.getElem?_cons_succ, List.set_cons_zero, List.set_cons_succ]
        refine (c_r06_Right (r := recOf p)).mono ?_
        rintro _ H3 ⟨rfl, f3⟩
        have q3 := f3.n
        have i57 : aixP 64 1 (.ptr (some (H.n, 0))) (I 57) = some (.ptr (some (H.n, 57))) := rfl
        have i58 : aixP 64 1 (.ptr (some (H.n, 0))) (I 58) = some (.ptr (some (H.n, 58))) := rfl
        have i59 : aixP 64 1 (.ptr (some (H.n, 0))) (I 59) = some (.ptr (some (H.n, 59))) := rfl
        have p57 : (bC p)[57]? = some (B8 (p.l.getD 57 0)) := bC_at p (by omega)
        have p58 : (bC p)[58]? = some (B8 (p.l.getD 58 0)) := bC_at p (by omega)
        have p59 : (bC p)[59]? = some (B8 (p.l.getD 59 0)) := bC_at p (by omega)
        have fall := f2.trans f3
        have hrd : recRight (recOf p) = true → recRead p = if p.l.getD 57 0 = 0 ∧ p.l.getD 58 0 = 0 ∧ p.l.getD 59 0 = 0 then (recOf p, 0) else (rec0, 7) := fun h => by
          have := read_eq hcr h
          unfold recRead
          rw [if_neg (by rw [hcr]; decide)]
          by_cases hq : recLay (recOf p) = p
          · rw [if_neg (by rintro (h1 | h1); rw [h] at h1; cases h1; exact h1 hq), if_pos (this.mp hq)]
          · rw [if_pos (.inr hq), if_neg (fun h1 => hq (this.mpr h1))]; rfl
        generalize hrp : recRead p = rp at hrd ⊢
        (simp (disch := first | omega | assumption | exact id rfl | (simp only [okw_wr]; assumption)) only [k1, k2, k4, k5, f3.at, gp, gr, gd, i57, i58, i59, p57, p58, p59, fill_nil, z_rec, RC, RO, RM, RT, AV.cells, Option.map_some, AV.one, AV.all1, i64_wrap, u64_wrap, u32_wrap, u8_wrap, Nat.zero_add, Nat.add_zero, Nat.reduceEqDiff, Nat.reduceLeDiff, Nat.reduceAdd, Nat.left_eq_add, Nat.add_eq_left, Nat.add_left_cancel_iff, reduceIte, eq_self, decide_true, decide_false, Bool.not_true, Bool.not_false, reduceCtorEq, List.getElem?_cons_zero, List.getElem?_cons_succ, List.set_cons_zero, List.set_cons_succ]; repeat' (first | (refine Gs_split (fun hb => ?_) (fun hb => ?_) <;> (simp only [hb]; (try simp only [decide_eq_true_eq, decide_eq_false_iff_not, Bool.not_eq_true', Bool.not_eq_false', ne_eq, Decidable.not_not, not_true_eq_false] at hb); (try simp (disch := first | omega | assumption | exact id rfl | (simp only [okw_wr]; assumption)) only [k1, k2, k4, k5, f3.at, gp, gr, gd, i57, i58, i59, p57, p58, p59, fill_nil, z_rec, RC, RO, RM, RT, AV.cells, Option.map_some, AV.one, AV.all1, i64_wrap, u64_wrap, u32_wrap, u8_wrap, Nat.zero_add, Nat.add_zero, Nat.reduceEqDiff, Nat.reduceLeDiff, Nat.reduceAdd, Nat.left_eq_add, Nat.add_eq_left, Nat.add_left_cancel_iff, reduceIte, eq_self, decide_true, decide_false, Bool.not_true, Bool.not_false, reduceCtorEq, List.getElem?_cons_zero, List.getElem?_cons_succ, List.set_cons_zero, List.set_cons_succ]))) | (refine Is_split (fun hb => ?_) (fun hb => ?_) <;> (simp only [hb]; (try simp only [decide_eq_true_eq, decide_eq_false_iff_not, Bool.not_eq_true', Bool.not_eq_false', ne_eq, Decidable.not_not, not_true_eq_false] at hb); (try simp (disch := first | omega | assumption | exact id rfl | (simp only [okw_wr]; assumption)) only [k1, k2, k4, k5, f3.at, gp, gr, gd, i57, i58, i59, p57, p58, p59, fill_nil, z_rec, RC, RO, RM, RT, AV.cells, Option.map_some, AV.one, AV.all1, i64_wrap, u64_wrap, u32_wrap, u8_wrap, Nat.zero_add, Nat.add_zero, Nat.reduceEqDiff, Nat.reduceLeDiff, Nat.reduceAdd, Nat.left_eq_add, Nat.add_eq_left, Nat.add_left_cancel_iff, reduceIte, eq_self, decide_true, decide_false, Bool.not_true, Bool.not_false, reduceCtorEq, List.getElem?_cons_zero, List.getElem?_cons_succ, List.set_cons_zero, List.set_cons_succ]))) | (refine Dg_split (fun hb => ?_) (fun hb => ?_) <;> (simp only [hb]; (try simp only [decide_eq_true_eq, decide_eq_false_iff_not, Bool.not_eq_true', Bool.not_eq_false', ne_eq, Decidable.not_not, not_true_eq_false] at hb); (try simp (disch := first | omega | assumption | exact id rfl | (simp only [okw_wr]; assumption)) only [k1, k2, k4, k5, f3.at, gp, gr, gd, i57, i58, i59, p57, p58, p59, fill_nil, z_rec, RC, RO, RM, RT, AV.cells, Option.map_some, AV.one, AV.all1, i64_wrap, u64_wrap, u32_wrap, u8_wrap, Nat.zero_add, Nat.add_zero, Nat.reduceEqDiff, Nat.reduceLeDiff, Nat.reduceAdd, Nat.left_eq_add, Nat.add_eq_left, Nat.add_left_cancel_iff, reduceIte, eq_self, decide_true, decide_false, Bool.not_true, Bool.not_false, reduceCtorEq, List.getElem?_cons_zero, List.getElem?_cons_succ, List.set_cons_zero, List.set_cons_succ])))))
        all_goals refine ⟨?_, by (refine ⟨by (try simp only []); omega, fun b hb hm => ?_⟩; simp (disch := first | omega | assumption) only [fall.at, upd_ne])⟩
        · have e : rp = (rec0, 7) := by
            rw [← hrp]; unfold recRead; rw [if_neg (by rw [hcr]; decide), if_pos (.inl (by assumption))]; rfl
          rw [e]
        · rw [hrd (by assumption), if_neg (by omega)]
        · rw [hrd (by assumption), if_neg (by omega)]
        · rw [hrd (by assumption), if_neg (by omega)]
        · rw [hrd (by assumption), if_pos (by omega)]
/-- what windrowref06.Lay lays -/
def refBytes (r : Rec) : List Nat := u8 r.kind :: (lowL 8 r.epoch ++ (lowL 8 r.seq ++ (lowL 4 r.block ++ (lowL 4 r.count ++ (r.data.l ++ [0, 0, 0])))))
theorem refBytes_length (r : Rec) : (refBytes r).length = 60 := by simp [refBytes, lowL_len, r.data.len]
theorem refBytes_lt (r : Rec) : ∀ x ∈ refBytes r, x < 256 := by
  intro x hx
  simp only [refBytes, List.mem_cons, List.mem_append, List.not_mem_nil, or_false] at hx
  rcases hx with rfl | h | h | h | h | h | h
  · unfold u8; omega
  · exact lowL_lt _ _ _ h
  · exact lowL_lt _ _ _ h
  · exact lowL_lt _ _ _ h
  · exact lowL_lt _ _ _ h
  · exact r.data.lt _ h
  · rcases h with rfl | rfl | rfl <;> decide
def refLay (r : Rec) : Page := sealed (refBytes r) (refBytes_length r) (refBytes_lt r)
/-- numbers of Go's -/
def R64 (x : Int) : Prop := -9223372036854775808 ≤ x ∧ x ≤ 9223372036854775807
structure ROk (r : Rec) : Prop where
  k : R64 r.kind
  e : R64 r.epoch
  s : R64 r.seq
  b : R64 r.block
  c : R64 r.count
theorem fill_3 : fillA (zerosA [AV.int .u8 0] 3) [(0, 1, .int .u8 0), (1, 1, .int .u8 0), (2, 1, .int .u8 0)] = some [.int .u8 0, .int .u8 0, .int .u8 0] := _root_.id rfl
theorem rdat_at {r : Rec} {i : Int} (h : 0 ≤ i ∧ i < 32) : (rC r)[5 + i.toNat * 1]? = some (B8 (r.data.l.getD i.toNat 0)) := by
  have : (rC r)[5 + i.toNat * 1]? = (bC r.data)[i.toNat]? := by rw [Nat.mul_one, Nat.add_comm]; rfl
  rw [this]; exact bC_at _ (by omega)
theorem take_snoc' {L : List Nat} {i : Nat} (h : i < L.length) : L.take (i + 1) = L.take i ++ [L.getD i 0] := take_snoc h
def part (S : List Nat) (k : Nat) : List Nat := S.take k ++ List.replicate (64 - k) 0
theorem part_set {S : List Nat} (hS : S.length = 64) {k : Nat} (h : k < 64) : (part S k).set k (S.getD k 0) = part S (k + 1) := by
  unfold part
  have hl : (S.take k).length = k := by rw [List.length_take]; omega
  obtain ⟨m, hm⟩ : ∃ m, 64 - k = m + 1 := ⟨64 - k - 1, by omega⟩
  rw [hm, show 64 - (k + 1) = m by omega, List.set_append_right _ _ (by omega), hl, Nat.sub_self, List.replicate_succ, List.set_cons_zero, take_snoc (by omega)]; simp
set_option maxHeartbeats 1000000 in
theorem c_r06_Lay {r : Rec} {H : AH} (h : ROk r) : Acalls P0 S0 20 [.agg (rC r)] H fun v H' => v = .agg (bC (refLay r)) ∧ Fr No H H' := by
  refine Acalls.go m20 rfl ?_
  rw [slots0_1]; unfold b20
  have tr := rC_len r
  simp (disch := first | omega | assumption | exact id rfl | (simp only [okw_wr]; assumption)) only [u8_wrap_u, fill_8, RC, RO, RM, RT, AV.cells, Option.map_some, AV.one, AV.all1, i64_wrap, u64_wrap, u32_wrap, u8_wrap, Nat.zero_add, Nat.add_zero, Nat.reduceEqDiff, Nat.reduceLeDiff, Nat.reduceAdd, Nat.left_eq_add, Nat.add_eq_left, Nat.add_left_cancel_iff, reduceIte, eq_self, decide_true, decide_false, Bool.not_true, Bool.not_false, reduceCtorEq, List.getElem?_cons_zero, List.getElem?_cons_succ, List.set_cons_zero, List.set_cons_succ]
  refine Acalls_cut fun H1 e1 => ?_
  have n1 : H1.n = H.n + 1 + 1 + 1 := by rw [e1]
  have g1 : H1.g H.n = .cells (rC r) 47 false := by rw [e1]; simp (disch := omega) only [upd_ne, upd_same]
  have p1 : H1.g (H.n + 1) = .cells (List.replicate 64 (.int .u8 0)) 61 false := by rw [e1]; simp (disch := omega) only [upd_ne, upd_same]
  have f1 : Fr No H H1 := by rw [e1]; (refine ⟨by (try simp only []); omega, fun b hb hm => ?_⟩; simp (disch := first | omega | assumption) only [upd_ne])
  have o1 : Own H1 (H.n + 1 + 1) 1 5 b8C (.slc (some (H.n + 1 + 1, 0)) 1 1 0) [u8 r.kind] := by
    rw [e1]
    exact Own.mks (L := [u8 r.kind]) b8C_len b8C_one (Nat.le_refl _) (Nat.lt_succ_self _) (by simp) (by simp) (by simp [b8C]) (upd_same _ _ _)
  clear e1
  generalize AV.slc (some (H.n + 1 + 1, 0)) 1 1 0 = w1 at o1 ⊢
  have k1 : ∀ b, b < H.n + 1 + 1 → H1.g b = H1.g b := fun _ _ => rfl
  refine (c_r06_low (by omega) h.e).mono ?_
  rintro v2 H2 ⟨o2, f2⟩
  have q2 := f2.n
  have e2 : ((8 : Int)).toNat = 8 := rfl
  rw [e2] at o2
  have l2 := lowL_len 8 r.epoch
  have m2 := o2.lt (by omega)
  simp (disch := first | omega | assumption | exact id rfl | (simp only [okw_wr]; assumption)) only [RC, RO, RM, RT, AV.cells, Option.map_some, AV.one, AV.all1, i64_wrap, u64_wrap, u32_wrap, u8_wrap, Nat.zero_add, Nat.add_zero, Nat.reduceEqDiff, Nat.reduceLeDiff, Nat.reduceAdd, Nat.left_eq_add, Nat.add_eq_left, Nat.add_left_cancel_iff, reduceIte, eq_self, decide_true, decide_false, Bool.not_true, Bool.not_false, reduceCtorEq, List.getElem?_cons_zero, List.getElem?_cons_succ, List.set_cons_zero, List.set_cons_succ]
  refine Os_app (lo := H.n + 1 + 1) (L := [u8 r.kind]) (X := lowL 8 r.epoch) (o1.fr q2 (fun b _ hb => f2.at hb)) o2.sl (by omega) (by simp only [List.length_append, List.length_cons, List.length_nil, lowL_len]; omega) ?_
  intro w3 H3 o3 q3 kk3 _
  have k3 : ∀ b, b < H.n + 1 + 1 → H3.g b = H1.g b := fun b hb => by rw [kk3 b (by omega) (.inr hb), f2.at (by omega), k1 b hb]
  have g3 : H3.g H.n = .cells (rC r) 47 false := by rw [k3 _ (by omega)]; exact g1
  simp (disch := first | omega | assumption | exact id rfl | (simp only [okw_wr]; assumption)) only [g3, RC, RO, RM, RT, AV.cells, Option.map_some, AV.one, AV.all1, i64_wrap, u64_wrap, u32_wrap, u8_wrap, Nat.zero_add, Nat.add_zero, Nat.reduceEqDiff, Nat.reduceLeDiff, Nat.reduceAdd, Nat.left_eq_add, Nat.add_eq_left, Nat.add_left_cancel_iff, reduceIte, eq_self, decide_true, decide_false, Bool.not_true, Bool.not_false, reduceCtorEq, List.getElem?_cons_zero, List.getElem?_cons_succ, List.set_cons_zero, List.set_cons_succ]
  refine (c_r06_low (by omega) h.s).mono ?_
  rintro v4 H4 ⟨o4, f4⟩
  have q4 := f4.n
  have e4 : ((8 : Int)).toNat = 8 := rfl
  rw [e4] at o4
  have l4 := lowL_len 8 r.seq
  have m4 := o4.lt (by omega)
  simp (disch := first | omega | assumption | exact id rfl | (simp only [okw_wr]; assumption)) only [RC, RO, RM, RT, AV.cells, Option.map_some, AV.one, AV.all1, i64_wrap, u64_wrap, u32_wrap, u8_wrap, Nat.zero_add, Nat.add_zero, Nat.reduceEqDiff, Nat.reduceLeDiff, Nat.reduceAdd, Nat.left_eq_add, Nat.add_eq_left, Nat.add_left_cancel_iff, reduceIte, eq_self, decide_true, decide_false, Bool.not_true, Bool.not_false, reduceCtorEq, List.getElem?_cons_zero, List.getElem?_cons_succ, List.set_cons_zero, List.set_cons_succ]
  refine Os_app (lo := H.n + 1 + 1) (L := ([u8 r.kind] ++ lowL 8 r.epoch)) (X := lowL 8 r.seq) (o3.fr q4 (fun b _ hb => f4.at hb)) o4.sl (by omega) (by simp only [List.length_append, List.length_cons, List.length_nil, lowL_len]; omega) ?_
  intro w5 H5 o5 q5 kk5 _
  have k5 : ∀ b, b < H.n + 1 + 1 → H5.g b = H1.g b := fun b hb => by rw [kk5 b (by omega) (.inr hb), f4.at (by omega), k3 b hb]
  have g5 : H5.g H.n = .cells (rC r) 47 false := by rw [k5 _ (by omega)]; exact g1
  simp (disch := first | omega | assumption | exact id rfl | (simp only [okw_wr]; assumption)) only [g5, RC, RO, RM, RT, AV.cells, Option.map_some, AV.one, AV.all1, i64_wrap, u64_wrap, u32_wrap, u8_wrap, Nat.zero_add, Nat.add_zero, Nat.reduceEqDiff, Nat.reduceLeDiff, Nat.reduceAdd, Nat.left_eq_add, Nat.add_eq_left, Nat.add_left_cancel_iff, reduceIte, eq_self, decide_true, decide_false, Bool.not_true, Bool.not_false, reduceCtorEq, List.getElem?_cons_zero, List.getElem?_cons_succ, List.set_cons_zero, List.set_cons_succ]
  refine (c_r06_low (by omega) h.b).mono ?_
  rintro v6 H6 ⟨o6, f6⟩
  have q6 := f6.n
  have e6 : ((4 : Int)).toNat = 4 := rfl
  rw [e6] at o6
  have l6 := lowL_len 4 r.block
  have m6 := o6.lt (by omega)
  simp (disch := first | omega | assumption | exact id rfl | (simp only [okw_wr]; assumption)) only [RC, RO, RM, RT, AV.cells, Option.map_some, AV.one, AV.all1, i64_wrap, u64_wrap, u32_wrap, u8_wrap, Nat.zero_add, Nat.add_zero, Nat.reduceEqDiff, Nat.reduceLeDiff, Nat.reduceAdd, Nat.left_eq_add, Nat.add_eq_left, Nat.add_left_cancel_iff, reduceIte, eq_self, decide_true, decide_false, Bool.not_true, Bool.not_false, reduceCtorEq, List.getElem?_cons_zero, List.getElem?_cons_succ, List.set_cons_zero, List.set_cons_succ]
  refine Os_app (lo := H.n + 1 + 1) (L := (([u8 r.kind] ++ lowL 8 r.epoch) ++ lowL 8 r.seq)) (X := lowL 4 r.block) (o5.fr q6 (fun b _ hb => f6.at hb)) o6.sl (by omega) (by simp only [List.length_append, List.length_cons, List.length_nil, lowL_len]; omega) ?_
  intro w7 H7 o7 q7 kk7 _
  have k7 : ∀ b, b < H.n + 1 + 1 → H7.g b = H1.g b := fun b hb => by rw [kk7 b (by omega) (.inr hb), f6.at (by omega), k5 b hb]
  have g7 : H7.g H.n = .cells (rC r) 47 false := by rw [k7 _ (by omega)]; exact g1
  simp (disch := first | omega | assumption | exact id rfl | (simp only [okw_wr]; assumption)) only [g7, RC, RO, RM, RT, AV.cells, Option.map_some, AV.one, AV.all1, i64_wrap, u64_wrap, u32_wrap, u8_wrap, Nat.zero_add, Nat.add_zero, Nat.reduceEqDiff, Nat.reduceLeDiff, Nat.reduceAdd, Nat.left_eq_add, Nat.add_eq_left, Nat.add_left_cancel_iff, reduceIte, eq_self, decide_true, decide_false, Bool.not_true, Bool.not_false, reduceCtorEq, List.getElem?_cons_zero, List.getElem?_cons_succ, List.set_cons_zero, List.set_cons_succ]
  refine (c_r06_low (by omega) h.c).mono ?_
  rintro v8 H8 ⟨o8, f8⟩
  have q8 := f8.n
  have e8 : ((4 : Int)).toNat = 4 := rfl
  rw [e8] at o8
  have l8 := lowL_len 4 r.count
  have m8 := o8.lt (by omega)
  simp (disch := first | omega | assumption | exact id rfl | (simp only [okw_wr]; assumption)) only [RC, RO, RM, RT, AV.cells, Option.map_some, AV.one, AV.all1, i64_wrap, u64_wrap, u32_wrap, u8_wrap, Nat.zero_add, Nat.add_zero, Nat.reduceEqDiff, Nat.reduceLeDiff, Nat.reduceAdd, Nat.left_eq_add, Nat.add_eq_left, Nat.add_left_cancel_iff, reduceIte, eq_self, decide_true, decide_false, Bool.not_true, Bool.not_false, reduceCtorEq, List.getElem?_cons_zero, List.getElem?_cons_succ, List.set_cons_zero, List.set_cons_succ]
  refine Os_app (lo := H.n + 1 + 1) (L := ((([u8 r.kind] ++ lowL 8 r.epoch) ++ lowL 8 r.seq) ++ lowL 4 r.block)) (X := lowL 4 r.count) (o7.fr q8 (fun b _ hb => f8.at hb)) o8.sl (by omega) (by simp only [List.length_append, List.length_cons, List.length_nil, lowL_len]; omega) ?_
  intro w9 H9 o9 q9 kk9 _
  have k9 : ∀ b, b < H.n + 1 + 1 → H9.g b = H1.g b := fun b hb => by rw [kk9 b (by omega) (.inr hb), f8.at (by omega), k7 b hb]
  have g9 : H9.g H.n = .cells (rC r) 47 false := by rw [k9 _ (by omega)]; exact g1
  simp (disch := first | omega | assumption | exact id rfl | (simp only [okw_wr]; assumption)) only [g9, RC, RO, RM, RT, AV.cells, Option.map_some, AV.one, AV.all1, i64_wrap, u64_wrap, u32_wrap, u8_wrap, Nat.zero_add, Nat.add_zero, Nat.reduceEqDiff, Nat.reduceLeDiff, Nat.reduceAdd, Nat.left_eq_add, Nat.add_eq_left, Nat.add_left_cancel_iff, reduceIte, eq_self, decide_true, decide_false, Bool.not_true, Bool.not_false, reduceCtorEq, List.getElem?_cons_zero, List.getElem?_cons_succ, List.set_cons_zero, List.set_cons_succ]
  generalize hA : [u8 r.kind] ++ lowL 8 r.epoch ++ lowL 8 r.seq ++ lowL 4 r.block ++ lowL 4 r.count = A at o9
  have hAl : A.length = 25 := by rw [← hA]; simp [lowL_len]
  have hrb : A ++ r.data.l ++ [0, 0, 0] = refBytes r := by rw [← hA]; simp [refBytes]
  refine Cs_loop (fun m T H' => ∃ i : Nat, m + i = 32 ∧ T 1 = .ptr (some (H.n, 0)) ∧ T 2 = .ptr (some (H.n + 1, 0)) ∧ T 4 = I i ∧ (∃ w, T 3 = w ∧ Own H' (H.n + 1 + 1) 1 5 b8C w (A ++ r.data.l.take i)) ∧ (∀ b, b < H.n + 1 + 1 → H'.g b = H1.g b)) ⟨0, rfl, ?_⟩ ?_
  · simp (disch := omega) only [upd_ne, upd_same]
    exact ⟨(by first | trivial | rfl), (by first | trivial | rfl), rfl, ⟨_, rfl, by simpa using o9⟩, k9⟩
  · rintro m T Ha ⟨i, hm, t1, t2, t4, ⟨wa, t3, oa⟩, ka⟩
    have qa := oa.hlo
    have ga : Ha.g H.n = .cells (rC r) 47 false := by rw [ka _ (by omega)]; exact g1
    simp (disch := first | omega | assumption | exact id rfl | (simp only [okw_wr]; assumption)) only [t1, t2, t4, t3, RC, RO, RM, RT, AV.cells, Option.map_some, AV.one, AV.all1, i64_wrap, u64_wrap, u32_wrap, u8_wrap, Nat.zero_add, Nat.add_zero, Nat.reduceEqDiff, Nat.reduceLeDiff, Nat.reduceAdd, Nat.left_eq_add, Nat.add_eq_left, Nat.add_left_cancel_iff, reduceIte, eq_self, decide_true, decide_false, Bool.not_true, Bool.not_false, reduceCtorEq, List.getElem?_cons_zero, List.getElem?_cons_succ, List.set_cons_zero, List.set_cons_succ]
    refine Is_split (fun hb => ?_) (fun hb => ?_)
    · have hi := of_decide_eq_true hb
      simp only [hb]
      have htl := List.length_take_le i r.data.l
      simp (disch := first | omega | assumption | exact id rfl | (simp only [okw_wr]; assumption)) only [t1, t2, t4, t3, q_ixP, ga, rdat_at, fill_8, RC, RO, RM, RT, AV.cells, Option.map_some, AV.one, AV.all1, i64_wrap, u64_wrap, u32_wrap, u8_wrap, Nat.zero_add, Nat.add_zero, Nat.reduceEqDiff, Nat.reduceLeDiff, Nat.reduceAdd, Nat.left_eq_add, Nat.add_eq_left, Nat.add_left_cancel_iff, reduceIte, eq_self, decide_true, decide_false, Bool.not_true, Bool.not_false, reduceCtorEq, List.getElem?_cons_zero, List.getElem?_cons_succ, List.set_cons_zero, List.set_cons_succ]
      refine Os_app (lo := H.n + 1 + 1) (L := A ++ r.data.l.take i) (X := [r.data.l.getD (i : Int).toNat 0]) (oa.fr (by show Ha.n ≤ Ha.n + 1; omega) (fun b _ hb => by simp (disch := omega) only [upd_ne])) (Sl.ofCells (c := 1) (sl := 0) (e := 5) (ro := false) b8C_len (by simp (disch := omega) only [upd_same, List.flatMap_cons, List.flatMap_nil, List.append_nil]; rfl) rfl (by simp) (.inl rfl)) (by omega) (by simp only [List.length_append, List.length_cons, List.length_nil]; omega) ?_
      intro v' Hb ob qb kb _
      simp (disch := first | omega | assumption | exact id rfl | (simp only [okw_wr]; assumption)) only [t1, t2, t4, t3, RC, RO, RM, RT, AV.cells, Option.map_some, AV.one, AV.all1, i64_wrap, u64_wrap, u32_wrap, u8_wrap, Nat.zero_add, Nat.add_zero, Nat.reduceEqDiff, Nat.reduceLeDiff, Nat.reduceAdd, Nat.left_eq_add, Nat.add_eq_left, Nat.add_left_cancel_iff, reduceIte, eq_self, decide_true, decide_false, Bool.not_true, Bool.not_false, reduceCtorEq, List.getElem?_cons_zero, List.getElem?_cons_succ, List.set_cons_zero, List.set_cons_succ]
      refine ⟨m - 1, by omega, i + 1, by omega, (by first | trivial | rfl), (by first | trivial | rfl), by rw [Int.natCast_succ], ⟨_, rfl, ?_⟩, ?_⟩
      · rw [take_snoc (by rw [r.data.len]; omega), ← List.append_assoc]; rw [Int.toNat_natCast] at ob; exact ob
      · intro b hb1
        show Hb.g b = H1.g b
        rw [kb b (by show b < Ha.n + 1; omega) (.inr hb1)]
        simp (disch := omega) only [upd_ne]; exact ka b hb1
    · have hi := of_decide_eq_false hb
      simp only [hb]
      have : i = 32 := by omega
      subst this
      rw [List.take_of_length_le (by rw [r.data.len]; omega)] at oa
      have hdl := r.data.len
      simp (disch := first | omega | assumption | exact id rfl | (simp only [okw_wr]; assumption)) only [t1, t2, t4, t3, fill_3, RC, RO, RM, RT, AV.cells, Option.map_some, AV.one, AV.all1, i64_wrap, u64_wrap, u32_wrap, u8_wrap, Nat.zero_add, Nat.add_zero, Nat.reduceEqDiff, Nat.reduceLeDiff, Nat.reduceAdd, Nat.left_eq_add, Nat.add_eq_left, Nat.add_left_cancel_iff, reduceIte, eq_self, decide_true, decide_false, Bool.not_true, Bool.not_false, reduceCtorEq, List.getElem?_cons_zero, List.getElem?_cons_succ, List.set_cons_zero, List.set_cons_succ]
      refine Os_app (lo := H.n + 1 + 1) (L := A ++ r.data.l) (X := [0, 0, 0]) (oa.fr (by show Ha.n ≤ Ha.n + 1; omega) (fun b _ hb => by simp (disch := omega) only [upd_ne])) (Sl.ofCells (c := 3) (sl := 0) (e := 5) (ro := false) b8C_len (by simp (disch := omega) only [upd_same]; rfl) rfl (by simp) (.inl rfl)) (by omega) (by simp only [List.length_append, List.length_cons, List.length_nil]; omega) ?_
      intro v' Hb ob qb kb _
      have qb : Ha.n + 1 ≤ Hb.n := qb
      rw [hrb] at ob
      have kbb : ∀ b, b < H.n + 1 + 1 → Hb.g b = H1.g b := fun b hb => by
        rw [kb b (by show b < Ha.n + 1; omega) (.inr hb)]; simp (disch := omega) only [upd_ne]; exact ka b hb
      simp (disch := first | omega | assumption | exact id rfl | (simp only [okw_wr]; assumption)) only [t1, t2, t4, t3, RC, RO, RM, RT, AV.cells, Option.map_some, AV.one, AV.all1, i64_wrap, u64_wrap, u32_wrap, u8_wrap, Nat.zero_add, Nat.add_zero, Nat.reduceEqDiff, Nat.reduceLeDiff, Nat.reduceAdd, Nat.left_eq_add, Nat.add_eq_left, Nat.add_left_cancel_iff, reduceIte, eq_self, decide_true, decide_false, Bool.not_true, Bool.not_false, reduceCtorEq, List.getElem?_cons_zero, List.getElem?_cons_succ, List.set_cons_zero, List.set_cons_succ]
      refine (c_r02_Seal ob.sl (ob.lt' (by omega)) (by rw [refBytes_length]; omega) (refBytes_lt r)).mono ?_
      rintro ws Hc ⟨oc, fc⟩
      have qc := fc.n
      have kc : ∀ b, b < H.n + 1 + 1 → Hc.g b = H1.g b := fun b hb => by rw [fc.at (by omega)]; exact kbb b hb
      have hS : (summed (refBytes r)).length = 64 := by simp [summed, refBytes_length, le_length]
      have hfin : bC (refLay r) = (part (summed (refBytes r)) 64).map B8 := by unfold part; rw [List.take_of_length_le (by omega)]; simp [bC, refLay, sealed]
      generalize hSS : summed (refBytes r) = S at *
      have lw := oc.lt (by omega)
      simp (disch := first | omega | assumption | exact id rfl | (simp only [okw_wr]; assumption)) only [t1, t2, t4, t3, RC, RO, RM, RT, AV.cells, Option.map_some, AV.one, AV.all1, i64_wrap, u64_wrap, u32_wrap, u8_wrap, Nat.zero_add, Nat.add_zero, Nat.reduceEqDiff, Nat.reduceLeDiff, Nat.reduceAdd, Nat.left_eq_add, Nat.add_eq_left, Nat.add_left_cancel_iff, reduceIte, eq_self, decide_true, decide_false, Bool.not_true, Bool.not_false, reduceCtorEq, List.getElem?_cons_zero, List.getElem?_cons_succ, List.set_cons_zero, List.set_cons_succ]
      refine Cs_loop (fun m T H' => ∃ k : Nat, m + k = 64 ∧ T 2 = .ptr (some (H.n + 1, 0)) ∧ T 3 = ws ∧ T 5 = .ptr (some (Hc.n, 0)) ∧ T 6 = I k ∧ H'.g Hc.n = .cells ((part S k).map B8) 61 false ∧ Hc.n + 1 ≤ H'.n ∧ (∀ b, b < Hc.n → H'.g b = Hc.g b)) ⟨0, rfl, ?_⟩ ?_
      · simp (disch := omega) only [upd_ne, upd_same, t2]
        refine ⟨(by first | trivial | rfl), (by first | trivial | rfl), (by first | trivial | rfl), rfl, by simp [part], Nat.le_refl _, fun b hb => by simp (disch := omega) only [upd_ne]⟩
      · rintro m T Hd ⟨k, hm, s2, s3, s5, s6, gd, qd, kd⟩
        simp (disch := first | omega | assumption | exact id rfl | (simp only [okw_wr]; assumption)) only [s2, s3, s5, s6, RC, RO, RM, RT, AV.cells, Option.map_some, AV.one, AV.all1, i64_wrap, u64_wrap, u32_wrap, u8_wrap, Nat.zero_add, Nat.add_zero, Nat.reduceEqDiff, Nat.reduceLeDiff, Nat.reduceAdd, Nat.left_eq_add, Nat.add_eq_left, Nat.add_left_cancel_iff, reduceIte, eq_self, decide_true, decide_false, Bool.not_true, Bool.not_false, reduceCtorEq, List.getElem?_cons_zero, List.getElem?_cons_succ, List.set_cons_zero, List.set_cons_succ]
        refine Is_split (fun hb2 => ?_) (fun hb2 => ?_)
        · have hk := of_decide_eq_true hb2
          simp only [hb2]
          have hpl : (part S k).length = 64 := by simp [part]; omega
          have ok : okw (.cells ((part S k).map B8) 61 false) ((k : Int).toNat * 1) := ⟨_, _, rfl, by rw [List.length_map]; omega⟩
          simp (disch := first | omega | assumption | exact id rfl | (simp only [okw_wr]; assumption)) only [s2, s3, s5, s6, kd, oc.sl.ix, oc.sl.c0 0, page_ixP, gd, wr1_c, RC, RO, RM, RT, AV.cells, Option.map_some, AV.one, AV.all1, i64_wrap, u64_wrap, u32_wrap, u8_wrap, Nat.zero_add, Nat.add_zero, Nat.reduceEqDiff, Nat.reduceLeDiff, Nat.reduceAdd, Nat.left_eq_add, Nat.add_eq_left, Nat.add_left_cancel_iff, reduceIte, eq_self, decide_true, decide_false, Bool.not_true, Bool.not_false, reduceCtorEq, List.getElem?_cons_zero, List.getElem?_cons_succ, List.set_cons_zero, List.set_cons_succ]
          refine ⟨m - 1, by omega, k + 1, by omega, (by first | trivial | rfl), (by first | trivial | rfl), (by first | trivial | rfl), by rw [Int.natCast_succ], ?_, qd, fun b hb => by simp (disch := omega) only [upd_ne, kd]⟩
          rw [Int.toNat_natCast, Nat.mul_one, ← List.map_set, part_set hS (by omega)]
        · have hk := of_decide_eq_false hb2
          simp only [hb2]
          have : k = 64 := by omega
          subst this
          rw [← hfin] at gd
          have tz := bC_len (refLay r)
          have tz1 := bC_one (refLay r)
          have tz2 : (List.replicate 64 (AV.int .u8 0)).length = (bC (refLay r)).length := by rw [bC_len, List.length_replicate]
          have gp : Hd.g (H.n + 1) = .cells (List.replicate 64 (.int .u8 0)) 61 false := by rw [kd _ (by omega), kc _ (by omega)]; exact p1
          simp (disch := first | omega | assumption | exact id rfl | (simp only [okw_wr]; assumption)) only [s2, s3, s5, s6, gd, gp, RC, RO, RM, RT, AV.cells, Option.map_some, AV.one, AV.all1, i64_wrap, u64_wrap, u32_wrap, u8_wrap, Nat.zero_add, Nat.add_zero, Nat.reduceEqDiff, Nat.reduceLeDiff, Nat.reduceAdd, Nat.left_eq_add, Nat.add_eq_left, Nat.add_left_cancel_iff, reduceIte, eq_self, decide_true, decide_false, Bool.not_true, Bool.not_false, reduceCtorEq, List.getElem?_cons_zero, List.getElem?_cons_succ, List.set_cons_zero, List.set_cons_succ]
          refine ⟨trivial, by show H.n ≤ Hd.n; omega, fun b hb _ => ?_⟩
          show upd _ _ _ _ = _
          rw [upd_ne _ _ (by omega), kd b (by omega), kc b (by omega), f1.at hb]
end Go.Eng
