/-
  G3: Walks of word and crc; zone.Read.
  G2: Walks of zone.
  G1: Walks of geom.
-/
import Derived.Test.YtecaahcbbdbpbaaW7
import Derived.Test.YtecaahcbbdbpbaaW8
import Derived.Test.YtecaahcbbdbpbaaW9
import Derived.Test.YtecaahcbbdbpbaaW10
namespace Go.Eng
open Wr
set_option linter.unusedVariables false
set_option linter.unusedSimpArgs false
/-- right measures -/
structure GOk (g : Geom) : Prop where
  c : 2 ≤ g.conv
  s : 6 ≤ g.seq
  z : g.conv + g.seq ≤ 64
  n : 8 ≤ g.size
  m : g.size ≤ 256
  o : 3 ≤ g.opn
  f : 0 ≤ g.soft
  t : g.soft ≤ 65536
theorem mul_le_16 {a b : Int} (h1 : 0 ≤ a) (h2 : a ≤ 64) (h3 : 0 ≤ b) (h4 : b ≤ 256) : 0 ≤ a * b ∧ a * b ≤ 16384 :=
  ⟨Int.mul_nonneg h1 h3, by have := Int.mul_le_mul h2 h4 h3 (by omega); omega⟩
theorem c_geom_Zones {g : Geom} {H : AH} (h : GOk g) : Acalls P0 S0 49 [.agg (gC g)] H fun v H' => v = I (zones g) ∧ Fr No H H' := by
  obtain ⟨_, _, _, _, _, _, _, _⟩ := h
  refine Acalls.go m49 rfl ?_
  rw [slots0_1]; unfold b49
  simp (disch := first | omega | assumption | exact id rfl | (simp only [okw_wr]; assumption)) only [RC, RO, RM, RT, AV.cells, Option.map_some, AV.one, AV.all1, i64_wrap, u64_wrap, u32_wrap, u8_wrap, Nat.zero_add, Nat.add_zero, Nat.reduceEqDiff, Nat.reduceLeDiff, Nat.reduceAdd, Nat.left_eq_add, Nat.add_eq_left, Nat.add_left_cancel_iff, reduceIte, eq_self, decide_true, decide_false, Bool.not_true, Bool.not_false, reduceCtorEq, List.getElem?_cons_zero, List.getElem?_cons_succ, List.set_cons_zero, List.set_cons_succ]
  refine ⟨rfl, ?_⟩
  (refine ⟨by (try simp only []); omega, fun b hb hm => ?_⟩; simp (disch := first | omega | assumption) only [upd_ne])
theorem c_geom_Num {g : Geom} {a : At} {H : AH} (h : GOk g) : Acalls P0 S0 24 [.agg (gC g), .agg (aC a)] H fun v H' => v = I (num g a) ∧ Fr No H H' := by
  have hg := h
  obtain ⟨_, _, _, _, _, _, _, _⟩ := h
  refine Acalls.go m24 rfl ?_
  rw [slots0_2]; unfold b24
  (simp (disch := first | omega | assumption | exact id rfl | (simp only [okw_wr]; assumption)) only [RC, RO, RM, RT, AV.cells, Option.map_some, AV.one, AV.all1, i64_wrap, u64_wrap, u32_wrap, u8_wrap, Nat.zero_add, Nat.add_zero, Nat.reduceEqDiff, Nat.reduceLeDiff, Nat.reduceAdd, Nat.left_eq_add, Nat.add_eq_left, Nat.add_left_cancel_iff, reduceIte, eq_self, decide_true, decide_false, Bool.not_true, Bool.not_false, reduceCtorEq, List.getElem?_cons_zero, List.getElem?_cons_succ, List.set_cons_zero, List.set_cons_succ]; repeat' (first | (refine Gs_split (fun hb => ?_) (fun hb => ?_) <;> (simp only [hb]; (try simp only [decide_eq_true_eq, decide_eq_false_iff_not, Bool.not_eq_true', Bool.not_eq_false', ne_eq, Decidable.not_not, not_true_eq_false] at hb); (try simp (disch := first | omega | assumption | exact id rfl | (simp only [okw_wr]; assumption)) only [RC, RO, RM, RT, AV.cells, Option.map_some, AV.one, AV.all1, i64_wrap, u64_wrap, u32_wrap, u8_wrap, Nat.zero_add, Nat.add_zero, Nat.reduceEqDiff, Nat.reduceLeDiff, Nat.reduceAdd, Nat.left_eq_add, Nat.add_eq_left, Nat.add_left_cancel_iff, reduceIte, eq_self, decide_true, decide_false, Bool.not_true, Bool.not_false, reduceCtorEq, List.getElem?_cons_zero, List.getElem?_cons_succ, List.set_cons_zero, List.set_cons_succ]))) | (refine Is_split (fun hb => ?_) (fun hb => ?_) <;> (simp only [hb]; (try simp only [decide_eq_true_eq, decide_eq_false_iff_not, Bool.not_eq_true', Bool.not_eq_false', ne_eq, Decidable.not_not, not_true_eq_false] at hb); (try simp (disch := first | omega | assumption | exact id rfl | (simp only [okw_wr]; assumption)) only [RC, RO, RM, RT, AV.cells, Option.map_some, AV.one, AV.all1, i64_wrap, u64_wrap, u32_wrap, u8_wrap, Nat.zero_add, Nat.add_zero, Nat.reduceEqDiff, Nat.reduceLeDiff, Nat.reduceAdd, Nat.left_eq_add, Nat.add_eq_left, Nat.add_left_cancel_iff, reduceIte, eq_self, decide_true, decide_false, Bool.not_true, Bool.not_false, reduceCtorEq, List.getElem?_cons_zero, List.getElem?_cons_succ, List.set_cons_zero, List.set_cons_succ]))) | (refine Dg_split (fun hb => ?_) (fun hb => ?_) <;> (simp only [hb]; (try simp only [decide_eq_true_eq, decide_eq_false_iff_not, Bool.not_eq_true', Bool.not_eq_false', ne_eq, Decidable.not_not, not_true_eq_false] at hb); (try simp (disch := first | omega | assumption | exact id rfl | (simp only [okw_wr]; assumption)) only [RC, RO, RM, RT, AV.cells, Option.map_some, AV.one, AV.all1, i64_wrap, u64_wrap, u32_wrap, u8_wrap, Nat.zero_add, Nat.add_zero, Nat.reduceEqDiff, Nat.reduceLeDiff, Nat.reduceAdd, Nat.left_eq_add, Nat.add_eq_left, Nat.add_left_cancel_iff, reduceIte, eq_self, decide_true, decide_false, Bool.not_true, Bool.not_false, reduceCtorEq, List.getElem?_cons_zero, List.getElem?_cons_succ, List.set_cons_zero, List.set_cons_succ])))))
  · refine ⟨?_, ?_⟩
    · unfold num; rw [if_pos hb]
    · (refine ⟨by (try simp only []); omega, fun b hb hm => ?_⟩; simp (disch := first | omega | assumption) only [upd_ne])
  · refine (c_geom_Zones hg).mono ?_
    rintro v H' ⟨rfl, hf⟩
    refine ⟨rfl, ?_⟩
    have h1 : ¬ a.zone < g.conv := by omega
    (simp (disch := first | omega | assumption | exact id rfl | (simp only [okw_wr]; assumption)) only [RC, RO, RM, RT, AV.cells, Option.map_some, AV.one, AV.all1, i64_wrap, u64_wrap, u32_wrap, u8_wrap, Nat.zero_add, Nat.add_zero, Nat.reduceEqDiff, Nat.reduceLeDiff, Nat.reduceAdd, Nat.left_eq_add, Nat.add_eq_left, Nat.add_left_cancel_iff, reduceIte, eq_self, decide_true, decide_false, Bool.not_true, Bool.not_false, reduceCtorEq, List.getElem?_cons_zero, List.getElem?_cons_succ, List.set_cons_zero, List.set_cons_succ]; repeat' (first | (refine Gs_split (fun hb => ?_) (fun hb => ?_) <;> (simp only [hb]; (try simp only [decide_eq_true_eq, decide_eq_false_iff_not, Bool.not_eq_true', Bool.not_eq_false', ne_eq, Decidable.not_not, not_true_eq_false] at hb); (try simp (disch := first | omega | assumption | exact id rfl | (simp only [okw_wr]; assumption)) only [RC, RO, RM, RT, AV.cells, Option.map_some, AV.one, AV.all1, i64_wrap, u64_wrap, u32_wrap, u8_wrap, Nat.zero_add, Nat.add_zero, Nat.reduceEqDiff, Nat.reduceLeDiff, Nat.reduceAdd, Nat.left_eq_add, Nat.add_eq_left, Nat.add_left_cancel_iff, reduceIte, eq_self, decide_true, decide_false, Bool.not_true, Bool.not_false, reduceCtorEq, List.getElem?_cons_zero, List.getElem?_cons_succ, List.set_cons_zero, List.set_cons_succ]))) | (refine Is_split (fun hb => ?_) (fun hb => ?_) <;> (simp only [hb]; (try simp only [decide_eq_true_eq, decide_eq_false_iff_not, Bool.not_eq_true', Bool.not_eq_false', ne_eq, Decidable.not_not, not_true_eq_false] at hb); (try simp (disch := first | omega | assumption | exact id rfl | (simp only [okw_wr]; assumption)) only [RC, RO, RM, RT, AV.cells, Option.map_some, AV.one, AV.all1, i64_wrap, u64_wrap, u32_wrap, u8_wrap, Nat.zero_add, Nat.add_zero, Nat.reduceEqDiff, Nat.reduceLeDiff, Nat.reduceAdd, Nat.left_eq_add, Nat.add_eq_left, Nat.add_left_cancel_iff, reduceIte, eq_self, decide_true, decide_false, Bool.not_true, Bool.not_false, reduceCtorEq, List.getElem?_cons_zero, List.getElem?_cons_succ, List.set_cons_zero, List.set_cons_succ]))) | (refine Dg_split (fun hb => ?_) (fun hb => ?_) <;> (simp only [hb]; (try simp only [decide_eq_true_eq, decide_eq_false_iff_not, Bool.not_eq_true', Bool.not_eq_false', ne_eq, Decidable.not_not, not_true_eq_false] at hb); (try simp (disch := first | omega | assumption | exact id rfl | (simp only [okw_wr]; assumption)) only [RC, RO, RM, RT, AV.cells, Option.map_some, AV.one, AV.all1, i64_wrap, u64_wrap, u32_wrap, u8_wrap, Nat.zero_add, Nat.add_zero, Nat.reduceEqDiff, Nat.reduceLeDiff, Nat.reduceAdd, Nat.left_eq_add, Nat.add_eq_left, Nat.add_left_cancel_iff, reduceIte, eq_self, decide_true, decide_false, Bool.not_true, Bool.not_false, reduceCtorEq, List.getElem?_cons_zero, List.getElem?_cons_succ, List.set_cons_zero, List.set_cons_succ])))))
    all_goals refine ⟨?_, by (refine ⟨by (try simp only []); omega, fun b hb hm => ?_⟩; simp (disch := first | omega | assumption) only [upd_ne])⟩
    · unfold num; rw [if_neg h1, if_pos hb]
    · rename_i h2; unfold num; rw [if_neg h1, if_neg h2, if_pos hb]
    · rename_i h2 h3; unfold num; rw [if_neg h1, if_neg h2, if_neg h3, if_pos hb]
    · rename_i h2 h3
      have h4 : 0 ≤ a.zone - g.conv ∧ a.zone - g.conv ≤ 64 := by unfold zones at h2; omega
      have h5 := mul_le_16 h4.1 h4.2 (b := g.size) (by omega) (by omega)
      unfold num; rw [if_neg h1, if_neg h2, if_neg h3, if_neg hb]
      generalize (a.zone - g.conv) = z at *
      rw [i64_wrap (x := z) (by omega), i64_wrap (x := z * g.size) (by omega), i64_wrap (x := z * g.size + a.off) (by omega), i64_wrap (by omega)]
end Go.Eng
namespace Go.Eng
open Wr
set_option linter.unusedVariables false
set_option linter.unusedSimpArgs false
theorem c_geom_Sectors {g : Geom} {z : Int} {H : AH} (h : GOk g) : Acalls P0 S0 80 [.agg (gC g), I z] H fun v H' => v = I (sectors g z) ∧ Fr No H H' := by
  have hg := h
  obtain ⟨_, _, _, _, _, _, _, _⟩ := h
  refine Acalls.go m80 rfl ?_
  rw [slots0_2]; unfold b80
  (simp (disch := first | omega | assumption | exact id rfl | (simp only [okw_wr]; assumption)) only [RC, RO, RM, RT, AV.cells, Option.map_some, AV.one, AV.all1, i64_wrap, u64_wrap, u32_wrap, u8_wrap, Nat.zero_add, Nat.add_zero, Nat.reduceEqDiff, Nat.reduceLeDiff, Nat.reduceAdd, Nat.left_eq_add, Nat.add_eq_left, Nat.add_left_cancel_iff, reduceIte, eq_self, decide_true, decide_false, Bool.not_true, Bool.not_false, reduceCtorEq, List.getElem?_cons_zero, List.getElem?_cons_succ, List.set_cons_zero, List.set_cons_succ]; repeat' (first | (refine Gs_split (fun hb => ?_) (fun hb => ?_) <;> (simp only [hb]; (try simp only [decide_eq_true_eq, decide_eq_false_iff_not, Bool.not_eq_true', Bool.not_eq_false', ne_eq, Decidable.not_not, not_true_eq_false] at hb); (try simp (disch := first | omega | assumption | exact id rfl | (simp only [okw_wr]; assumption)) only [RC, RO, RM, RT, AV.cells, Option.map_some, AV.one, AV.all1, i64_wrap, u64_wrap, u32_wrap, u8_wrap, Nat.zero_add, Nat.add_zero, Nat.reduceEqDiff, Nat.reduceLeDiff, Nat.reduceAdd, Nat.left_eq_add, Nat.add_eq_left, Nat.add_left_cancel_iff, reduceIte, eq_self, decide_true, decide_false, Bool.not_true, Bool.not_false, reduceCtorEq, List.getElem?_cons_zero, List.getElem?_cons_succ, List.set_cons_zero, List.set_cons_succ]))) | (refine Is_split (fun hb => ?_) (fun hb => ?_) <;> (simp only [hb]; (try simp only [decide_eq_true_eq, decide_eq_false_iff_not, Bool.not_eq_true', Bool.not_eq_false', ne_eq, Decidable.not_not, not_true_eq_false] at hb); (try simp (disch := first | omega | assumption | exact id rfl | (simp only [okw_wr]; assumption)) only [RC, RO, RM, RT, AV.cells, Option.map_some, AV.one, AV.all1, i64_wrap, u64_wrap, u32_wrap, u8_wrap, Nat.zero_add, Nat.add_zero, Nat.reduceEqDiff, Nat.reduceLeDiff, Nat.reduceAdd, Nat.left_eq_add, Nat.add_eq_left, Nat.add_left_cancel_iff, reduceIte, eq_self, decide_true, decide_false, Bool.not_true, Bool.not_false, reduceCtorEq, List.getElem?_cons_zero, List.getElem?_cons_succ, List.set_cons_zero, List.set_cons_succ]))) | (refine Dg_split (fun hb => ?_) (fun hb => ?_) <;> (simp only [hb]; (try simp only [decide_eq_true_eq, decide_eq_false_iff_not, Bool.not_eq_true', Bool.not_eq_false', ne_eq, Decidable.not_not, not_true_eq_false] at hb); (try simp (disch := first | omega | assumption | exact id rfl | (simp only [okw_wr]; assumption)) only [RC, RO, RM, RT, AV.cells, Option.map_some, AV.one, AV.all1, i64_wrap, u64_wrap, u32_wrap, u8_wrap, Nat.zero_add, Nat.add_zero, Nat.reduceEqDiff, Nat.reduceLeDiff, Nat.reduceAdd, Nat.left_eq_add, Nat.add_eq_left, Nat.add_left_cancel_iff, reduceIte, eq_self, decide_true, decide_false, Bool.not_true, Bool.not_false, reduceCtorEq, List.getElem?_cons_zero, List.getElem?_cons_succ, List.set_cons_zero, List.set_cons_succ])))))
  · exact ⟨by unfold sectors; rw [if_pos hb], by (refine ⟨by (try simp only []); omega, fun b hb hm => ?_⟩; simp (disch := first | omega | assumption) only [upd_ne])⟩
  · refine (c_geom_Zones hg).mono ?_
    rintro v H1 ⟨rfl, f1⟩
    have q1 := f1.le
    (simp (disch := first | omega | assumption | exact id rfl | (simp only [okw_wr]; assumption)) only [f1.old, RC, RO, RM, RT, AV.cells, Option.map_some, AV.one, AV.all1, i64_wrap, u64_wrap, u32_wrap, u8_wrap, Nat.zero_add, Nat.add_zero, Nat.reduceEqDiff, Nat.reduceLeDiff, Nat.reduceAdd, Nat.left_eq_add, Nat.add_eq_left, Nat.add_left_cancel_iff, reduceIte, eq_self, decide_true, decide_false, Bool.not_true, Bool.not_false, reduceCtorEq, List.getElem?_cons_zero, List.getElem?_cons_succ, List.set_cons_zero, List.set_cons_succ]; repeat' (first | (refine Gs_split (fun hb => ?_) (fun hb => ?_) <;> (simp only [hb]; (try simp only [decide_eq_true_eq, decide_eq_false_iff_not, Bool.not_eq_true', Bool.not_eq_false', ne_eq, Decidable.not_not, not_true_eq_false] at hb); (try simp (disch := first | omega | assumption | exact id rfl | (simp only [okw_wr]; assumption)) only [f1.old, RC, RO, RM, RT, AV.cells, Option.map_some, AV.one, AV.all1, i64_wrap, u64_wrap, u32_wrap, u8_wrap, Nat.zero_add, Nat.add_zero, Nat.reduceEqDiff, Nat.reduceLeDiff, Nat.reduceAdd, Nat.left_eq_add, Nat.add_eq_left, Nat.add_left_cancel_iff, reduceIte, eq_self, decide_true, decide_false, Bool.not_true, Bool.not_false, reduceCtorEq, List.getElem?_cons_zero, List.getElem?_cons_succ, List.set_cons_zero, List.set_cons_succ]))) | (refine Is_split (fun hb => ?_) (fun hb => ?_) <;> (simp only [hb]; (try simp only [decide_eq_true_eq, decide_eq_false_iff_not, Bool.not_eq_true', Bool.not_eq_false', ne_eq, Decidable.not_not, not_true_eq_false] at hb); (try simp (disch := first | omega | assumption | exact id rfl | (simp only [okw_wr]; assumption)) only [f1.old, RC, RO, RM, RT, AV.cells, Option.map_some, AV.one, AV.all1, i64_wrap, u64_wrap, u32_wrap, u8_wrap, Nat.zero_add, Nat.add_zero, Nat.reduceEqDiff, Nat.reduceLeDiff, Nat.reduceAdd, Nat.left_eq_add, Nat.add_eq_left, Nat.add_left_cancel_iff, reduceIte, eq_self, decide_true, decide_false, Bool.not_true, Bool.not_false, reduceCtorEq, List.getElem?_cons_zero, List.getElem?_cons_succ, List.set_cons_zero, List.set_cons_succ]))) | (refine Dg_split (fun hb => ?_) (fun hb => ?_) <;> (simp only [hb]; (try simp only [decide_eq_true_eq, decide_eq_false_iff_not, Bool.not_eq_true', Bool.not_eq_false', ne_eq, Decidable.not_not, not_true_eq_false] at hb); (try simp (disch := first | omega | assumption | exact id rfl | (simp only [okw_wr]; assumption)) only [f1.old, RC, RO, RM, RT, AV.cells, Option.map_some, AV.one, AV.all1, i64_wrap, u64_wrap, u32_wrap, u8_wrap, Nat.zero_add, Nat.add_zero, Nat.reduceEqDiff, Nat.reduceLeDiff, Nat.reduceAdd, Nat.left_eq_add, Nat.add_eq_left, Nat.add_left_cancel_iff, reduceIte, eq_self, decide_true, decide_false, Bool.not_true, Bool.not_false, reduceCtorEq, List.getElem?_cons_zero, List.getElem?_cons_succ, List.set_cons_zero, List.set_cons_succ])))))
    all_goals refine ⟨?_, by (refine ⟨by (try simp only []); omega, fun b hb hm => ?_⟩; simp (disch := first | omega | assumption) only [f1.old, upd_ne])⟩
    · unfold sectors; rw [if_neg (by omega), if_pos hb]
    · unfold sectors; rw [if_neg (by omega), if_neg (by omega), if_pos hb]
    · unfold sectors; rw [if_neg (by omega), if_neg (by omega), if_neg hb]
theorem sectors_flat {g : Geom} {z : Int} : (I (sectors g z)).flatT = true := _root_.id rfl
theorem c_zone_there {g : Geom} {a : At} {H : AH} (h : GOk g) : Acalls P0 S0 61 [.agg (gC g), .agg (aC a)] H fun v H' => v = .bool (there g a) ∧ Fr No H H' := by
  have hg := h
  refine Acalls.go m61 rfl ?_
  rw [slots0_2]; unfold b61
  (simp (disch := first | omega | assumption | exact id rfl | (simp only [okw_wr]; assumption)) only [RC, RO, RM, RT, AV.cells, Option.map_some, AV.one, AV.all1, i64_wrap, u64_wrap, u32_wrap, u8_wrap, Nat.zero_add, Nat.add_zero, Nat.reduceEqDiff, Nat.reduceLeDiff, Nat.reduceAdd, Nat.left_eq_add, Nat.add_eq_left, Nat.add_left_cancel_iff, reduceIte, eq_self, decide_true, decide_false, Bool.not_true, Bool.not_false, reduceCtorEq, List.getElem?_cons_zero, List.getElem?_cons_succ, List.set_cons_zero, List.set_cons_succ]; repeat' (first | (refine Gs_split (fun hb => ?_) (fun hb => ?_) <;> (simp only [hb]; (try simp only [decide_eq_true_eq, decide_eq_false_iff_not, Bool.not_eq_true', Bool.not_eq_false', ne_eq, Decidable.not_not, not_true_eq_false] at hb); (try simp (disch := first | omega | assumption | exact id rfl | (simp only [okw_wr]; assumption)) only [RC, RO, RM, RT, AV.cells, Option.map_some, AV.one, AV.all1, i64_wrap, u64_wrap, u32_wrap, u8_wrap, Nat.zero_add, Nat.add_zero, Nat.reduceEqDiff, Nat.reduceLeDiff, Nat.reduceAdd, Nat.left_eq_add, Nat.add_eq_left, Nat.add_left_cancel_iff, reduceIte, eq_self, decide_true, decide_false, Bool.not_true, Bool.not_false, reduceCtorEq, List.getElem?_cons_zero, List.getElem?_cons_succ, List.set_cons_zero, List.set_cons_succ]))) | (refine Is_split (fun hb => ?_) (fun hb => ?_) <;> (simp only [hb]; (try simp only [decide_eq_true_eq, decide_eq_false_iff_not, Bool.not_eq_true', Bool.not_eq_false', ne_eq, Decidable.not_not, not_true_eq_false] at hb); (try simp (disch := first | omega | assumption | exact id rfl | (simp only [okw_wr]; assumption)) only [RC, RO, RM, RT, AV.cells, Option.map_some, AV.one, AV.all1, i64_wrap, u64_wrap, u32_wrap, u8_wrap, Nat.zero_add, Nat.add_zero, Nat.reduceEqDiff, Nat.reduceLeDiff, Nat.reduceAdd, Nat.left_eq_add, Nat.add_eq_left, Nat.add_left_cancel_iff, reduceIte, eq_self, decide_true, decide_false, Bool.not_true, Bool.not_false, reduceCtorEq, List.getElem?_cons_zero, List.getElem?_cons_succ, List.set_cons_zero, List.set_cons_succ]))) | (refine Dg_split (fun hb => ?_) (fun hb => ?_) <;> (simp only [hb]; (try simp only [decide_eq_true_eq, decide_eq_false_iff_not, Bool.not_eq_true', Bool.not_eq_false', ne_eq, Decidable.not_not, not_true_eq_false] at hb); (try simp (disch := first | omega | assumption | exact id rfl | (simp only [okw_wr]; assumption)) only [RC, RO, RM, RT, AV.cells, Option.map_some, AV.one, AV.all1, i64_wrap, u64_wrap, u32_wrap, u8_wrap, Nat.zero_add, Nat.add_zero, Nat.reduceEqDiff, Nat.reduceLeDiff, Nat.reduceAdd, Nat.left_eq_add, Nat.add_eq_left, Nat.add_left_cancel_iff, reduceIte, eq_self, decide_true, decide_false, Bool.not_true, Bool.not_false, reduceCtorEq, List.getElem?_cons_zero, List.getElem?_cons_succ, List.set_cons_zero, List.set_cons_succ])))))
  · refine (c_geom_Sectors hg).mono ?_
    rintro v H1 ⟨rfl, f1⟩
    refine ⟨rfl, ?_⟩
    (simp (disch := first | omega | assumption | exact id rfl | (simp only [okw_wr]; assumption)) only [RC, RO, RM, RT, AV.cells, Option.map_some, AV.one, AV.all1, i64_wrap, u64_wrap, u32_wrap, u8_wrap, Nat.zero_add, Nat.add_zero, Nat.reduceEqDiff, Nat.reduceLeDiff, Nat.reduceAdd, Nat.left_eq_add, Nat.add_eq_left, Nat.add_left_cancel_iff, reduceIte, eq_self, decide_true, decide_false, Bool.not_true, Bool.not_false, reduceCtorEq, List.getElem?_cons_zero, List.getElem?_cons_succ, List.set_cons_zero, List.set_cons_succ]; repeat' (first | (refine Gs_split (fun hb => ?_) (fun hb => ?_) <;> (simp only [hb]; (try simp only [decide_eq_true_eq, decide_eq_false_iff_not, Bool.not_eq_true', Bool.not_eq_false', ne_eq, Decidable.not_not, not_true_eq_false] at hb); (try simp (disch := first | omega | assumption | exact id rfl | (simp only [okw_wr]; assumption)) only [RC, RO, RM, RT, AV.cells, Option.map_some, AV.one, AV.all1, i64_wrap, u64_wrap, u32_wrap, u8_wrap, Nat.zero_add, Nat.add_zero, Nat.reduceEqDiff, Nat.reduceLeDiff, Nat.reduceAdd, Nat.left_eq_add, Nat.add_eq_left, Nat.add_left_cancel_iff, reduceIte, eq_self, decide_true, decide_false, Bool.not_true, Bool.not_false, reduceCtorEq, List.getElem?_cons_zero, List.getElem?_cons_succ, List.set_cons_zero, List.set_cons_succ]))) | (refine Is_split (fun hb => ?_) (fun hb => ?_) <;> (simp only [hb]; (try simp only [decide_eq_true_eq, decide_eq_false_iff_not, Bool.not_eq_true', Bool.not_eq_false', ne_eq, Decidable.not_not, not_true_eq_false] at hb); (try simp (disch := first | omega | assumption | exact id rfl | (simp only [okw_wr]; assumption)) only [RC, RO, RM, RT, AV.cells, Option.map_some, AV.one, AV.all1, i64_wrap, u64_wrap, u32_wrap, u8_wrap, Nat.zero_add, Nat.add_zero, Nat.reduceEqDiff, Nat.reduceLeDiff, Nat.reduceAdd, Nat.left_eq_add, Nat.add_eq_left, Nat.add_left_cancel_iff, reduceIte, eq_self, decide_true, decide_false, Bool.not_true, Bool.not_false, reduceCtorEq, List.getElem?_cons_zero, List.getElem?_cons_succ, List.set_cons_zero, List.set_cons_succ]))) | (refine Dg_split (fun hb => ?_) (fun hb => ?_) <;> (simp only [hb]; (try simp only [decide_eq_true_eq, decide_eq_false_iff_not, Bool.not_eq_true', Bool.not_eq_false', ne_eq, Decidable.not_not, not_true_eq_false] at hb); (try simp (disch := first | omega | assumption | exact id rfl | (simp only [okw_wr]; assumption)) only [RC, RO, RM, RT, AV.cells, Option.map_some, AV.one, AV.all1, i64_wrap, u64_wrap, u32_wrap, u8_wrap, Nat.zero_add, Nat.add_zero, Nat.reduceEqDiff, Nat.reduceLeDiff, Nat.reduceAdd, Nat.left_eq_add, Nat.add_eq_left, Nat.add_left_cancel_iff, reduceIte, eq_self, decide_true, decide_false, Bool.not_true, Bool.not_false, reduceCtorEq, List.getElem?_cons_zero, List.getElem?_cons_succ, List.set_cons_zero, List.set_cons_succ])))))
    refine ⟨?_, by (refine ⟨by (try simp only []); omega, fun b hb hm => ?_⟩; simp (disch := first | omega | assumption) only [upd_ne])⟩
    unfold there; rw [decide_eq_true hb]; rfl
  · refine ⟨?_, by (refine ⟨by (try simp only []); omega, fun b hb hm => ?_⟩; simp (disch := first | omega | assumption) only [upd_ne])⟩
    unfold there; rw [decide_eq_false (by omega)]; rfl
theorem ts_Zone : tiSl P0 58 = true := by kernel_rfl
theorem c_Clone_Zone {v : AV} {L : List Zone} {H : AH} (hs : Sl H.g 2 zC v L) (hv : sb v < H.n) (hl : L.length ≤ 1000000) : Acalls P0 S0 37 [v] H fun v' H' => Own H' H.n 2 65 zC v' L ∧ Fr No H H' :=
  Acalls.clone m37 rfl ts_Zone zC_one (by omega) hs hv (by omega)
theorem zopen_le : ∀ l : List Zone, 0 ≤ zopen l ∧ zopen l ≤ l.length
  | [] => by simp [zopen]
  | z :: l => by have := zopen_le l; simp only [zopen, List.length_cons]; split <;> omega
theorem zopen_app (l : List Zone) (z : Zone) : zopen (l ++ [z]) = zopen l + (if z.state = 1 then 1 else 0) := by
  induction l with
  | nil => simp [zopen]
  | cons y l ih => simp only [List.cons_append, zopen, ih]; omega
theorem zopen_take (l : List Zone) (i : Nat) (h : i < l.length) : zopen (l.take (i + 1)) = zopen (l.take i) + (if (l.getD i ⟨0, 0⟩).state = 1 then 1 else 0) := by
  rw [List.take_succ_eq_append_getElem h, zopen_app]; simp [h]
theorem c_zone_open {v : AV} {L : List Zone} {H : AH} (hs : Sl H.g 2 zC v L) (hv : sb v < H.n) (hl : L.length ≤ 1000000) : Acalls P0 S0 62 [v] H fun v' H' => v' = I (zopen L) ∧ Fr No H H' := by
  refine Acalls.go m62 rfl ?_
  rw [slots0_1]; unfold b62
  simp (disch := first | omega | assumption | exact id rfl | (simp only [okw_wr]; assumption)) only [hs.ln, RC, RO, RM, RT, AV.cells, Option.map_some, AV.one, AV.all1, i64_wrap, u64_wrap, u32_wrap, u8_wrap, Nat.zero_add, Nat.add_zero, Nat.reduceEqDiff, Nat.reduceLeDiff, Nat.reduceAdd, Nat.left_eq_add, Nat.add_eq_left, Nat.add_left_cancel_iff, reduceIte, eq_self, decide_true, decide_false, Bool.not_true, Bool.not_false, reduceCtorEq, List.getElem?_cons_zero, List.getElem?_cons_succ, List.set_cons_zero, List.set_cons_succ]
  refine Cs_loop (fun n T H' => ∃ i : Nat, n + i = L.length ∧ T 6 = v ∧ T 7 = I L.length ∧ T 8 = I i ∧ T 3 = I (zopen (L.take i)) ∧ Fr No H H') ⟨0, rfl, ?_⟩ ?_
  · simp (disch := omega) only [upd_ne, upd_same]
    exact ⟨trivial, trivial, rfl, rfl, Fr.refl _⟩
  · rintro n T H1 ⟨i, hn, h6, h7, h8, h3, f1⟩
    have q1 := f1.n
    have hz := zopen_le (L.take i)
    have hz2 := List.length_take_le i L
    (simp (disch := first | omega | assumption | exact id rfl | (simp only [okw_wr]; assumption)) only [h6, h7, h8, h3, f1.at, hs.ix, hs.cN ⟨0, 0⟩, RC, RO, RM, RT, AV.cells, Option.map_some, AV.one, AV.all1, i64_wrap, u64_wrap, u32_wrap, u8_wrap, Nat.zero_add, Nat.add_zero, Nat.reduceEqDiff, Nat.reduceLeDiff, Nat.reduceAdd, Nat.left_eq_add, Nat.add_eq_left, Nat.add_left_cancel_iff, reduceIte, eq_self, decide_true, decide_false, Bool.not_true, Bool.not_false, reduceCtorEq, List.getElem?_cons_zero, List.getElem?_cons_succ, List.set_cons_zero, List.set_cons_succ]; repeat' (first | (refine Gs_split (fun hb => ?_) (fun hb => ?_) <;> (simp only [hb]; (try simp only [decide_eq_true_eq, decide_eq_false_iff_not, Bool.not_eq_true', Bool.not_eq_false', ne_eq, Decidable.not_not, not_true_eq_false] at hb); (try simp (disch := first | omega | assumption | exact id rfl | (simp only [okw_wr]; assumption)) only [h6, h7, h8, h3, f1.at, hs.ix, hs.cN ⟨0, 0⟩, RC, RO, RM, RT, AV.cells, Option.map_some, AV.one, AV.all1, i64_wrap, u64_wrap, u32_wrap, u8_wrap, Nat.zero_add, Nat.add_zero, Nat.reduceEqDiff, Nat.reduceLeDiff, Nat.reduceAdd, Nat.left_eq_add, Nat.add_eq_left, Nat.add_left_cancel_iff, reduceIte, eq_self, decide_true, decide_false, Bool.not_true, Bool.not_false, reduceCtorEq, List.getElem?_cons_zero, List.getElem?_cons_succ, List.set_cons_zero, List.set_cons_succ]))) | (refine Is_split (fun hb => ?_) (fun hb => ?_) <;> (simp only [hb]; (try simp only [decide_eq_true_eq, decide_eq_false_iff_not, Bool.not_eq_true', Bool.not_eq_false', ne_eq, Decidable.not_not, not_true_eq_false] at hb); (try simp (disch := first | omega | assumption | exact id rfl | (simp only [okw_wr]; assumption)) only [h6, h7, h8, h3, f1.at, hs.ix, hs.cN ⟨0, 0⟩, RC, RO, RM, RT, AV.cells, Option.map_some, AV.one, AV.all1, i64_wrap, u64_wrap, u32_wrap, u8_wrap, Nat.zero_add, Nat.add_zero, Nat.reduceEqDiff, Nat.reduceLeDiff, Nat.reduceAdd, Nat.left_eq_add, Nat.add_eq_left, Nat.add_left_cancel_iff, reduceIte, eq_self, decide_true, decide_false, Bool.not_true, Bool.not_false, reduceCtorEq, List.getElem?_cons_zero, List.getElem?_cons_succ, List.set_cons_zero, List.set_cons_succ]))) | (refine Dg_split (fun hb => ?_) (fun hb => ?_) <;> (simp only [hb]; (try simp only [decide_eq_true_eq, decide_eq_false_iff_not, Bool.not_eq_true', Bool.not_eq_false', ne_eq, Decidable.not_not, not_true_eq_false] at hb); (try simp (disch := first | omega | assumption | exact id rfl | (simp only [okw_wr]; assumption)) only [h6, h7, h8, h3, f1.at, hs.ix, hs.cN ⟨0, 0⟩, RC, RO, RM, RT, AV.cells, Option.map_some, AV.one, AV.all1, i64_wrap, u64_wrap, u32_wrap, u8_wrap, Nat.zero_add, Nat.add_zero, Nat.reduceEqDiff, Nat.reduceLeDiff, Nat.reduceAdd, Nat.left_eq_add, Nat.add_eq_left, Nat.add_left_cancel_iff, reduceIte, eq_self, decide_true, decide_false, Bool.not_true, Bool.not_false, reduceCtorEq, List.getElem?_cons_zero, List.getElem?_cons_succ, List.set_cons_zero, List.set_cons_succ])))))
    · refine ⟨n - 1, by omega, i + 1, by omega, trivial, trivial, by rw [Int.natCast_succ], ?_, by (refine ⟨by (try simp only []); omega, fun b hb hm => ?_⟩; simp (disch := first | omega | assumption) only [f1.at, upd_ne])⟩
      rw [zopen_take _ _ (by omega), if_pos (by simpa using hb)]
    · refine ⟨n - 1, by omega, i + 1, by omega, trivial, trivial, by rw [Int.natCast_succ], ?_, by (refine ⟨by (try simp only []); omega, fun b hb hm => ?_⟩; simp (disch := first | omega | assumption) only [f1.at, upd_ne])⟩
      rw [zopen_take _ _ (by omega), if_neg (by simpa using hb), Int.add_zero]
    · exact ⟨by rw [List.take_of_length_le (by omega)], f1⟩
def zpart (i n : Nat) : List Zone := List.replicate i ⟨4, 0⟩ ++ List.replicate (n - i) ⟨0, 0⟩
theorem zpart_len {i n : Nat} (h : i ≤ n) : (zpart i n).length = n := by simp [zpart]; omega
theorem zpart_set {i n : Nat} (h : i < n) : (zpart i n).set i ⟨4, 0⟩ = zpart (i + 1) n := by
  unfold zpart
  obtain ⟨m, hm⟩ : ∃ m, n - i = m + 1 := ⟨n - i - 1, by omega⟩
  rw [hm, show n - (i + 1) = m by omega, List.set_append_right _ _ (by simp)]
  simp only [List.length_replicate, Nat.sub_self, List.replicate_succ, List.set_cons_zero]
  rw [← List.replicate_succ, List.replicate_succ' (n := i)]; simp
theorem zpart_at {i n : Nat} (h : i < n) : ((zpart i n).getD i ⟨0, 0⟩).point = 0 := by
  unfold zpart
  rw [List.getD_eq_getElem?_getD, List.getElem?_append_right (by simp)]
  simp only [List.length_replicate, Nat.sub_self, List.getElem?_replicate]; split <;> rfl
theorem c_zone_New {g : Geom} {H : AH} (h : GOk g) : Acalls P0 S0 36 [.agg (gC g)] H fun v H' => Own H' H.n 2 65 zC v (znew g) ∧ Fr No H H' := by
  have hg := h
  obtain ⟨_, _, _, _, _, _, _, _⟩ := h
  refine Acalls.go m36 rfl ?_
  rw [slots0_1]; unfold b36
  simp (disch := first | omega | assumption | exact id rfl | (simp only [okw_wr]; assumption)) only [RC, RO, RM, RT, AV.cells, Option.map_some, AV.one, AV.all1, i64_wrap, u64_wrap, u32_wrap, u8_wrap, Nat.zero_add, Nat.add_zero, Nat.reduceEqDiff, Nat.reduceLeDiff, Nat.reduceAdd, Nat.left_eq_add, Nat.add_eq_left, Nat.add_left_cancel_iff, reduceIte, eq_self, decide_true, decide_false, Bool.not_true, Bool.not_false, reduceCtorEq, List.getElem?_cons_zero, List.getElem?_cons_succ, List.set_cons_zero, List.set_cons_succ]
  refine (c_geom_Zones hg).mono ?_
  rintro v H1 ⟨rfl, f1⟩
  have q1 := f1.le
  have hz : 0 ≤ zones g ∧ zones g ≤ 64 := by unfold zones; omega
  simp (disch := first | omega | assumption | exact id rfl | (simp only [okw_wr]; assumption)) only [f1.old, RC, RO, RM, RT, AV.cells, Option.map_some, AV.one, AV.all1, i64_wrap, u64_wrap, u32_wrap, u8_wrap, Nat.zero_add, Nat.add_zero, Nat.reduceEqDiff, Nat.reduceLeDiff, Nat.reduceAdd, Nat.left_eq_add, Nat.add_eq_left, Nat.add_left_cancel_iff, reduceIte, eq_self, decide_true, decide_false, Bool.not_true, Bool.not_false, reduceCtorEq, List.getElem?_cons_zero, List.getElem?_cons_succ, List.set_cons_zero, List.set_cons_succ]
  have el : ∀ z, (zC z).length = 2 := zC_len
  have o0 : Own (α := Zone) ⟨upd H1.g H1.n (.cells (zerosA [I 0, I 0] (zones g).toNat) 65 false), H1.n + 1⟩ H1.n 2 65 zC (.slc (some (H1.n, 0)) (zones g).toNat (zones g).toNat 0) (List.replicate (zones g).toNat (⟨0, 0⟩ : Zone)) := by
    have hf : zerosA [I 0, I 0] (zones g).toNat = (List.replicate (zones g).toNat (⟨0, 0⟩ : Zone)).flatMap zC := zerosA_flat (enc := zC) (⟨0, 0⟩ : Zone) _
    have hl := flat_len zC_len (List.replicate (zones g).toNat (⟨0, 0⟩ : Zone))
    have := Own.mks (g := upd H1.g H1.n (.cells (zerosA [I 0, I 0] (zones g).toNat) 65 false)) (m := H1.n + 1) (lo := H1.n) (n := H1.n) (e := 65) (L := List.replicate (zones g).toNat (⟨0, 0⟩ : Zone)) (c := (zones g).toNat) zC_len zC_one (Nat.le_refl _) (Nat.lt_succ_self _) (by simp) (by rw [hf, hl]; simp) (by rw [hf, ← hl, List.take_length]) (upd_same _ _ _)
    simpa using this
  have hsb : sb (.slc (some (H1.n, 0)) (zones g).toNat (zones g).toNat 0) = H1.n := rfl
  generalize AV.slc (some (H1.n, 0)) (zones g).toNat (zones g).toNat 0 = w at o0 hsb ⊢
  refine Cs_loop (fun n T H' => ∃ i : Nat, n + i = g.conv.toNat ∧ T 3 = w ∧ T 9 = I g.conv ∧ T 10 = I i ∧ Own H' H1.n 2 65 zC w (zpart i (zones g).toNat) ∧ H1.n < H'.n ∧ Fr No H H') ⟨0, rfl, ?_⟩ ?_
  · simp (disch := omega) only [upd_ne, upd_same]
    refine ⟨trivial, trivial, rfl, by simpa [zpart] using o0, by omega, ?_⟩
    (refine ⟨by (try simp only []); omega, fun b hb hm => ?_⟩; simp (disch := first | omega | assumption) only [f1.old, upd_ne])
  · rintro n T H2 ⟨i, hn, h3, h9, h10, ho, hlt, f2⟩
    have q2 := f2.n
    have hlen : (zpart i (zones g).toNat).length = (zones g).toNat := zpart_len (by unfold zones at *; omega)
    have hzc : (zones g).toNat = g.conv.toNat + g.seq.toNat := by unfold zones; omega
    simp (disch := first | omega | assumption | exact id rfl | (simp only [okw_wr]; assumption)) only [h3, h9, h10, RC, RO, RM, RT, AV.cells, Option.map_some, AV.one, AV.all1, i64_wrap, u64_wrap, u32_wrap, u8_wrap, Nat.zero_add, Nat.add_zero, Nat.reduceEqDiff, Nat.reduceLeDiff, Nat.reduceAdd, Nat.left_eq_add, Nat.add_eq_left, Nat.add_left_cancel_iff, reduceIte, eq_self, decide_true, decide_false, Bool.not_true, Bool.not_false, reduceCtorEq, List.getElem?_cons_zero, List.getElem?_cons_succ, List.set_cons_zero, List.set_cons_succ]
    refine Is_split (fun hb => ?_) (fun hb => ?_)
    · have hb' := of_decide_eq_true hb
      have hi : 0 ≤ (i : Int) ∧ (i : Int) < (zpart i (zones g).toNat).length := by rw [hlen]; have := of_decide_eq_true hb; omega
      have hix := ho.sl.ix (kd := .i64) hi
      have hok := ho.okw0 hi (by omega)
      have hw := ho.wr0 hi (by omega) ⟨0, 0⟩ (x := I 4) (⟨4, 0⟩ : Zone) (by
        have : ((zpart i (zones g).toNat).getD (i : Int).toNat ⟨0, 0⟩).point = 0 := by
          rw [Int.toNat_natCast, zpart_at (by have := of_decide_eq_true hb; omega)]
        simp only [zC, this, List.set_cons_zero])
      simp only [hb]
      simp (disch := first | omega | assumption | exact id rfl | (simp only [okw_wr]; assumption)) only [h3, h9, h10, hix, hok, RC, RO, RM, RT, AV.cells, Option.map_some, AV.one, AV.all1, i64_wrap, u64_wrap, u32_wrap, u8_wrap, Nat.zero_add, Nat.add_zero, Nat.reduceEqDiff, Nat.reduceLeDiff, Nat.reduceAdd, Nat.left_eq_add, Nat.add_eq_left, Nat.add_left_cancel_iff, reduceIte, eq_self, decide_true, decide_false, Bool.not_true, Bool.not_false, reduceCtorEq, List.getElem?_cons_zero, List.getElem?_cons_succ, List.set_cons_zero, List.set_cons_succ]
      refine ⟨n - 1, by omega, i + 1, by omega, trivial, trivial, by rw [Int.natCast_succ], ?_, by omega, ?_⟩
      · rw [Int.toNat_natCast, zpart_set (by have := of_decide_eq_true hb; omega)] at hw
        exact hw
      · (refine ⟨by (try simp only []); omega, fun b hb hm => ?_⟩; simp (disch := first | omega | assumption) only [f2.at, upd_ne])
    · simp only [hb]
      simp (disch := first | omega | assumption | exact id rfl | (simp only [okw_wr]; assumption)) only [h3, RC, RO, RM, RT, AV.cells, Option.map_some, AV.one, AV.all1, i64_wrap, u64_wrap, u32_wrap, u8_wrap, Nat.zero_add, Nat.add_zero, Nat.reduceEqDiff, Nat.reduceLeDiff, Nat.reduceAdd, Nat.left_eq_add, Nat.add_eq_left, Nat.add_left_cancel_iff, reduceIte, eq_self, decide_true, decide_false, Bool.not_true, Bool.not_false, reduceCtorEq, List.getElem?_cons_zero, List.getElem?_cons_succ, List.set_cons_zero, List.set_cons_succ]
      have : i = g.conv.toNat := by have := of_decide_eq_false hb; omega
      refine ⟨?_, f2⟩
      subst this
      have e : znew g = zpart g.conv.toNat (zones g).toNat := by unfold znew zpart; rw [hzc]; simp
      rw [e]
      exact ho.weak (by omega)
theorem sectors_le {g : Geom} (h : GOk g) (z : Int) : 0 ≤ sectors g z ∧ sectors g z ≤ 65536 := by
  have := h.t; have := h.m; have := h.f; have := h.n
  unfold sectors; split
  · omega
  · split
    · omega
    · split <;> omega
theorem there_zone {g : Geom} {a : At} (h : GOk g) (ht : there g a = true) : 0 ≤ a.zone ∧ a.zone < zones g ∧ 0 ≤ a.off ∧ a.off < sectors g a.zone := by
  unfold there at ht
  simp only [Bool.and_eq_true, decide_eq_true_eq] at ht
  have h2 := ht.2
  unfold sectors at h2
  split at h2
  · omega
  · split at h2
    · omega
    · exact ⟨by omega, by omega, ht.1, ht.2⟩
theorem c_zone_Write {g : Geom} {v : AV} {L : List Zone} {a : At} {H : AH} (h : GOk g) (hs : Sl H.g 2 zC v L) (hv : sb v < H.n) (hl : L.length = (zones g).toNat) :
    Acalls P0 S0 40 [.agg (gC g), v, .agg (aC a)] H fun r H' => ∃ v', r = .tup [v', I (zwrite g L a).2] ∧ Own H' H.n 2 65 zC v' (zwrite g L a).1 ∧ Fr No H H' := by
  have hz : 8 ≤ zones g ∧ zones g ≤ 64 := by have := h.z; have := h.c; have := h.s; unfold zones; omega
  refine Acalls.go m40 rfl ?_
  rw [slots0_3]; unfold b40
  simp (disch := first | omega | assumption | exact id rfl | (simp only [okw_wr]; assumption)) only [RC, RO, RM, RT, AV.cells, Option.map_some, AV.one, AV.all1, i64_wrap, u64_wrap, u32_wrap, u8_wrap, Nat.zero_add, Nat.add_zero, Nat.reduceEqDiff, Nat.reduceLeDiff, Nat.reduceAdd, Nat.left_eq_add, Nat.add_eq_left, Nat.add_left_cancel_iff, reduceIte, eq_self, decide_true, decide_false, Bool.not_true, Bool.not_false, reduceCtorEq, List.getElem?_cons_zero, List.getElem?_cons_succ, List.set_cons_zero, List.set_cons_succ]
  refine (c_Clone_Zone (hs.fr (by simp (disch := omega) only [upd_ne])) (by show sb v < H.n + 1 + 1; omega) (by omega)).mono ?_
  rintro w H1 ⟨o1, f1⟩
  dsimp only at o1
  have q1 := f1.le
  simp (disch := first | omega | assumption | exact id rfl | (simp only [okw_wr]; assumption)) only [f1.old, RC, RO, RM, RT, AV.cells, Option.map_some, AV.one, AV.all1, i64_wrap, u64_wrap, u32_wrap, u8_wrap, Nat.zero_add, Nat.add_zero, Nat.reduceEqDiff, Nat.reduceLeDiff, Nat.reduceAdd, Nat.left_eq_add, Nat.add_eq_left, Nat.add_left_cancel_iff, reduceIte, eq_self, decide_true, decide_false, Bool.not_true, Bool.not_false, reduceCtorEq, List.getElem?_cons_zero, List.getElem?_cons_succ, List.set_cons_zero, List.set_cons_succ]
  refine (c_zone_there h).mono ?_
  rintro _ H2 ⟨rfl, f2⟩
  have q2 := f2.n
  have o2 := (o1.fr q2 fun b _ hb => f2.at hb).weak (lo' := H.n) (by omega)
  have hw2 := o2.lt (by omega)
  have w1 := o1.lt (by omega)
  have g0 : H2.g H.n = .cells (gC g) 23 false := by simp (disch := omega) only [f2.at, f1.old, upd_same, upd_ne]
  have g1 : H2.g (H.n + 1) = .cells (aC a) 67 false := by simp (disch := omega) only [f2.at, f1.old, upd_same, upd_ne]
  have fr : Fr No H H2 := by (refine ⟨by (try simp only []); omega, fun b hb hm => ?_⟩; simp (disch := first | omega | assumption) only [f2.at, f1.old, upd_ne])
  (simp (disch := first | omega | assumption | exact id rfl | (simp only [okw_wr]; assumption)) only [g0, g1, RC, RO, RM, RT, AV.cells, Option.map_some, AV.one, AV.all1, i64_wrap, u64_wrap, u32_wrap, u8_wrap, Nat.zero_add, Nat.add_zero, Nat.reduceEqDiff, Nat.reduceLeDiff, Nat.reduceAdd, Nat.left_eq_add, Nat.add_eq_left, Nat.add_left_cancel_iff, reduceIte, eq_self, decide_true, decide_false, Bool.not_true, Bool.not_false, reduceCtorEq, List.getElem?_cons_zero, List.getElem?_cons_succ, List.set_cons_zero, List.set_cons_succ]; repeat' (first | (refine Gs_split (fun hb => ?_) (fun hb => ?_) <;> (simp only [hb]; (try simp only [decide_eq_true_eq, decide_eq_false_iff_not, Bool.not_eq_true', Bool.not_eq_false', ne_eq, Decidable.not_not, not_true_eq_false] at hb); (try simp (disch := first | omega | assumption | exact id rfl | (simp only [okw_wr]; assumption)) only [g0, g1, RC, RO, RM, RT, AV.cells, Option.map_some, AV.one, AV.all1, i64_wrap, u64_wrap, u32_wrap, u8_wrap, Nat.zero_add, Nat.add_zero, Nat.reduceEqDiff, Nat.reduceLeDiff, Nat.reduceAdd, Nat.left_eq_add, Nat.add_eq_left, Nat.add_left_cancel_iff, reduceIte, eq_self, decide_true, decide_false, Bool.not_true, Bool.not_false, reduceCtorEq, List.getElem?_cons_zero, List.getElem?_cons_succ, List.set_cons_zero, List.set_cons_succ]))) | (refine Is_split (fun hb => ?_) (fun hb => ?_) <;> (simp only [hb]; (try simp only [decide_eq_true_eq, decide_eq_false_iff_not, Bool.not_eq_true', Bool.not_eq_false', ne_eq, Decidable.not_not, not_true_eq_false] at hb); (try simp (disch := first | omega | assumption | exact id rfl | (simp only [okw_wr]; assumption)) only [g0, g1, RC, RO, RM, RT, AV.cells, Option.map_some, AV.one, AV.all1, i64_wrap, u64_wrap, u32_wrap, u8_wrap, Nat.zero_add, Nat.add_zero, Nat.reduceEqDiff, Nat.reduceLeDiff, Nat.reduceAdd, Nat.left_eq_add, Nat.add_eq_left, Nat.add_left_cancel_iff, reduceIte, eq_self, decide_true, decide_false, Bool.not_true, Bool.not_false, reduceCtorEq, List.getElem?_cons_zero, List.getElem?_cons_succ, List.set_cons_zero, List.set_cons_succ]))) | (refine Dg_split (fun hb => ?_) (fun hb => ?_) <;> (simp only [hb]; (try simp only [decide_eq_true_eq, decide_eq_false_iff_not, Bool.not_eq_true', Bool.not_eq_false', ne_eq, Decidable.not_not, not_true_eq_false] at hb); (try simp (disch := first | omega | assumption | exact id rfl | (simp only [okw_wr]; assumption)) only [g0, g1, RC, RO, RM, RT, AV.cells, Option.map_some, AV.one, AV.all1, i64_wrap, u64_wrap, u32_wrap, u8_wrap, Nat.zero_add, Nat.add_zero, Nat.reduceEqDiff, Nat.reduceLeDiff, Nat.reduceAdd, Nat.left_eq_add, Nat.add_eq_left, Nat.add_left_cancel_iff, reduceIte, eq_self, decide_true, decide_false, Bool.not_true, Bool.not_false, reduceCtorEq, List.getElem?_cons_zero, List.getElem?_cons_succ, List.set_cons_zero, List.set_cons_succ])))))
  · have ht : there g a = false := by simpa using hb
    refine ⟨w, by unfold zwrite; rw [if_pos ht], by unfold zwrite; rw [if_pos ht]; exact o2, fr⟩
  · have ht : there g a = true := by simpa using hb
    obtain ⟨z1, z2, z3, z4⟩ := there_zone h ht
    have hi : 0 ≤ a.zone ∧ a.zone < L.length := by omega
    have k0 := o2.okw0 hi (by omega)
    have k1 := o2.okw (o := 1) hi (by omega)
    have hsl := sectors_le h a.zone
    have fin : ∀ z : Zone, L.getD a.zone.toNat ⟨0, 0⟩ = z → z.state ≠ 4 → z.state ≠ 3 → a.off = z.point → ¬(z.state ≠ 1 ∧ zopen L ≥ g.opn) → z.point + 1 ≠ g.size →
        Own ⟨upd (upd H2.g (sb w) (wr1 (H2.g (sb w)) (so w + a.zone.toNat * 2) (I 1))) (sb w) (wr1 (wr1 (H2.g (sb w)) (so w + a.zone.toNat * 2) (I 1)) (so w + a.zone.toNat * 2 + 1) (I (z.point + 1))), H2.n⟩ H.n 2 65 zC w (zwrite g L a).1 ∧ (zwrite g L a).2 = 0 := by
      intro z hz1 y4 y3 yp yo ys
      have e : zwrite g L a = (zput L a.zone ⟨1, z.point + 1⟩, 0) := by
        unfold zwrite zat; rw [hz1]
        simp only [ht, Bool.true_eq_false, if_false, y4, y3, ← yp, ne_eq, not_true_eq_false]
        rw [if_neg yo, if_neg (by omega)]
      have x1 := o2.wr0 hi (by omega) ⟨0, 0⟩ (x := I 1) (⟨1, z.point⟩ : Zone) (by rw [hz1]; rfl)
      have x2 := x1.wr1 (o := 1) (i := a.zone) (by rw [List.length_set]; exact hi) (by omega) ⟨0, 0⟩ (x := I (z.point + 1)) (⟨1, z.point + 1⟩ : Zone) (by
        rw [List.getD_eq_getElem?_getD, List.getElem?_set, if_pos rfl, if_pos (by omega)]; rfl)
      rw [e]
      refine ⟨?_, rfl⟩
      simp only [upd_same, List.set_set] at x2
      exact x2
    have fin2 : ∀ z : Zone, L.getD a.zone.toNat ⟨0, 0⟩ = z → z.state ≠ 4 → z.state ≠ 3 → a.off = z.point → ¬(z.state ≠ 1 ∧ zopen L ≥ g.opn) → z.point + 1 = g.size →
        Own ⟨upd (upd (upd H2.g (sb w) (wr1 (H2.g (sb w)) (so w + a.zone.toNat * 2) (I 1))) (sb w) (wr1 (wr1 (H2.g (sb w)) (so w + a.zone.toNat * 2) (I 1)) (so w + a.zone.toNat * 2 + 1) (I (z.point + 1)))) (sb w)
          (wr1 (wr1 (wr1 (H2.g (sb w)) (so w + a.zone.toNat * 2) (I 1)) (so w + a.zone.toNat * 2 + 1) (I (z.point + 1))) (so w + a.zone.toNat * 2) (I 3)), H2.n⟩ H.n 2 65 zC w (zwrite g L a).1 ∧ (zwrite g L a).2 = 0 := by
      intro z hz1 y4 y3 yp yo ys
      have e : zwrite g L a = (zput L a.zone ⟨3, z.point + 1⟩, 0) := by
        unfold zwrite zat; rw [hz1]
        simp only [ht, Bool.true_eq_false, if_false, y4, y3, ← yp, ne_eq, not_true_eq_false]
        rw [if_neg yo, if_pos (by omega)]
      have x1 := o2.wr0 hi (by omega) ⟨0, 0⟩ (x := I 1) (⟨1, z.point⟩ : Zone) (by rw [hz1]; rfl)
      have x2 := x1.wr1 (o := 1) (i := a.zone) (by rw [List.length_set]; exact hi) (by omega) ⟨0, 0⟩ (x := I (z.point + 1)) (⟨1, z.point + 1⟩ : Zone) (by
        rw [List.getD_eq_getElem?_getD, List.getElem?_set, if_pos rfl, if_pos (by omega)]; rfl)
      have x3 := x2.wr0 (i := a.zone) (by rw [List.length_set, List.length_set]; exact hi) (by omega) ⟨0, 0⟩ (x := I 3) (⟨3, z.point + 1⟩ : Zone) (by
        rw [List.getD_eq_getElem?_getD, List.getElem?_set, if_pos rfl, if_pos (by rw [List.length_set]; omega)]; rfl)
      rw [e]
      refine ⟨?_, rfl⟩
      simp only [upd_same, List.set_set] at x3
      exact x3
    generalize hz0 : L.getD a.zone.toNat ⟨0, 0⟩ = z at *
    have cN := o2.sl.cN ⟨0, 0⟩ hi
    have c0 := o2.sl.c0 ⟨0, 0⟩ hi (by omega)
    have c1 := o2.sl.co ⟨0, 0⟩ (o := 1) hi (by omega)
    rw [hz0] at cN c0 c1
    have hbu : ∀ {x y : Prop}, ¬(¬x ∧ y) ↔ (y → x) := by intro x y; constructor <;> intro h <;> (first | (intro h1; exact Classical.byContradiction fun h2 => h ⟨h2, h1⟩) | (rintro ⟨h1, h2⟩; exact h1 (h h2)))
    (simp (disch := first | omega | assumption | exact id rfl | (simp only [okw_wr]; assumption)) only [g0, g1, o2.sl.ix, c0, c1, RC, RO, RM, RT, AV.cells, Option.map_some, AV.one, AV.all1, i64_wrap, u64_wrap, u32_wrap, u8_wrap, Nat.zero_add, Nat.add_zero, Nat.reduceEqDiff, Nat.reduceLeDiff, Nat.reduceAdd, Nat.left_eq_add, Nat.add_eq_left, Nat.add_left_cancel_iff, reduceIte, eq_self, decide_true, decide_false, Bool.not_true, Bool.not_false, reduceCtorEq, List.getElem?_cons_zero, List.getElem?_cons_succ, List.set_cons_zero, List.set_cons_succ]; repeat' (first | (refine Gs_split (fun hb => ?_) (fun hb => ?_) <;> (simp only [hb]; (try simp only [decide_eq_true_eq, decide_eq_false_iff_not, Bool.not_eq_true', Bool.not_eq_false', ne_eq, Decidable.not_not, not_true_eq_false] at hb); (try simp (disch := first | omega | assumption | exact id rfl | (simp only [okw_wr]; assumption)) only [g0, g1, o2.sl.ix, c0, c1, RC, RO, RM, RT, AV.cells, Option.map_some, AV.one, AV.all1, i64_wrap, u64_wrap, u32_wrap, u8_wrap, Nat.zero_add, Nat.add_zero, Nat.reduceEqDiff, Nat.reduceLeDiff, Nat.reduceAdd, Nat.left_eq_add, Nat.add_eq_left, Nat.add_left_cancel_iff, reduceIte, eq_self, decide_true, decide_false, Bool.not_true, Bool.not_false, reduceCtorEq, List.getElem?_cons_zero, List.getElem?_cons_succ, List.set_cons_zero, List.set_cons_succ]))) | (refine Is_split (fun hb => ?_) (fun hb => ?_) <;> (simp only [hb]; (try simp only [decide_eq_true_eq, decide_eq_false_iff_not, Bool.not_eq_true', Bool.not_eq_false', ne_eq, Decidable.not_not, not_true_eq_false] at hb); (try simp (disch := first | omega | assumption | exact id rfl | (simp only [okw_wr]; assumption)) only [g0, g1, o2.sl.ix, c0, c1, RC, RO, RM, RT, AV.cells, Option.map_some, AV.one, AV.all1, i64_wrap, u64_wrap, u32_wrap, u8_wrap, Nat.zero_add, Nat.add_zero, Nat.reduceEqDiff, Nat.reduceLeDiff, Nat.reduceAdd, Nat.left_eq_add, Nat.add_eq_left, Nat.add_left_cancel_iff, reduceIte, eq_self, decide_true, decide_false, Bool.not_true, Bool.not_false, reduceCtorEq, List.getElem?_cons_zero, List.getElem?_cons_succ, List.set_cons_zero, List.set_cons_succ]))) | (refine Dg_split (fun hb => ?_) (fun hb => ?_) <;> (simp only [hb]; (try simp only [decide_eq_true_eq, decide_eq_false_iff_not, Bool.not_eq_true', Bool.not_eq_false', ne_eq, Decidable.not_not, not_true_eq_false] at hb); (try simp (disch := first | omega | assumption | exact id rfl | (simp only [okw_wr]; assumption)) only [g0, g1, o2.sl.ix, c0, c1, RC, RO, RM, RT, AV.cells, Option.map_some, AV.one, AV.all1, i64_wrap, u64_wrap, u32_wrap, u8_wrap, Nat.zero_add, Nat.add_zero, Nat.reduceEqDiff, Nat.reduceLeDiff, Nat.reduceAdd, Nat.left_eq_add, Nat.add_eq_left, Nat.add_left_cancel_iff, reduceIte, eq_self, decide_true, decide_false, Bool.not_true, Bool.not_false, reduceCtorEq, List.getElem?_cons_zero, List.getElem?_cons_succ, List.set_cons_zero, List.set_cons_succ])))))
    · have e : zwrite g L a = (L, 0) := by unfold zwrite zat; rw [hz0]; simp [ht, hb]
      exact ⟨w, by rw [e], by rw [e]; exact o2, fr⟩
    · have e : zwrite g L a = (L, 3) := by unfold zwrite zat; rw [hz0]; simp [ht, hb]
      exact ⟨w, by rw [e], by rw [e]; exact o2, fr⟩
    · rename_i h4 h3
      have e : zwrite g L a = (L, 4) := by unfold zwrite zat; rw [hz0]; simp [ht, h4, h3, hb]
      exact ⟨w, by rw [e], by rw [e]; exact o2, fr⟩
    · rename_i h4 h3 hp
      have hsv : Sl (roAll H2.g) 2 zC v L := (hs.fr (by simp (disch := omega) only [f2.at, f1.old, upd_ne])).ro
      refine (c_zone_open hsv (by show sb v < H2.n; omega) (by omega)).mono ?_
      rintro _ H3 ⟨rfl, f3⟩
      refine ⟨rfl, ?_⟩
      (simp (disch := first | omega | assumption | exact id rfl | (simp only [okw_wr]; assumption)) only [g0, g1, o2.sl.ix, c0, c1, RC, RO, RM, RT, AV.cells, Option.map_some, AV.one, AV.all1, i64_wrap, u64_wrap, u32_wrap, u8_wrap, Nat.zero_add, Nat.add_zero, Nat.reduceEqDiff, Nat.reduceLeDiff, Nat.reduceAdd, Nat.left_eq_add, Nat.add_eq_left, Nat.add_left_cancel_iff, reduceIte, eq_self, decide_true, decide_false, Bool.not_true, Bool.not_false, reduceCtorEq, List.getElem?_cons_zero, List.getElem?_cons_succ, List.set_cons_zero, List.set_cons_succ]; repeat' (first | (refine Gs_split (fun hb => ?_) (fun hb => ?_) <;> (simp only [hb]; (try simp only [decide_eq_true_eq, decide_eq_false_iff_not, Bool.not_eq_true', Bool.not_eq_false', ne_eq, Decidable.not_not, not_true_eq_false] at hb); (try simp (disch := first | omega | assumption | exact id rfl | (simp only [okw_wr]; assumption)) only [g0, g1, o2.sl.ix, c0, c1, RC, RO, RM, RT, AV.cells, Option.map_some, AV.one, AV.all1, i64_wrap, u64_wrap, u32_wrap, u8_wrap, Nat.zero_add, Nat.add_zero, Nat.reduceEqDiff, Nat.reduceLeDiff, Nat.reduceAdd, Nat.left_eq_add, Nat.add_eq_left, Nat.add_left_cancel_iff, reduceIte, eq_self, decide_true, decide_false, Bool.not_true, Bool.not_false, reduceCtorEq, List.getElem?_cons_zero, List.getElem?_cons_succ, List.set_cons_zero, List.set_cons_succ]))) | (refine Is_split (fun hb => ?_) (fun hb => ?_) <;> (simp only [hb]; (try simp only [decide_eq_true_eq, decide_eq_false_iff_not, Bool.not_eq_true', Bool.not_eq_false', ne_eq, Decidable.not_not, not_true_eq_false] at hb); (try simp (disch := first | omega | assumption | exact id rfl | (simp only [okw_wr]; assumption)) only [g0, g1, o2.sl.ix, c0, c1, RC, RO, RM, RT, AV.cells, Option.map_some, AV.one, AV.all1, i64_wrap, u64_wrap, u32_wrap, u8_wrap, Nat.zero_add, Nat.add_zero, Nat.reduceEqDiff, Nat.reduceLeDiff, Nat.reduceAdd, Nat.left_eq_add, Nat.add_eq_left, Nat.add_left_cancel_iff, reduceIte, eq_self, decide_true, decide_false, Bool.not_true, Bool.not_false, reduceCtorEq, List.getElem?_cons_zero, List.getElem?_cons_succ, List.set_cons_zero, List.set_cons_succ]))) | (refine Dg_split (fun hb => ?_) (fun hb => ?_) <;> (simp only [hb]; (try simp only [decide_eq_true_eq, decide_eq_false_iff_not, Bool.not_eq_true', Bool.not_eq_false', ne_eq, Decidable.not_not, not_true_eq_false] at hb); (try simp (disch := first | omega | assumption | exact id rfl | (simp only [okw_wr]; assumption)) only [g0, g1, o2.sl.ix, c0, c1, RC, RO, RM, RT, AV.cells, Option.map_some, AV.one, AV.all1, i64_wrap, u64_wrap, u32_wrap, u8_wrap, Nat.zero_add, Nat.add_zero, Nat.reduceEqDiff, Nat.reduceLeDiff, Nat.reduceAdd, Nat.left_eq_add, Nat.add_eq_left, Nat.add_left_cancel_iff, reduceIte, eq_self, decide_true, decide_false, Bool.not_true, Bool.not_false, reduceCtorEq, List.getElem?_cons_zero, List.getElem?_cons_succ, List.set_cons_zero, List.set_cons_succ])))))
      · rename_i h1
        have e : zwrite g L a = (L, 5) := by unfold zwrite zat; rw [hz0]; simp [ht, h4, h3, ← hp, h1, show g.opn ≤ zopen L from hb]
        exact ⟨w, by rw [e], by rw [e]; exact o2, fr⟩
      · rename_i h1 ho
        obtain ⟨r1, r2⟩ := fin2 z rfl h4 h3 hp (fun h => ho h.2) hb
        exact ⟨w, by rw [r2], r1, by (refine ⟨by (try simp only []); omega, fun b hb hm => ?_⟩; simp (disch := first | omega | assumption) only [f2.at, f1.old, upd_ne])⟩
      · rename_i h1 ho
        obtain ⟨r1, r2⟩ := fin z rfl h4 h3 hp (fun h => ho h.2) hb
        exact ⟨w, by rw [r2], r1, by (refine ⟨by (try simp only []); omega, fun b hb hm => ?_⟩; simp (disch := first | omega | assumption) only [f2.at, f1.old, upd_ne])⟩
    · rename_i h4 h3 hp h1
      obtain ⟨r1, r2⟩ := fin2 z rfl h4 h3 hp (fun h => h.1 h1) hb
      exact ⟨w, by rw [r2], r1, by (refine ⟨by (try simp only []); omega, fun b hb hm => ?_⟩; simp (disch := first | omega | assumption) only [f2.at, f1.old, upd_ne])⟩
    · rename_i h4 h3 hp h1
      obtain ⟨r1, r2⟩ := fin z rfl h4 h3 hp (fun h => h.1 h1) hb
      exact ⟨w, by rw [r2], r1, by (refine ⟨by (try simp only []); omega, fun b hb hm => ?_⟩; simp (disch := first | omega | assumption) only [f2.at, f1.old, upd_ne])⟩
end Go.Eng
namespace Go.Eng
open Wr
set_option linter.unusedVariables false
set_option linter.unusedSimpArgs false
theorem c_zone_Read {g : Geom} {v : AV} {L : List Zone} {a : At} {H : AH} (h : GOk g) (hs : Sl H.g 2 zC v L) (hv : sb v < H.n) (hl : L.length = (zones g).toNat) :
    Acalls P0 S0 44 [.agg (gC g), v, .agg (aC a)] H fun r H' => r = I (zread g L a) ∧ Fr No H H' := by
  have hz : 8 ≤ zones g ∧ zones g ≤ 64 := by have := h.z; have := h.c; have := h.s; unfold zones; omega
  refine Acalls.go m44 rfl ?_
  rw [slots0_3]; unfold b44
  simp (disch := first | omega | assumption | exact id rfl | (simp only [okw_wr]; assumption)) only [RC, RO, RM, RT, AV.cells, Option.map_some, AV.one, AV.all1, i64_wrap, u64_wrap, u32_wrap, u8_wrap, Nat.zero_add, Nat.add_zero, Nat.reduceEqDiff, Nat.reduceLeDiff, Nat.reduceAdd, Nat.left_eq_add, Nat.add_eq_left, Nat.add_left_cancel_iff, reduceIte, eq_self, decide_true, decide_false, Bool.not_true, Bool.not_false, reduceCtorEq, List.getElem?_cons_zero, List.getElem?_cons_succ, List.set_cons_zero, List.set_cons_succ]
  refine (c_zone_there h).mono ?_
  rintro _ H2 ⟨rfl, f2⟩
  have q2 := f2.le
  have fr : Fr No H H2 := by (refine ⟨by (try simp only []); omega, fun b hb hm => ?_⟩; simp (disch := first | omega | assumption) only [f2.old, upd_ne])
  (simp (disch := first | omega | assumption | exact id rfl | (simp only [okw_wr]; assumption)) only [f2.old, RC, RO, RM, RT, AV.cells, Option.map_some, AV.one, AV.all1, i64_wrap, u64_wrap, u32_wrap, u8_wrap, Nat.zero_add, Nat.add_zero, Nat.reduceEqDiff, Nat.reduceLeDiff, Nat.reduceAdd, Nat.left_eq_add, Nat.add_eq_left, Nat.add_left_cancel_iff, reduceIte, eq_self, decide_true, decide_false, Bool.not_true, Bool.not_false, reduceCtorEq, List.getElem?_cons_zero, List.getElem?_cons_succ, List.set_cons_zero, List.set_cons_succ]; repeat' (first | (refine Gs_split (fun hb => ?_) (fun hb => ?_) <;> (simp only [hb]; (try simp only [decide_eq_true_eq, decide_eq_false_iff_not, Bool.not_eq_true', Bool.not_eq_false', ne_eq, Decidable.not_not, not_true_eq_false] at hb); (try simp (disch := first | omega | assumption | exact id rfl | (simp only [okw_wr]; assumption)) only [f2.old, RC, RO, RM, RT, AV.cells, Option.map_some, AV.one, AV.all1, i64_wrap, u64_wrap, u32_wrap, u8_wrap, Nat.zero_add, Nat.add_zero, Nat.reduceEqDiff, Nat.reduceLeDiff, Nat.reduceAdd, Nat.left_eq_add, Nat.add_eq_left, Nat.add_left_cancel_iff, reduceIte, eq_self, decide_true, decide_false, Bool.not_true, Bool.not_false, reduceCtorEq, List.getElem?_cons_zero, List.getElem?_cons_succ, List.set_cons_zero, List.set_cons_succ]))) | (refine Is_split (fun hb => ?_) (fun hb => ?_) <;> (simp only [hb]; (try simp only [decide_eq_true_eq, decide_eq_false_iff_not, Bool.not_eq_true', Bool.not_eq_false', ne_eq, Decidable.not_not, not_true_eq_false] at hb); (try simp (disch := first | omega | assumption | exact id rfl | (simp only [okw_wr]; assumption)) only [f2.old, RC, RO, RM, RT, AV.cells, Option.map_some, AV.one, AV.all1, i64_wrap, u64_wrap, u32_wrap, u8_wrap, Nat.zero_add, Nat.add_zero, Nat.reduceEqDiff, Nat.reduceLeDiff, Nat.reduceAdd, Nat.left_eq_add, Nat.add_eq_left, Nat.add_left_cancel_iff, reduceIte, eq_self, decide_true, decide_false, Bool.not_true, Bool.not_false, reduceCtorEq, List.getElem?_cons_zero, List.getElem?_cons_succ, List.set_cons_zero, List.set_cons_succ]))) | (refine Dg_split (fun hb => ?_) (fun hb => ?_) <;> (simp only [hb]; (try simp only [decide_eq_true_eq, decide_eq_false_iff_not, Bool.not_eq_true', Bool.not_eq_false', ne_eq, Decidable.not_not, not_true_eq_false] at hb); (try simp (disch := first | omega | assumption | exact id rfl | (simp only [okw_wr]; assumption)) only [f2.old, RC, RO, RM, RT, AV.cells, Option.map_some, AV.one, AV.all1, i64_wrap, u64_wrap, u32_wrap, u8_wrap, Nat.zero_add, Nat.add_zero, Nat.reduceEqDiff, Nat.reduceLeDiff, Nat.reduceAdd, Nat.left_eq_add, Nat.add_eq_left, Nat.add_left_cancel_iff, reduceIte, eq_self, decide_true, decide_false, Bool.not_true, Bool.not_false, reduceCtorEq, List.getElem?_cons_zero, List.getElem?_cons_succ, List.set_cons_zero, List.set_cons_succ])))))
  · have ht : there g a = false := by simpa using hb
    exact ⟨by unfold zread; rw [if_pos ht], fr⟩
  · have ht : there g a = true := by simpa using hb
    obtain ⟨z1, z2, z3, z4⟩ := there_zone h ht
    have hi : 0 ≤ a.zone ∧ a.zone < L.length := by omega
    (simp (disch := first | omega | assumption | exact id rfl | (simp only [okw_wr]; assumption)) only [f2.old, hs.ix, hs.c0 ⟨0, 0⟩, hs.co ⟨0, 0⟩, RC, RO, RM, RT, AV.cells, Option.map_some, AV.one, AV.all1, i64_wrap, u64_wrap, u32_wrap, u8_wrap, Nat.zero_add, Nat.add_zero, Nat.reduceEqDiff, Nat.reduceLeDiff, Nat.reduceAdd, Nat.left_eq_add, Nat.add_eq_left, Nat.add_left_cancel_iff, reduceIte, eq_self, decide_true, decide_false, Bool.not_true, Bool.not_false, reduceCtorEq, List.getElem?_cons_zero, List.getElem?_cons_succ, List.set_cons_zero, List.set_cons_succ]; repeat' (first | (refine Gs_split (fun hb => ?_) (fun hb => ?_) <;> (simp only [hb]; (try simp only [decide_eq_true_eq, decide_eq_false_iff_not, Bool.not_eq_true', Bool.not_eq_false', ne_eq, Decidable.not_not, not_true_eq_false] at hb); (try simp (disch := first | omega | assumption | exact id rfl | (simp only [okw_wr]; assumption)) only [f2.old, hs.ix, hs.c0 ⟨0, 0⟩, hs.co ⟨0, 0⟩, RC, RO, RM, RT, AV.cells, Option.map_some, AV.one, AV.all1, i64_wrap, u64_wrap, u32_wrap, u8_wrap, Nat.zero_add, Nat.add_zero, Nat.reduceEqDiff, Nat.reduceLeDiff, Nat.reduceAdd, Nat.left_eq_add, Nat.add_eq_left, Nat.add_left_cancel_iff, reduceIte, eq_self, decide_true, decide_false, Bool.not_true, Bool.not_false, reduceCtorEq, List.getElem?_cons_zero, List.getElem?_cons_succ, List.set_cons_zero, List.set_cons_succ]))) | (refine Is_split (fun hb => ?_) (fun hb => ?_) <;> (simp only [hb]; (try simp only [decide_eq_true_eq, decide_eq_false_iff_not, Bool.not_eq_true', Bool.not_eq_false', ne_eq, Decidable.not_not, not_true_eq_false] at hb); (try simp (disch := first | omega | assumption | exact id rfl | (simp only [okw_wr]; assumption)) only [f2.old, hs.ix, hs.c0 ⟨0, 0⟩, hs.co ⟨0, 0⟩, RC, RO, RM, RT, AV.cells, Option.map_some, AV.one, AV.all1, i64_wrap, u64_wrap, u32_wrap, u8_wrap, Nat.zero_add, Nat.add_zero, Nat.reduceEqDiff, Nat.reduceLeDiff, Nat.reduceAdd, Nat.left_eq_add, Nat.add_eq_left, Nat.add_left_cancel_iff, reduceIte, eq_self, decide_true, decide_false, Bool.not_true, Bool.not_false, reduceCtorEq, List.getElem?_cons_zero, List.getElem?_cons_succ, List.set_cons_zero, List.set_cons_succ]))) | (refine Dg_split (fun hb => ?_) (fun hb => ?_) <;> (simp only [hb]; (try simp only [decide_eq_true_eq, decide_eq_false_iff_not, Bool.not_eq_true', Bool.not_eq_false', ne_eq, Decidable.not_not, not_true_eq_false] at hb); (try simp (disch := first | omega | assumption | exact id rfl | (simp only [okw_wr]; assumption)) only [f2.old, hs.ix, hs.c0 ⟨0, 0⟩, hs.co ⟨0, 0⟩, RC, RO, RM, RT, AV.cells, Option.map_some, AV.one, AV.all1, i64_wrap, u64_wrap, u32_wrap, u8_wrap, Nat.zero_add, Nat.add_zero, Nat.reduceEqDiff, Nat.reduceLeDiff, Nat.reduceAdd, Nat.left_eq_add, Nat.add_eq_left, Nat.add_left_cancel_iff, reduceIte, eq_self, decide_true, decide_false, Bool.not_true, Bool.not_false, reduceCtorEq, List.getElem?_cons_zero, List.getElem?_cons_succ, List.set_cons_zero, List.set_cons_succ])))))
    all_goals refine ⟨?_, fr⟩
    all_goals (unfold zread zat; rw [if_neg (by rw [ht]; decide)])
    · rename_i h1; rw [if_pos ⟨h1, hb⟩]
    · rename_i h1; rw [if_neg (fun h => hb h.2)]
    · rw [if_neg (fun h => h.1 (by simpa using hb))]

/-! ### word -/
theorem c_word_fits {v : AV} {L : List Nat} {o n : Int} {H : AH} (hs : Sl H.g 1 b8C v L) (h : 1 ≤ n ∧ n ≤ 8 ∧ 0 ≤ o ∧ o + n ≤ L.length) (hl : L.length ≤ 1000000) :
    Acalls P0 S0 82 [v, I o, I n] H fun r H' => r = .bool true ∧ Fr No H H' := by
  refine Acalls.go m82 rfl ?_
  rw [slots0_3]; unfold b82
  have h1 : decide (n ≥ 1) = true := decide_eq_true (by omega)
  have h2 : decide (n ≤ 8) = true := decide_eq_true (by omega)
  have h3 : decide (o ≥ 0) = true := decide_eq_true (by omega)
  have h4 : decide (o ≤ (L.length : Int) - n) = true := decide_eq_true (by omega)
  simp (disch := first | omega | assumption | exact id rfl | (simp only [okw_wr]; assumption)) only [hs.ln, h1, h2, h3, h4, RC, RO, RM, RT, AV.cells, Option.map_some, AV.one, AV.all1, i64_wrap, u64_wrap, u32_wrap, u8_wrap, Nat.zero_add, Nat.add_zero, Nat.reduceEqDiff, Nat.reduceLeDiff, Nat.reduceAdd, Nat.left_eq_add, Nat.add_eq_left, Nat.add_left_cancel_iff, reduceIte, eq_self, decide_true, decide_false, Bool.not_true, Bool.not_false, reduceCtorEq, List.getElem?_cons_zero, List.getElem?_cons_succ, List.set_cons_zero, List.set_cons_succ]
  exact ⟨trivial, Fr.refl _⟩
theorem ofLe_snoc : ∀ (l : List Nat) (b : Nat), ofLe (l ++ [b]) = ofLe l + b * 256 ^ l.length
  | [], b => by simp [ofLe]
  | a :: l, b => by
    simp only [List.cons_append, ofLe, ofLe_snoc l b, List.length_cons, Nat.pow_succ, Nat.mul_add]
    rw [← Nat.mul_assoc, Nat.mul_comm 256 b, Nat.mul_assoc, Nat.mul_comm 256 (256 ^ _)]; omega
theorem ofLe_lt : ∀ (l : List Nat), (∀ x ∈ l, x < 256) → ofLe l < 256 ^ l.length
  | [], _ => by simp [ofLe]
  | a :: l, h => by
    have h1 := ofLe_lt l (fun x hx => h x (List.mem_cons_of_mem _ hx))
    have h2 := h a List.mem_cons_self
    simp only [ofLe, List.length_cons, Nat.pow_succ]; omega
theorem getD_lt {L : List Nat} (h : ∀ x ∈ L, x < 256) (i : Nat) : L.getD i 0 < 256 := by
  rw [List.getD_eq_getElem?_getD]
  cases he : L[i]? with
  | none => simp
  | some x => exact h x (List.mem_of_getElem? he)
theorem take_drop_snoc {L : List Nat} {o i : Nat} (h : o + i < L.length) : (L.drop o).take (i + 1) = (L.drop o).take i ++ [L.getD (o + i) 0] := by
  rw [List.take_succ_eq_append_getElem (by rw [List.length_drop]; omega), List.getElem_drop, List.getD_eq_getElem?_getD, List.getElem?_eq_getElem (by omega)]; rfl
theorem c_word_Get {v : AV} {L : List Nat} {o n : Int} {H : AH} (hs : Sl H.g 1 b8C v L) (hv : sb v < H.n) (h : 1 ≤ n ∧ n ≤ 8 ∧ 0 ≤ o ∧ o + n ≤ L.length) (hl : L.length ≤ 1000000) (hb : ∀ x ∈ L, x < 256) :
    Acalls P0 S0 65 [v, I o, I n] H fun r H' => r = .tup [.int .u64 (at' L o.toNat n.toNat : Nat), .bool true] ∧ Fr No H H' := by
  refine Acalls.go m65 rfl ?_
  rw [slots0_3]; unfold b65
  simp (disch := first | omega | assumption | exact id rfl | (simp only [okw_wr]; assumption)) only [RC, RO, RM, RT, AV.cells, Option.map_some, AV.one, AV.all1, i64_wrap, u64_wrap, u32_wrap, u8_wrap, Nat.zero_add, Nat.add_zero, Nat.reduceEqDiff, Nat.reduceLeDiff, Nat.reduceAdd, Nat.left_eq_add, Nat.add_eq_left, Nat.add_left_cancel_iff, reduceIte, eq_self, decide_true, decide_false, Bool.not_true, Bool.not_false, reduceCtorEq, List.getElem?_cons_zero, List.getElem?_cons_succ, List.set_cons_zero, List.set_cons_succ]
  refine (c_word_fits hs h hl).mono ?_
  rintro _ H1 ⟨rfl, f1⟩
  simp (disch := first | omega | assumption | exact id rfl | (simp only [okw_wr]; assumption)) only [RC, RO, RM, RT, AV.cells, Option.map_some, AV.one, AV.all1, i64_wrap, u64_wrap, u32_wrap, u8_wrap, Nat.zero_add, Nat.add_zero, Nat.reduceEqDiff, Nat.reduceLeDiff, Nat.reduceAdd, Nat.left_eq_add, Nat.add_eq_left, Nat.add_left_cancel_iff, reduceIte, eq_self, decide_true, decide_false, Bool.not_true, Bool.not_false, reduceCtorEq, List.getElem?_cons_zero, List.getElem?_cons_succ, List.set_cons_zero, List.set_cons_succ]
  refine Cs_loop (fun m T H' => ∃ i : Nat, m + i = n.toNat ∧ T 0 = v ∧ T 1 = I o ∧ T 15 = I n ∧ T 16 = I i ∧ T 8 = .int .u64 (ofLe ((L.drop o.toNat).take i) : Nat) ∧ Fr No H H') ⟨0, rfl, ?_⟩ ?_
  · simp (disch := omega) only [upd_ne, upd_same]
    exact ⟨trivial, trivial, trivial, rfl, rfl, f1⟩
  · rintro m T H2 ⟨i, hn, h0, h1, h15, h16, h8, f2⟩
    have hx := ofLe_lt ((L.drop o.toNat).take i) (fun x hx => hb x (List.mem_of_mem_drop (List.mem_of_mem_take hx)))
    have hg := getD_lt hb (o + (i : Int)).toNat
    have ho : (o + (i : Int)).toNat = o.toNat + i := by omega
    (simp (disch := first | omega | assumption | exact id rfl | (simp only [okw_wr]; assumption)) only [h0, h1, h15, h16, h8, f2.at, hs.ix, hs.c0 0, RC, RO, RM, RT, AV.cells, Option.map_some, AV.one, AV.all1, i64_wrap, u64_wrap, u32_wrap, u8_wrap, Nat.zero_add, Nat.add_zero, Nat.reduceEqDiff, Nat.reduceLeDiff, Nat.reduceAdd, Nat.left_eq_add, Nat.add_eq_left, Nat.add_left_cancel_iff, reduceIte, eq_self, decide_true, decide_false, Bool.not_true, Bool.not_false, reduceCtorEq, List.getElem?_cons_zero, List.getElem?_cons_succ, List.set_cons_zero, List.set_cons_succ]; repeat' (first | (refine Gs_split (fun hb => ?_) (fun hb => ?_) <;> (simp only [hb]; (try simp only [decide_eq_true_eq, decide_eq_false_iff_not, Bool.not_eq_true', Bool.not_eq_false', ne_eq, Decidable.not_not, not_true_eq_false] at hb); (try simp (disch := first | omega | assumption | exact id rfl | (simp only [okw_wr]; assumption)) only [h0, h1, h15, h16, h8, f2.at, hs.ix, hs.c0 0, RC, RO, RM, RT, AV.cells, Option.map_some, AV.one, AV.all1, i64_wrap, u64_wrap, u32_wrap, u8_wrap, Nat.zero_add, Nat.add_zero, Nat.reduceEqDiff, Nat.reduceLeDiff, Nat.reduceAdd, Nat.left_eq_add, Nat.add_eq_left, Nat.add_left_cancel_iff, reduceIte, eq_self, decide_true, decide_false, Bool.not_true, Bool.not_false, reduceCtorEq, List.getElem?_cons_zero, List.getElem?_cons_succ, List.set_cons_zero, List.set_cons_succ]))) | (refine Is_split (fun hb => ?_) (fun hb => ?_) <;> (simp only [hb]; (try simp only [decide_eq_true_eq, decide_eq_false_iff_not, Bool.not_eq_true', Bool.not_eq_false', ne_eq, Decidable.not_not, not_true_eq_false] at hb); (try simp (disch := first | omega | assumption | exact id rfl | (simp only [okw_wr]; assumption)) only [h0, h1, h15, h16, h8, f2.at, hs.ix, hs.c0 0, RC, RO, RM, RT, AV.cells, Option.map_some, AV.one, AV.all1, i64_wrap, u64_wrap, u32_wrap, u8_wrap, Nat.zero_add, Nat.add_zero, Nat.reduceEqDiff, Nat.reduceLeDiff, Nat.reduceAdd, Nat.left_eq_add, Nat.add_eq_left, Nat.add_left_cancel_iff, reduceIte, eq_self, decide_true, decide_false, Bool.not_true, Bool.not_false, reduceCtorEq, List.getElem?_cons_zero, List.getElem?_cons_succ, List.set_cons_zero, List.set_cons_succ]))) | (refine Dg_split (fun hb => ?_) (fun hb => ?_) <;> (simp only [hb]; (try simp only [decide_eq_true_eq, decide_eq_false_iff_not, Bool.not_eq_true', Bool.not_eq_false', ne_eq, Decidable.not_not, not_true_eq_false] at hb); (try simp (disch := first | omega | assumption | exact id rfl | (simp only [okw_wr]; assumption)) only [h0, h1, h15, h16, h8, f2.at, hs.ix, hs.c0 0, RC, RO, RM, RT, AV.cells, Option.map_some, AV.one, AV.all1, i64_wrap, u64_wrap, u32_wrap, u8_wrap, Nat.zero_add, Nat.add_zero, Nat.reduceEqDiff, Nat.reduceLeDiff, Nat.reduceAdd, Nat.left_eq_add, Nat.add_eq_left, Nat.add_left_cancel_iff, reduceIte, eq_self, decide_true, decide_false, Bool.not_true, Bool.not_false, reduceCtorEq, List.getElem?_cons_zero, List.getElem?_cons_succ, List.set_cons_zero, List.set_cons_succ])))))
    · have hlen : ((L.drop o.toNat).take i).length = i := by rw [List.length_take, List.length_drop]; omega
      rw [hlen] at hx
      have hw : 8 * (i : Int) ≤ 100 := by omega
      simp (disch := first | omega | assumption | exact id rfl | (simp only [okw_wr]; assumption)) only [h0, h1, h15, h16, h8, b_shl8, b_or8, RC, RO, RM, RT, AV.cells, Option.map_some, AV.one, AV.all1, i64_wrap, u64_wrap, u32_wrap, u8_wrap, Nat.zero_add, Nat.add_zero, Nat.reduceEqDiff, Nat.reduceLeDiff, Nat.reduceAdd, Nat.left_eq_add, Nat.add_eq_left, Nat.add_left_cancel_iff, reduceIte, eq_self, decide_true, decide_false, Bool.not_true, Bool.not_false, reduceCtorEq, List.getElem?_cons_zero, List.getElem?_cons_succ, List.set_cons_zero, List.set_cons_succ]
      refine ⟨m - 1, by omega, i + 1, by omega, trivial, trivial, trivial, by rw [Int.natCast_succ], ?_, f2⟩
      rw [take_drop_snoc (by omega), ofLe_snoc, hlen, ho]
    · have : i = n.toNat := by omega
      subst this
      exact ⟨rfl, f2⟩

/-- bytes laid over others -/
def lays (L : List Nat) (o : Nat) (xs : List Nat) : List Nat := L.take o ++ xs ++ L.drop (o + xs.length)
theorem lays_len {L : List Nat} {o : Nat} {xs : List Nat} (h : o + xs.length ≤ L.length) : (lays L o xs).length = L.length := by
  unfold lays; simp only [List.length_append, List.length_take, List.length_drop]; omega
theorem le_snoc : ∀ (n x : Nat), le (n + 1) x = le n x ++ [x / 256 ^ n % 256]
  | 0, x => by simp [le]
  | n + 1, x => by
    rw [le, le_snoc n (x / 256), le, List.cons_append, Nat.div_div_eq_div_mul, Nat.pow_succ, Nat.mul_comm 256]
theorem lays_set {L : List Nat} {o : Nat} {xs : List Nat} {y : Nat} (h : o + xs.length < L.length) : (lays L o xs).set (o + xs.length) y = lays L o (xs ++ [y]) := by
  unfold lays
  rw [List.set_append_right _ _ (by simp; omega)]
  have e : o + xs.length - (L.take o ++ xs).length = 0 := by simp; omega
  rw [e, List.drop_eq_getElem_cons (i := o + xs.length) (by omega)]
  simp [Nat.add_assoc]
theorem lays_at {L : List Nat} {o : Nat} {xs : List Nat} (h : o + xs.length < L.length) : (lays L o xs).getD (o + xs.length) 0 = L.getD (o + xs.length) 0 := by
  unfold lays
  rw [List.getD_eq_getElem?_getD, List.getElem?_append_right (by simp; omega)]
  have e : o + xs.length - (L.take o ++ xs).length = 0 := by simp; omega
  rw [e, List.getElem?_drop]; rfl
theorem c_word_Put {v : AV} {L : List Nat} {o n : Int} {x lo e : Nat} {H : AH} (hs : Own H lo 1 e b8C v L) (h : 1 ≤ n ∧ n ≤ 8 ∧ 0 ≤ o ∧ o + n ≤ L.length) (hl : L.length ≤ 1000000) (hx : x < 18446744073709551616) :
    Acalls P0 S0 66 [v, I o, I n, .int .u64 x] H fun r H' => r = .bool true ∧ Own H' lo 1 e b8C v (lays L o.toNat (le n.toNat x)) ∧ Fr (fun b => b = sb v) H H' := by
  refine Acalls.go m66 rfl ?_
  rw [slots0_4]; unfold b66
  simp (disch := first | omega | assumption | exact id rfl | (simp only [okw_wr]; assumption)) only [RC, RO, RM, RT, AV.cells, Option.map_some, AV.one, AV.all1, i64_wrap, u64_wrap, u32_wrap, u8_wrap, Nat.zero_add, Nat.add_zero, Nat.reduceEqDiff, Nat.reduceLeDiff, Nat.reduceAdd, Nat.left_eq_add, Nat.add_eq_left, Nat.add_left_cancel_iff, reduceIte, eq_self, decide_true, decide_false, Bool.not_true, Bool.not_false, reduceCtorEq, List.getElem?_cons_zero, List.getElem?_cons_succ, List.set_cons_zero, List.set_cons_succ]
  refine (c_word_fits hs.sl h hl).mono ?_
  rintro _ H1 ⟨rfl, f1⟩
  simp (disch := first | omega | assumption | exact id rfl | (simp only [okw_wr]; assumption)) only [RC, RO, RM, RT, AV.cells, Option.map_some, AV.one, AV.all1, i64_wrap, u64_wrap, u32_wrap, u8_wrap, Nat.zero_add, Nat.add_zero, Nat.reduceEqDiff, Nat.reduceLeDiff, Nat.reduceAdd, Nat.left_eq_add, Nat.add_eq_left, Nat.add_left_cancel_iff, reduceIte, eq_self, decide_true, decide_false, Bool.not_true, Bool.not_false, reduceCtorEq, List.getElem?_cons_zero, List.getElem?_cons_succ, List.set_cons_zero, List.set_cons_succ]
  have hlt := hs.lt (by omega)
  refine Cs_loop (fun m T H' => ∃ i : Nat, m + i = n.toNat ∧ T 0 = v ∧ T 1 = I o ∧ T 3 = .int .u64 x ∧ T 15 = I n ∧ T 16 = I i ∧ Own H' lo 1 e b8C v (lays L o.toNat (le i x)) ∧ Fr (fun b => b = sb v) H H') ⟨0, rfl, ?_⟩ ?_
  · simp (disch := omega) only [upd_ne, upd_same]
    refine ⟨trivial, trivial, trivial, trivial, rfl, ?_, f1.mono (fun b h => h.elim)⟩
    have : lays L o.toNat (le 0 x) = L := by simp [lays, le]
    rw [this]
    exact hs.fr f1.n fun b _ hb => f1.at hb
  · rintro m T H2 ⟨i, hn, h0, h1, h3, h15, h16, o2, f2⟩
    have hlen := lays_len (L := L) (o := o.toNat) (xs := le i x) (by rw [le_length]; omega)
    simp (disch := first | omega | assumption | exact id rfl | (simp only [okw_wr]; assumption)) only [h0, h1, h3, h15, h16, RC, RO, RM, RT, AV.cells, Option.map_some, AV.one, AV.all1, i64_wrap, u64_wrap, u32_wrap, u8_wrap, Nat.zero_add, Nat.add_zero, Nat.reduceEqDiff, Nat.reduceLeDiff, Nat.reduceAdd, Nat.left_eq_add, Nat.add_eq_left, Nat.add_left_cancel_iff, reduceIte, eq_self, decide_true, decide_false, Bool.not_true, Bool.not_false, reduceCtorEq, List.getElem?_cons_zero, List.getElem?_cons_succ, List.set_cons_zero, List.set_cons_succ]
    refine Is_split (fun hb => ?_) (fun hb => ?_)
    · have hb' := of_decide_eq_true hb
      have hi : 0 ≤ o + (i : Int) ∧ o + (i : Int) < (lays L o.toNat (le i x)).length := by rw [hlen]; omega
      have ok := o2.okw0 hi (by omega)
      have hw := o2.wr0 hi (by omega) 0 (x := B8 (x / 256 ^ i % 256)) (x / 256 ^ i % 256) rfl
      simp only [hb]
      simp (disch := first | omega | assumption | exact id rfl | (simp only [okw_wr]; assumption)) only [h0, h1, h3, h15, h16, o2.sl.ix, b_shr8, u8_wrap_nat, u8_wrap_mod, RC, RO, RM, RT, AV.cells, Option.map_some, AV.one, AV.all1, i64_wrap, u64_wrap, u32_wrap, u8_wrap, Nat.zero_add, Nat.add_zero, Nat.reduceEqDiff, Nat.reduceLeDiff, Nat.reduceAdd, Nat.left_eq_add, Nat.add_eq_left, Nat.add_left_cancel_iff, reduceIte, eq_self, decide_true, decide_false, Bool.not_true, Bool.not_false, reduceCtorEq, List.getElem?_cons_zero, List.getElem?_cons_succ, List.set_cons_zero, List.set_cons_succ]
      refine ⟨m - 1, by omega, i + 1, by omega, trivial, trivial, trivial, trivial, by rw [Int.natCast_succ], ?_, ?_⟩
      · have ho : (o + (i : Int)).toNat = o.toNat + (le i x).length := by rw [le_length]; omega
        rw [le_snoc, ← lays_set (by rw [le_length]; omega)]
        rw [ho] at hw
        (try rw [ho]); exact hw
      · exact ⟨f2.n, fun b hb2 hm => by show upd _ _ _ _ = _; rw [upd_ne _ _ hm]; exact f2.same b hb2 hm⟩
    · simp only [hb]
      have hb' := of_decide_eq_false hb
      have : i = n.toNat := by omega
      subst this
      simp (disch := first | omega | assumption | exact id rfl | (simp only [okw_wr]; assumption)) only [RC, RO, RM, RT, AV.cells, Option.map_some, AV.one, AV.all1, i64_wrap, u64_wrap, u32_wrap, u8_wrap, Nat.zero_add, Nat.add_zero, Nat.reduceEqDiff, Nat.reduceLeDiff, Nat.reduceAdd, Nat.left_eq_add, Nat.add_eq_left, Nat.add_left_cancel_iff, reduceIte, eq_self, decide_true, decide_false, Bool.not_true, Bool.not_false, reduceCtorEq, List.getElem?_cons_zero, List.getElem?_cons_succ, List.set_cons_zero, List.set_cons_succ]
      exact ⟨trivial, o2, f2⟩
end Go.Eng
