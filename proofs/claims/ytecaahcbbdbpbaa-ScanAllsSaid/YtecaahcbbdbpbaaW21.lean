/-
  R11: The walk of windrowref14.All.
-/
import Derived.Test.YtecaahcbbdbpbaaW20
namespace Go.Eng
open Wr
set_option linter.unusedVariables false
set_option linter.unusedSimpArgs false
set_option maxHeartbeats 4000000 in
theorem c_r14_All {p : DP} {d : Dev} {ep sq : Int} {H : AH} (h : DevAt H p d) (hi : d.illegal ≤ 1000000000) (hd : d.down = false) (hz : ZOk d.g d.zones) :
    Acalls P0 S0 10 [dp p, .agg (gC d.g), I ep, I sq] H fun v H' => ∃ R, Own H' H.n 38 54 fC v R ∧ R.Pairwise flt ∧ R.Perm (scanD d ep sq d.zones.length) ∧ Fr No H H' := by
  have hgk := h.gok
  have gc := hgk.c; have gs := hgk.s; have gz := hgk.z; have gn := hgk.n; have gm := hgk.m
  have hl : Legal d := hz.legal (by omega) (by omega) (by omega)
  refine Acalls.go m10 rfl ?_
  rw [slots0_4]; unfold b10
  have hz8 := h.zl8
  have hzl := h.zl
  simp (disch := first | omega | assumption | exact id rfl | (simp only [okw_wr]; assumption)) only [RC, RO, RM, RT, AV.cells, Option.map_some, AV.one, AV.all1, i64_wrap, u64_wrap, u32_wrap, u8_wrap, Nat.zero_add, Nat.add_zero, Nat.reduceEqDiff, Nat.reduceLeDiff, Nat.reduceAdd, Nat.left_eq_add, Nat.add_eq_left, Nat.add_left_cancel_iff, reduceIte, eq_self, decide_true, decide_false, Bool.not_true, Bool.not_false, reduceCtorEq, List.getElem?_cons_zero, List.getElem?_cons_succ, List.set_cons_zero, List.set_cons_succ]
  have f0 : Fr No H ⟨upd H.g H.n (.cells (gC d.g) 23 false), H.n + 1⟩ := by (refine ⟨by (try simp only []); omega, fun b hb hm => ?_⟩; simp (disch := first | omega | assumption) only [upd_ne])
  refine (c_dev_Zones (h.frNo f0)).mono ?_
  rintro zs H1 ⟨oz, f1⟩
  dsimp only at oz
  have q1 := f1.le
  have lz := oz.lt (by omega)
  have f01 := f0.trans f1
  have q01 : H.n ≤ H1.n := f01.n
  have h1 := h.frNo f01
  have g1 : H1.g H.n = .cells (gC d.g) 23 false := by simp (disch := omega) only [f1.old, upd_same]
  clear f0
  simp (disch := first | omega | assumption | exact id rfl | (simp only [okw_wr]; assumption)) only [RC, RO, RM, RT, AV.cells, Option.map_some, AV.one, AV.all1, i64_wrap, u64_wrap, u32_wrap, u8_wrap, Nat.zero_add, Nat.add_zero, Nat.reduceEqDiff, Nat.reduceLeDiff, Nat.reduceAdd, Nat.left_eq_add, Nat.add_eq_left, Nat.add_left_cancel_iff, reduceIte, eq_self, decide_true, decide_false, Bool.not_true, Bool.not_false, reduceCtorEq, List.getElem?_cons_zero, List.getElem?_cons_succ, List.set_cons_zero, List.set_cons_succ]
  refine Cs_loop (fun m T H' => ∃ z : Nat, m + z = d.zones.length ∧ T 0 = dp p ∧ T 2 = I ep ∧ T 3 = I sq ∧ T 5 = .ptr (some (H.n, 0)) ∧ T 10 = zs ∧ T 11 = I z ∧ (∃ w L, T 9 = w ∧ Own H' H1.n 38 54 fC w L ∧ L.Pairwise flt ∧ L.Perm (scanD d ep sq z)) ∧ Fr No H1 H') ⟨0, rfl, ?_⟩ ?_
  · simp (disch := omega) only [upd_ne, upd_same]
    exact ⟨(by first | trivial | rfl), (by first | trivial | rfl), (by first | trivial | rfl), (by first | trivial | rfl), (by first | trivial | rfl), rfl, ⟨_, [], rfl, Own.nil fC_len fC_one (Nat.le_refl _), .nil, .nil⟩, Fr.refl _⟩
  · rintro m T H2 ⟨z, hm, t0, t2, t3, t5, t10, t11, ⟨w, L, t9, ow, so1, pe1⟩, f2⟩
    have q2 := f2.n
    simp (disch := first | omega | assumption | exact id rfl | (simp only [okw_wr]; assumption)) only [t0, t2, t3, t5, t9, t10, t11, oz.sl.ln, RC, RO, RM, RT, AV.cells, Option.map_some, AV.one, AV.all1, i64_wrap, u64_wrap, u32_wrap, u8_wrap, Nat.zero_add, Nat.add_zero, Nat.reduceEqDiff, Nat.reduceLeDiff, Nat.reduceAdd, Nat.left_eq_add, Nat.add_eq_left, Nat.add_left_cancel_iff, reduceIte, eq_self, decide_true, decide_false, Bool.not_true, Bool.not_false, reduceCtorEq, List.getElem?_cons_zero, List.getElem?_cons_succ, List.set_cons_zero, List.set_cons_succ]
    refine Is_split (fun hb => ?_) (fun hb => ?_)
    · have hzz := of_decide_eq_true hb
      simp only [hb]
      obtain ⟨lp0, lp1, lp2⟩ := hl z (by omega)
      have hzc : d.zones.getD (z : Int).toNat ⟨0, 0⟩ = zat d.zones z := rfl
      have cz := oz.sl.co ⟨0, 0⟩ (i := (z : Int)) (o := 1) (by omega) (by omega)
      rw [show (zC (d.zones.getD (z : Int).toNat ⟨0, 0⟩))[1]? = some (I (zat d.zones z).point) from rfl] at cz
      have ixz := oz.sl.ix (i := (z : Int)) (kd := .i64) (by omega)
      simp (disch := first | omega | assumption | exact id rfl | (simp only [okw_wr]; assumption)) only [t0, t2, t3, t5, t9, t10, t11, RC, RO, RM, RT, AV.cells, Option.map_some, AV.one, AV.all1, i64_wrap, u64_wrap, u32_wrap, u8_wrap, Nat.zero_add, Nat.add_zero, Nat.reduceEqDiff, Nat.reduceLeDiff, Nat.reduceAdd, Nat.left_eq_add, Nat.add_eq_left, Nat.add_left_cancel_iff, reduceIte, eq_self, decide_true, decide_false, Bool.not_true, Bool.not_false, reduceCtorEq, List.getElem?_cons_zero, List.getElem?_cons_succ, List.set_cons_zero, List.set_cons_succ]
      have hdp := fun o ho => scanDZ_place (ep := ep) (sq := sq) hz (by omega) (by omega) (by omega) (z := z) (o := o) (by omega) ho
      obtain ⟨-, -, slen⟩ := scanD_place (ep := ep) (sq := sq) hz (by omega) (by omega) (by omega) z (by omega)
      have slen2 : (scanD d ep sq z).length ≤ 256 * 64 := Nat.le_trans slen (Nat.mul_le_mul (by omega) (by omega))
      generalize hzo : zat d.zones z = zo at *
      refine Cs_loop (fun m' T' H' => ∃ o : Nat, m' + o = zo.point.toNat ∧ T' 0 = dp p ∧ T' 2 = I ep ∧ T' 3 = I sq ∧ T' 5 = .ptr (some (H.n, 0)) ∧ T' 10 = zs ∧ T' 11 = I z ∧ T' 12 = I o ∧ (∃ w L, T' 9 = w ∧ Own H' H1.n 38 54 fC w L ∧ L.Pairwise flt ∧ L.Perm (scanD d ep sq z ++ scanZ d ep sq z o)) ∧ Fr No H1 H') ⟨0, rfl, ?_⟩ ?_
      · simp (disch := omega) only [upd_ne, upd_same, t0, t2, t3, t5, t9, t10, t11]
        refine ⟨(by first | trivial | rfl), (by first | trivial | rfl), (by first | trivial | rfl), (by first | trivial | rfl), (by first | trivial | rfl), (by first | trivial | rfl), (by first | trivial | rfl), ⟨_, L, rfl, ow, so1, ?_⟩, f2⟩
        simp only [scanZ, List.append_nil]
        exact pe1
      · rintro m' T' H3 ⟨o, ho, k0, k2, k3, k5, k10, k11, k12, ⟨w3, L3, k9, o3, so3, pe3⟩, f3⟩
        have q3 := f3.n
        have hr3 := h1.frNo f3
        simp (disch := first | omega | assumption | exact id rfl | (simp only [okw_wr]; assumption)) only [k0, k2, k3, k5, k9, k10, k11, k12, ixz, f3.at, cz, RC, RO, RM, RT, AV.cells, Option.map_some, AV.one, AV.all1, i64_wrap, u64_wrap, u32_wrap, u8_wrap, Nat.zero_add, Nat.add_zero, Nat.reduceEqDiff, Nat.reduceLeDiff, Nat.reduceAdd, Nat.left_eq_add, Nat.add_eq_left, Nat.add_left_cancel_iff, reduceIte, eq_self, decide_true, decide_false, Bool.not_true, Bool.not_false, reduceCtorEq, List.getElem?_cons_zero, List.getElem?_cons_succ, List.set_cons_zero, List.set_cons_succ]
        refine Is_split (fun hb2 => ?_) (fun hb2 => ?_)
        · have hoo := of_decide_eq_true hb2
          simp only [hb2]
          have hfa : fillA [AV.int .i64 0, .int .i64 0] [(0, 1, I z), (1, 1, I o)] = some (aC ⟨z, o⟩) := rfl
          simp (disch := first | omega | assumption | exact id rfl | (simp only [okw_wr]; assumption)) only [k0, k2, k3, k5, k9, k10, k11, k12, hfa, RC, RO, RM, RT, AV.cells, Option.map_some, AV.one, AV.all1, i64_wrap, u64_wrap, u32_wrap, u8_wrap, Nat.zero_add, Nat.add_zero, Nat.reduceEqDiff, Nat.reduceLeDiff, Nat.reduceAdd, Nat.left_eq_add, Nat.add_eq_left, Nat.add_left_cancel_iff, reduceIte, eq_self, decide_true, decide_false, Bool.not_true, Bool.not_false, reduceCtorEq, List.getElem?_cons_zero, List.getElem?_cons_succ, List.set_cons_zero, List.set_cons_succ]
          refine (c_dev_Read (a := ⟨z, o⟩) hr3 hi).mono ?_
          have hzr := lp2 o hoo
          rw [dread_ok hd hzr]
          rintro _ H4 ⟨rfl, -, f5⟩
          have f5 := f5 (.inl hzr)
          have q5 := f5.n
          generalize hpg : (mget d.now ⟨z, o⟩).getD (Bytes.zero 64) = pg
          have tp := bC_len pg
          have tp1 := bC_one pg
          have tp2 : (List.replicate 64 (AV.int .u8 0)).length = (bC pg).length := by rw [bC_len, List.length_replicate]
          simp (disch := first | omega | assumption | exact id rfl | (simp only [okw_wr]; assumption)) only [k0, k2, k3, k5, k9, k10, k11, k12, RC, RO, RM, RT, AV.cells, Option.map_some, AV.one, AV.all1, i64_wrap, u64_wrap, u32_wrap, u8_wrap, Nat.zero_add, Nat.add_zero, Nat.reduceEqDiff, Nat.reduceLeDiff, Nat.reduceAdd, Nat.left_eq_add, Nat.add_eq_left, Nat.add_left_cancel_iff, reduceIte, eq_self, decide_true, decide_false, Bool.not_true, Bool.not_false, reduceCtorEq, List.getElem?_cons_zero, List.getElem?_cons_succ, List.set_cons_zero, List.set_cons_succ]
          refine (c_r06_Read (p := pg)).mono ?_
          rintro _ H5 ⟨rfl, f6⟩
          have q6 := f6.le
          generalize hrr : recRead pg = rr
          obtain ⟨r, e⟩ := rr
          have tr := rC_len r
          have tr1 := rC_one r
          have tr2 : (rC rec0).length = (rC r).length := by rw [rC_len, rC_len]
          have hsc : scanAt d ep sq ⟨z, o⟩ = if e = 0 ∧ r.epoch = ep ∧ r.seq > sq then [⟨num d.g ⟨z, o⟩, r⟩] else [] := by unfold scanAt; rw [hpg, hrr]
          have hscz : scanD d ep sq z ++ scanZ d ep sq z (o + 1) = (scanD d ep sq z ++ scanZ d ep sq z o) ++ scanAt d ep sq ⟨z, o⟩ := by rw [scanZ, List.append_assoc]
          have fall : Fr No H1 H5 := by (refine ⟨by (try simp only []); omega, fun b hb hm => ?_⟩; simp (disch := first | omega | assumption) only [f6.old, f5.at, f3.at, upd_ne])
          have o5 : Own H5 H1.n 38 54 fC w3 L3 := o3.fr (by omega) (fun b _ hb => by simp (disch := omega) only [f6.old, f5.at, upd_ne])
          have gg : H5.g H.n = .cells (gC d.g) 23 false := by simp (disch := omega) only [f6.old, f5.at, upd_ne, f3.at, g1]
          have plen := pe3.length_eq
          rw [List.length_append] at plen
          have ts := scanZ_len d ep sq z o
          (simp (disch := first | omega | assumption | exact id rfl | (simp only [okw_wr]; assumption)) only [k0, k2, k3, k5, k9, k10, k11, k12, z_rec, gg, hfa, RC, RO, RM, RT, AV.cells, Option.map_some, AV.one, AV.all1, i64_wrap, u64_wrap, u32_wrap, u8_wrap, Nat.zero_add, Nat.add_zero, Nat.reduceEqDiff, Nat.reduceLeDiff, Nat.reduceAdd, Nat.left_eq_add, Nat.add_eq_left, Nat.add_left_cancel_iff, reduceIte, eq_self, decide_true, decide_false, Bool.not_true, Bool.not_false, reduceCtorEq, List.getElem?_cons_zero, List.getElem?_cons_succ, List.set_cons_zero, List.set_cons_succ]; repeat' (first | (refine Gs_split (fun hb => ?_) (fun hb => ?_) <;> (simp only [hb]; (try simp only [decide_eq_true_eq, decide_eq_false_iff_not, Bool.not_eq_true', Bool.not_eq_false', ne_eq, Decidable.not_not, not_true_eq_false] at hb); (try simp (disch := first | omega | assumption | exact id rfl | (simp only [okw_wr]; assumption)) only [k0, k2, k3, k5, k9, k10, k11, k12, z_rec, gg, hfa, RC, RO, RM, RT, AV.cells, Option.map_some, AV.one, AV.all1, i64_wrap, u64_wrap, u32_wrap, u8_wrap, Nat.zero_add, Nat.add_zero, Nat.reduceEqDiff, Nat.reduceLeDiff, Nat.reduceAdd, Nat.left_eq_add, Nat.add_eq_left, Nat.add_left_cancel_iff, reduceIte, eq_self, decide_true, decide_false, Bool.not_true, Bool.not_false, reduceCtorEq, List.getElem?_cons_zero, List.getElem?_cons_succ, List.set_cons_zero, List.set_cons_succ]))) | (refine Is_split (fun hb => ?_) (fun hb => ?_) <;> (simp only [hb]; (try simp only [decide_eq_true_eq, decide_eq_false_iff_not, Bool.not_eq_true', Bool.not_eq_false', ne_eq, Decidable.not_not, not_true_eq_false] at hb); (try simp (disch := first | omega | assumption | exact id rfl | (simp only [okw_wr]; assumption)) only [k0, k2, k3, k5, k9, k10, k11, k12, z_rec, gg, hfa, RC, RO, RM, RT, AV.cells, Option.map_some, AV.one, AV.all1, i64_wrap, u64_wrap, u32_wrap, u8_wrap, Nat.zero_add, Nat.add_zero, Nat.reduceEqDiff, Nat.reduceLeDiff, Nat.reduceAdd, Nat.left_eq_add, Nat.add_eq_left, Nat.add_left_cancel_iff, reduceIte, eq_self, decide_true, decide_false, Bool.not_true, Bool.not_false, reduceCtorEq, List.getElem?_cons_zero, List.getElem?_cons_succ, List.set_cons_zero, List.set_cons_succ]))) | (refine Dg_split (fun hb => ?_) (fun hb => ?_) <;> (simp only [hb]; (try simp only [decide_eq_true_eq, decide_eq_false_iff_not, Bool.not_eq_true', Bool.not_eq_false', ne_eq, Decidable.not_not, not_true_eq_false] at hb); (try simp (disch := first | omega | assumption | exact id rfl | (simp only [okw_wr]; assumption)) only [k0, k2, k3, k5, k9, k10, k11, k12, z_rec, gg, hfa, RC, RO, RM, RT, AV.cells, Option.map_some, AV.one, AV.all1, i64_wrap, u64_wrap, u32_wrap, u8_wrap, Nat.zero_add, Nat.add_zero, Nat.reduceEqDiff, Nat.reduceLeDiff, Nat.reduceAdd, Nat.left_eq_add, Nat.add_eq_left, Nat.add_left_cancel_iff, reduceIte, eq_self, decide_true, decide_false, Bool.not_true, Bool.not_false, reduceCtorEq, List.getElem?_cons_zero, List.getElem?_cons_succ, List.set_cons_zero, List.set_cons_succ])))))
          all_goals first
          | (rw [if_neg (by intro hh; obtain ⟨hh1, hh2, hh3⟩ := hh; omega)] at hsc
             refine ⟨m' - 1, by omega, o + 1, by omega, (by first | trivial | rfl), (by first | trivial | rfl), (by first | trivial | rfl), (by first | trivial | rfl), (by first | trivial | rfl), (by first | trivial | rfl), by rw [Int.natCast_succ], ⟨_, L3, rfl, o5.fr (by show H5.n ≤ H5.n + 1; omega) (fun b _ hb => by simp (disch := omega) only [upd_ne]), so3, ?_⟩, by (refine ⟨by (try simp only []); omega, fun b hb hm => ?_⟩; simp (disch := first | omega | assumption) only [fall.at, upd_ne])⟩
             rw [hscz, hsc, List.append_nil]; exact pe3)
          | skip
          refine (c_r03_Num hgk.gb).mono ?_
          rintro _ Hq ⟨rfl, -⟩
          refine ⟨rfl, ?_⟩
          have hbool : e = 0 ∧ r.epoch = ep ∧ r.seq > sq := by refine ⟨?_, ?_, ?_⟩ <;> first | assumption | omega
          rw [if_pos hbool] at hsc
          rw [hsc] at hscz
          have hpl : ∀ y ∈ L3, y.place < num d.g ⟨z, o⟩ := fun y hy => hdp o hoo y (pe3.mem_iff.mp hy)
          generalize hxx : (⟨num d.g ⟨z, o⟩, r⟩ : Wr.Found) = x at hsc hscz
          have fx : fillA ([AV.int .i64 0, .int .i64 0, .int .i64 0, .int .i64 0, .int .i64 0, .int .i64 0] ++ List.replicate 32 (AV.int .u8 0)) [(0, 1, I (num d.g ⟨z, o⟩)), (1, 37, .agg (rC r))] = some (fC x) := by rw [← hxx]; exact fill_f
          have tf := fC_len x
          have tf1 := fC_one x
          have tf2 : ([AV.int .i64 0, .int .i64 0, .int .i64 0, .int .i64 0, .int .i64 0, .int .i64 0] ++ List.replicate 32 (AV.int .u8 0)).length = (fC x).length := by rw [fC_len]; rfl
          simp (disch := first | omega | assumption | exact id rfl | (simp only [okw_wr]; assumption)) only [k0, k2, k3, k5, k9, k10, k11, k12, fx, fill_f1, o5.sl.ln, RC, RO, RM, RT, AV.cells, Option.map_some, AV.one, AV.all1, i64_wrap, u64_wrap, u32_wrap, u8_wrap, Nat.zero_add, Nat.add_zero, Nat.reduceEqDiff, Nat.reduceLeDiff, Nat.reduceAdd, Nat.left_eq_add, Nat.add_eq_left, Nat.add_left_cancel_iff, reduceIte, eq_self, decide_true, decide_false, Bool.not_true, Bool.not_false, reduceCtorEq, List.getElem?_cons_zero, List.getElem?_cons_succ, List.set_cons_zero, List.set_cons_succ]
          refine Os_app (lo := H1.n) (L := L3) (X := [x]) (o5.fr (by show H5.n ≤ H5.n + 1 + 1 + 1; omega) (fun b _ hb => by simp (disch := omega) only [upd_ne])) (Sl.ofCells (c := 1) (sl := 0) (e := 54) (ro := false) fC_len (by simp (disch := omega) only [upd_same, List.flatMap_cons, List.flatMap_nil, List.append_nil]) rfl (by simp) (.inl rfl)) (by omega) (by simp only [List.length_append, List.length_cons, List.length_nil]; omega) ?_
          intro v' H6 o6 q6' k6 s6
          have q6' : H5.n + 1 + 1 + 1 ≤ H6.n := q6'
          have k6 : ∀ b, b < H5.n + 1 + 1 + 1 → (b ≠ sb w3 ∨ b < H1.n) → H6.g b = _ := k6
          have lw3 := o3.lt' (by omega)
          have hx6 : H6.g (H5.n + 1) = .cells (fC x) 54 false := by
            rw [k6 _ (by omega) (.inl (by omega))]; simp (disch := omega) only [upd_ne, upd_same]
          have hk6 : ∀ b, b < H1.n → H6.g b = H1.g b := fun b hb1 => by
            have qf := fall.n
            rw [k6 b (by omega) (.inr hb1)]
            simp (disch := omega) only [upd_ne, fall.at]
          have lv6 := o6.lt (by simp)
          have hxv : H5.n + 1 ≠ sb v' := by
            rcases s6 with h | h | h
            · omega
            · have h : H5.n + 1 + 1 + 1 ≤ sb v' := h
              omega
            · rw [h]; show H5.n + 1 ≠ 0; omega
          clear k6 s6
          simp (disch := first | omega | assumption | exact id rfl | (simp only [okw_wr]; assumption)) only [k0, k2, k3, k5, k9, k10, k11, k12, RC, RO, RM, RT, AV.cells, Option.map_some, AV.one, AV.all1, i64_wrap, u64_wrap, u32_wrap, u8_wrap, Nat.zero_add, Nat.add_zero, Nat.reduceEqDiff, Nat.reduceLeDiff, Nat.reduceAdd, Nat.left_eq_add, Nat.add_eq_left, Nat.add_left_cancel_iff, reduceIte, eq_self, decide_true, decide_false, Bool.not_true, Bool.not_false, reduceCtorEq, List.getElem?_cons_zero, List.getElem?_cons_succ, List.set_cons_zero, List.set_cons_succ]
          refine Cs_loop (fun m2 T2 H7 => T2 0 = dp p ∧ T2 2 = I ep ∧ T2 3 = I sq ∧ T2 5 = .ptr (some (H.n, 0)) ∧ T2 10 = zs ∧ T2 11 = I z ∧ T2 12 = I o ∧ T2 9 = v' ∧ T2 17 = .ptr (some (H5.n + 1, 0)) ∧ T2 18 = I m2 ∧ m2 ≤ L3.length ∧ (∃ y, Own H7 H1.n 38 54 fC v' (L3.take m2 ++ y :: L3.drop m2)) ∧ (∀ y ∈ L3.drop m2, x.r.seq < y.r.seq) ∧ H7.n = H6.n ∧ H7.g (H5.n + 1) = .cells (fC x) 54 false ∧ ∀ b, b < H1.n → H7.g b = H1.g b) (n := L3.length) ?_ ?_
          · simp (disch := omega) only [upd_ne, upd_same, k0, k2, k3, k5, k9, k10, k11, k12]
            refine ⟨(by first | trivial | rfl), (by first | trivial | rfl), (by first | trivial | rfl), (by first | trivial | rfl), (by first | trivial | rfl), (by first | trivial | rfl), (by first | trivial | rfl), (by first | trivial | rfl), (by first | trivial | rfl), (by first | trivial | rfl), Nat.le_refl _, ⟨x, ?_⟩, ?_, (by first | trivial | rfl), hx6, hk6⟩
            · rw [List.take_length, List.drop_length]; exact o6
            · rw [List.drop_length]; intro y hy; cases hy
          · rintro k T2 H7 ⟨j0, j2, j3, j5, j10, j11, j12, j9, j17, j18, kl, ⟨y, o7⟩, hd7, n7, hx7, hk7⟩
            have l7 : (L3.take k ++ y :: L3.drop k).length = L3.length + 1 := by simp only [List.length_append, List.length_cons, List.length_take, List.length_drop]; omega
            simp (disch := first | omega | assumption | exact id rfl | (simp only [okw_wr]; assumption)) only [j0, j2, j3, j5, j10, j11, j12, j9, j17, j18, RC, RO, RM, RT, AV.cells, Option.map_some, AV.one, AV.all1, i64_wrap, u64_wrap, u32_wrap, u8_wrap, Nat.zero_add, Nat.add_zero, Nat.reduceEqDiff, Nat.reduceLeDiff, Nat.reduceAdd, Nat.left_eq_add, Nat.add_eq_left, Nat.add_left_cancel_iff, reduceIte, eq_self, decide_true, decide_false, Bool.not_true, Bool.not_false, reduceCtorEq, List.getElem?_cons_zero, List.getElem?_cons_succ, List.set_cons_zero, List.set_cons_succ]
            have hs7 := o7.lt (by omega)
            refine Gs_split (fun hk0 => ?G1) (fun hk0 => ?G2)
            case' G1 =>
              have hk0' : 0 < k := by have := of_decide_eq_true hk0; omega
              simp only [hk0]
              have wsub : IntKind.i64.wrap ((k : Int) - 1) = (k : Int) - 1 := i64_wrap (by omega)
              have ixk := o7.sl.ix (i := (k : Int) - 1) (kd := .i64) (by omega)
              have ixk0 := o7.sl.ix (i := (k : Int)) (kd := .i64) (by omega)
              have ck := o7.sl.co f0 (i := (k : Int) - 1) (o := 3) (by omega) (by omega)
              have cn := o7.sl.cN f0 (i := (k : Int) - 1) (by omega)
              rw [show ((k : Int) - 1).toNat = k - 1 by omega, ins_get hk0' kl] at ck cn
              rw [show ((k : Int) - 1).toNat = k - 1 by omega] at ixk
              rw [show (k : Int).toNat = k by omega] at ixk0
              rw [fC_3] at ck
              have hdr : L3.drop (k - 1) = L3.getD (k - 1) f0 :: L3.drop k := by
                have e : L3.getD (k - 1) f0 = L3[k - 1] := by rw [List.getD_eq_getElem?_getD, List.getElem?_eq_getElem (by omega)]; rfl
                rw [e, List.drop_eq_getElem_cons (by omega), show k - 1 + 1 = k by omega]
              have stk := o7.stN (i := (k : Int)) (xs := fC (L3.getD (k - 1) f0)) (by omega) (fC_len _)
              have owk := o7.wrN (i := (k : Int)) (by omega) (L3.getD (k - 1) f0)
              rw [show (k : Int).toNat = k by omega] at stk owk
              rw [ins_step hk0' kl] at owk
              generalize hyy : L3.getD (k - 1) f0 = yy at *
              have ty := fC_len yy
              have ty1 := fC_one yy
              simp (disch := first | omega | assumption | exact id rfl | (simp only [okw_wr]; assumption)) only [j0, j2, j3, j5, j10, j11, j12, j9, j17, j18, wsub, ixk, ck, hx7, RC, RO, RM, RT, AV.cells, Option.map_some, AV.one, AV.all1, i64_wrap, u64_wrap, u32_wrap, u8_wrap, Nat.zero_add, Nat.add_zero, Nat.reduceEqDiff, Nat.reduceLeDiff, Nat.reduceAdd, Nat.left_eq_add, Nat.add_eq_left, Nat.add_left_cancel_iff, reduceIte, eq_self, decide_true, decide_false, Bool.not_true, Bool.not_false, reduceCtorEq, List.getElem?_cons_zero, List.getElem?_cons_succ, List.set_cons_zero, List.set_cons_succ]
              refine Is_split (fun hsq => ?S1) (fun hsq => ?S2)
            case S1 =>
              have hsq' : yy.r.seq > x.r.seq := of_decide_eq_true hsq
              simp only [hsq]
              simp (disch := first | omega | assumption | exact id rfl | (simp only [okw_wr]; assumption)) only [j0, j2, j3, j5, j10, j11, j12, j9, j17, j18, wsub, ixk, ixk0, cn, stk, RC, RO, RM, RT, AV.cells, Option.map_some, AV.one, AV.all1, i64_wrap, u64_wrap, u32_wrap, u8_wrap, Nat.zero_add, Nat.add_zero, Nat.reduceEqDiff, Nat.reduceLeDiff, Nat.reduceAdd, Nat.left_eq_add, Nat.add_eq_left, Nat.add_left_cancel_iff, reduceIte, eq_self, decide_true, decide_false, Bool.not_true, Bool.not_false, reduceCtorEq, List.getElem?_cons_zero, List.getElem?_cons_succ, List.set_cons_zero, List.set_cons_succ]
              refine ⟨k - 1, by omega, (by first | trivial | rfl), (by first | trivial | rfl), (by first | trivial | rfl), (by first | trivial | rfl), (by first | trivial | rfl), (by first | trivial | rfl), (by first | trivial | rfl), (by first | trivial | rfl), (by first | trivial | rfl), by rw [show (k : Int) - 1 = ((k - 1 : Nat) : Int) by omega], by omega, ⟨yy, owk⟩, ?_, n7, hx7, ?_⟩
              · rw [hdr]; intro q hq
                rcases List.mem_cons.mp hq with rfl | hq
                · exact hsq'
                · exact hd7 q hq
              · intro b hb1
                rw [upd_ne _ _ (by omega)]; exact hk7 b hb1
            case' S2 =>
              have hsq' : ¬ yy.r.seq > x.r.seq := of_decide_eq_false hsq
              have hfin : k = 0 ∨ (L3.getD (k - 1) f0).r.seq ≤ x.r.seq := .inr (by rw [hyy]; omega)
              simp only [hsq]
            case' G2 =>
              have hfin : k = 0 ∨ (L3.getD (k - 1) f0).r.seq ≤ x.r.seq := .inl (by have := of_decide_eq_false hk0; omega)
              simp only [hk0]
            all_goals
              have ixk0 := o7.sl.ix (i := (k : Int)) (kd := .i64) (by omega)
              have stx := o7.stN (i := (k : Int)) (xs := fC x) (by omega) (fC_len _)
              have owx := o7.wrN (i := (k : Int)) (by omega) x
              rw [show (k : Int).toNat = k by omega] at ixk0 stx owx
              rw [ins_set kl] at owx
              simp (disch := first | omega | assumption | exact id rfl | (simp only [okw_wr]; assumption)) only [k0, k2, k3, k5, k9, k10, k11, k12, j0, j2, j3, j5, j10, j11, j12, j9, j17, j18, hx7, ixk0, stx, RC, RO, RM, RT, AV.cells, Option.map_some, AV.one, AV.all1, i64_wrap, u64_wrap, u32_wrap, u8_wrap, Nat.zero_add, Nat.add_zero, Nat.reduceEqDiff, Nat.reduceLeDiff, Nat.reduceAdd, Nat.left_eq_add, Nat.add_eq_left, Nat.add_left_cancel_iff, reduceIte, eq_self, decide_true, decide_false, Bool.not_true, Bool.not_false, reduceCtorEq, List.getElem?_cons_zero, List.getElem?_cons_succ, List.set_cons_zero, List.set_cons_succ]
              refine ⟨m' - 1, by omega, o + 1, by omega, (by first | trivial | rfl), (by first | trivial | rfl), (by first | trivial | rfl), (by first | trivial | rfl), (by first | trivial | rfl), (by first | trivial | rfl), by rw [Int.natCast_succ], ⟨_, L3.take k ++ x :: L3.drop k, rfl, owx, ins_sorted kl so3 (by rw [← hxx]; exact hpl) hd7 hfin, ?_⟩, ⟨by show H1.n ≤ H7.n; omega, fun b hb1 _ => ?_⟩⟩
              · rw [hscz]; exact ins_perm.trans (pe3.append_right [x])
              · show upd _ _ _ b = _
                rw [upd_ne _ _ (by omega)]; exact hk7 b hb1
        · have hoo := of_decide_eq_false hb2
          simp only [hb2]
          have : o = zo.point.toNat := by omega
          subst this
          simp (disch := first | omega | assumption | exact id rfl | (simp only [okw_wr]; assumption)) only [k0, k2, k3, k5, k9, k10, k11, k12, RC, RO, RM, RT, AV.cells, Option.map_some, AV.one, AV.all1, i64_wrap, u64_wrap, u32_wrap, u8_wrap, Nat.zero_add, Nat.add_zero, Nat.reduceEqDiff, Nat.reduceLeDiff, Nat.reduceAdd, Nat.left_eq_add, Nat.add_eq_left, Nat.add_left_cancel_iff, reduceIte, eq_self, decide_true, decide_false, Bool.not_true, Bool.not_false, reduceCtorEq, List.getElem?_cons_zero, List.getElem?_cons_succ, List.set_cons_zero, List.set_cons_succ]
          refine ⟨m - 1, by omega, z + 1, by omega, (by first | trivial | rfl), (by first | trivial | rfl), (by first | trivial | rfl), (by first | trivial | rfl), (by first | trivial | rfl), by rw [Int.natCast_succ], ⟨_, L3, rfl, o3, so3, ?_⟩, f3⟩
          rw [scanD, hzo]; exact pe3
    · have hzz := of_decide_eq_false hb
      simp only [hb]
      have : z = d.zones.length := by omega
      subst this
      simp (disch := first | omega | assumption | exact id rfl | (simp only [okw_wr]; assumption)) only [t0, t2, t3, t5, t9, t10, t11, RC, RO, RM, RT, AV.cells, Option.map_some, AV.one, AV.all1, i64_wrap, u64_wrap, u32_wrap, u8_wrap, Nat.zero_add, Nat.add_zero, Nat.reduceEqDiff, Nat.reduceLeDiff, Nat.reduceAdd, Nat.left_eq_add, Nat.add_eq_left, Nat.add_left_cancel_iff, reduceIte, eq_self, decide_true, decide_false, Bool.not_true, Bool.not_false, reduceCtorEq, List.getElem?_cons_zero, List.getElem?_cons_succ, List.set_cons_zero, List.set_cons_succ]
      exact ⟨L, ow.weak q01, so1, pe1, f01.trans f2⟩
end Go.Eng
