/-
  G13: The walk of scan.All over a device that is down.
  G12: Walks of scan: Chain, Last.
-/
import Derived.Test.YtecaahcbbdbpbaaW14
namespace Go.Eng
open Wr
set_option linter.unusedVariables false
set_option linter.unusedSimpArgs false
def chainF : List Wr.Found → Int → List Wr.Found
  | [], _ => []
  | f :: l, s => if f.r.seq = s + 1 then f :: chainF l (s + 1) else chainF l s
theorem chainF_snoc : ∀ (l : List Wr.Found) (x : Wr.Found) (s : Int), chainF (l ++ [x]) s = chainF l s ++ (if x.r.seq = s + (chainF l s).length + 1 then [x] else [])
  | [], x, s => by simp [chainF]
  | f :: l, x, s => by
    simp only [List.cons_append, chainF]
    split
    · rw [chainF_snoc l x (s + 1), List.cons_append, List.length_cons]
      have e : s + 1 + ((chainF l (s + 1)).length : Int) + 1 = s + (((chainF l (s + 1)).length + 1 : Nat) : Int) + 1 := by omega
      rw [e]
    · exact chainF_snoc l x s
theorem chainF_len : ∀ (l : List Wr.Found) (s : Int), (chainF l s).length ≤ l.length
  | [], s => by simp [chainF]
  | f :: l, s => by
    have := chainF_len l (s + 1); have := chainF_len l s
    simp only [chainF]; split <;> simp only [List.length_cons] <;> omega
theorem takeF_snoc {L : List Wr.Found} {i : Nat} (h : i < L.length) (df : Wr.Found) : L.take (i + 1) = L.take i ++ [L.getD i df] := by
  rw [List.take_succ_eq_append_getElem h, List.getD_eq_getElem?_getD, List.getElem?_eq_getElem h]; rfl
def found0 : Wr.Found := ⟨0, rec0⟩
theorem z_found : [AV.int .i64 0, .int .i64 0, .int .i64 0, .int .i64 0, .int .i64 0, .int .i64 0] ++ List.replicate 32 (AV.int .u8 0) = fC found0 := by rw [z_data]; rfl
theorem c_scan_Chain {v : AV} {L : List Wr.Found} {s : Int} {H : AH} (hs : Sl H.g 38 fC v L) (hv : sb v < H.n) (hl : L.length < 1000000) (hq : -1000000000000000 ≤ s ∧ s ≤ 1000000000000000) :
    Acalls P0 S0 15 [v, I s] H fun r H' => Own H' H.n 38 54 fC r (chainF L s) ∧ Fr No H H' := by
  refine Acalls.go m15 rfl ?_
  rw [slots0_2]; unfold b15
  simp (disch := first | omega | assumption | exact id rfl | (simp only [okw_wr]; assumption)) only [hs.ln, RC, RO, RM, RT, AV.cells, Option.map_some, AV.one, AV.all1, i64_wrap, u64_wrap, u32_wrap, u8_wrap, Nat.zero_add, Nat.add_zero, Nat.reduceEqDiff, Nat.reduceLeDiff, Nat.reduceAdd, Nat.left_eq_add, Nat.add_eq_left, Nat.add_left_cancel_iff, reduceIte, eq_self, decide_true, decide_false, Bool.not_true, Bool.not_false, reduceCtorEq, List.getElem?_cons_zero, List.getElem?_cons_succ, List.set_cons_zero, List.set_cons_succ]
  refine Cs_loop (fun m T H' => ∃ i : Nat, m + i = L.length ∧ T 8 = v ∧ T 9 = I L.length ∧ T 10 = I i ∧ T 1 = I (s + (chainF (L.take i) s).length) ∧ (∃ w, T 5 = w ∧ Own H' H.n 38 54 fC w (chainF (L.take i) s)) ∧ Fr No H H') ⟨0, rfl, ?_⟩ ?_
  · simp (disch := omega) only [upd_ne, upd_same]
    exact ⟨trivial, trivial, rfl, by simp [chainF], ⟨_, rfl, Own.nil fC_len fC_one (Nat.le_refl _)⟩, Fr.refl _⟩
  · rintro m T H2 ⟨i, hm, t8, t9, t10, t1, ⟨w, t5, ow⟩, f2⟩
    have q2 := f2.n
    have hcl := chainF_len (L.take i) s
    have htl := List.length_take_le i L
    have z0 := fC_len found0
    generalize hf : L.getD (i : Int).toNat found0 = f
    have z1 := fC_len f
    have z2 := fC_one f
    have z3 : (fC found0).length = (fC f).length := by rw [fC_len, fC_len]
    have hcN := fun hi => hs.cN found0 (i := i) hi
    rw [hf] at hcN
    have hsn : i < L.length → chainF (L.take (i + 1)) s = chainF (L.take i) s ++ (if f.r.seq = s + (chainF (L.take i) s).length + 1 then [f] else []) := fun h => by
      rw [takeF_snoc h found0, ← hf, chainF_snoc, Int.toNat_natCast]
    (simp (disch := first | omega | assumption | exact id rfl | (simp only [okw_wr]; assumption)) only [t8, t9, t10, t1, t5, hs.ix, hcN, f2.at, z_found, fill_f1, RC, RO, RM, RT, AV.cells, Option.map_some, AV.one, AV.all1, i64_wrap, u64_wrap, u32_wrap, u8_wrap, Nat.zero_add, Nat.add_zero, Nat.reduceEqDiff, Nat.reduceLeDiff, Nat.reduceAdd, Nat.left_eq_add, Nat.add_eq_left, Nat.add_left_cancel_iff, reduceIte, eq_self, decide_true, decide_false, Bool.not_true, Bool.not_false, reduceCtorEq, List.getElem?_cons_zero, List.getElem?_cons_succ, List.set_cons_zero, List.set_cons_succ]; repeat' (first | (refine Gs_split (fun hb => ?_) (fun hb => ?_) <;> (simp only [hb]; (try simp only [decide_eq_true_eq, decide_eq_false_iff_not, Bool.not_eq_true', Bool.not_eq_false', ne_eq, Decidable.not_not, not_true_eq_false] at hb); (try simp (disch := first | omega | assumption | exact id rfl | (simp only [okw_wr]; assumption)) only [t8, t9, t10, t1, t5, hs.ix, hcN, f2.at, z_found, fill_f1, RC, RO, RM, RT, AV.cells, Option.map_some, AV.one, AV.all1, i64_wrap, u64_wrap, u32_wrap, u8_wrap, Nat.zero_add, Nat.add_zero, Nat.reduceEqDiff, Nat.reduceLeDiff, Nat.reduceAdd, Nat.left_eq_add, Nat.add_eq_left, Nat.add_left_cancel_iff, reduceIte, eq_self, decide_true, decide_false, Bool.not_true, Bool.not_false, reduceCtorEq, List.getElem?_cons_zero, List.getElem?_cons_succ, List.set_cons_zero, List.set_cons_succ]))) | (refine Is_split (fun hb => ?_) (fun hb => ?_) <;> (simp only [hb]; (try simp only [decide_eq_true_eq, decide_eq_false_iff_not, Bool.not_eq_true', Bool.not_eq_false', ne_eq, Decidable.not_not, not_true_eq_false] at hb); (try simp (disch := first | omega | assumption | exact id rfl | (simp only [okw_wr]; assumption)) only [t8, t9, t10, t1, t5, hs.ix, hcN, f2.at, z_found, fill_f1, RC, RO, RM, RT, AV.cells, Option.map_some, AV.one, AV.all1, i64_wrap, u64_wrap, u32_wrap, u8_wrap, Nat.zero_add, Nat.add_zero, Nat.reduceEqDiff, Nat.reduceLeDiff, Nat.reduceAdd, Nat.left_eq_add, Nat.add_eq_left, Nat.add_left_cancel_iff, reduceIte, eq_self, decide_true, decide_false, Bool.not_true, Bool.not_false, reduceCtorEq, List.getElem?_cons_zero, List.getElem?_cons_succ, List.set_cons_zero, List.set_cons_succ]))) | (refine Dg_split (fun hb => ?_) (fun hb => ?_) <;> (simp only [hb]; (try simp only [decide_eq_true_eq, decide_eq_false_iff_not, Bool.not_eq_true', Bool.not_eq_false', ne_eq, Decidable.not_not, not_true_eq_false] at hb); (try simp (disch := first | omega | assumption | exact id rfl | (simp only [okw_wr]; assumption)) only [t8, t9, t10, t1, t5, hs.ix, hcN, f2.at, z_found, fill_f1, RC, RO, RM, RT, AV.cells, Option.map_some, AV.one, AV.all1, i64_wrap, u64_wrap, u32_wrap, u8_wrap, Nat.zero_add, Nat.add_zero, Nat.reduceEqDiff, Nat.reduceLeDiff, Nat.reduceAdd, Nat.left_eq_add, Nat.add_eq_left, Nat.add_left_cancel_iff, reduceIte, eq_self, decide_true, decide_false, Bool.not_true, Bool.not_false, reduceCtorEq, List.getElem?_cons_zero, List.getElem?_cons_succ, List.set_cons_zero, List.set_cons_succ])))))
    · have hi : i < L.length := by omega
      have hsn := hsn hi
      rw [if_pos hb] at hsn
      have fl1 := fill_f1 (f := f)
      rw [z_found] at fl1
      simp (disch := first | omega | assumption | exact id rfl | (simp only [okw_wr]; assumption)) only [t8, t9, t10, t1, t5, fl1, RC, RO, RM, RT, AV.cells, Option.map_some, AV.one, AV.all1, i64_wrap, u64_wrap, u32_wrap, u8_wrap, Nat.zero_add, Nat.add_zero, Nat.reduceEqDiff, Nat.reduceLeDiff, Nat.reduceAdd, Nat.left_eq_add, Nat.add_eq_left, Nat.add_left_cancel_iff, reduceIte, eq_self, decide_true, decide_false, Bool.not_true, Bool.not_false, reduceCtorEq, List.getElem?_cons_zero, List.getElem?_cons_succ, List.set_cons_zero, List.set_cons_succ]
      refine Os_app (lo := H.n) (L := chainF (L.take i) s) (X := [f]) (ow.fr (by show H2.n ≤ H2.n + 1 + 1; omega) (fun b _ hb => by simp (disch := omega) only [upd_ne])) (Sl.ofCells (c := 1) (sl := 0) (e := 54) (ro := false) fC_len (by simp (disch := omega) only [upd_same, List.flatMap_cons, List.flatMap_nil, List.append_nil]) rfl (by simp) (.inl rfl)) (by omega) (by simp only [List.length_cons, List.length_nil]; omega) ?_
      intro v' H6 o6 q6' k6 _
      have q6' : H2.n + 1 + 1 ≤ H6.n := q6'
      simp (disch := first | omega | assumption | exact id rfl | (simp only [okw_wr]; assumption)) only [t8, t9, t10, t1, t5, RC, RO, RM, RT, AV.cells, Option.map_some, AV.one, AV.all1, i64_wrap, u64_wrap, u32_wrap, u8_wrap, Nat.zero_add, Nat.add_zero, Nat.reduceEqDiff, Nat.reduceLeDiff, Nat.reduceAdd, Nat.left_eq_add, Nat.add_eq_left, Nat.add_left_cancel_iff, reduceIte, eq_self, decide_true, decide_false, Bool.not_true, Bool.not_false, reduceCtorEq, List.getElem?_cons_zero, List.getElem?_cons_succ, List.set_cons_zero, List.set_cons_succ]
      refine ⟨m - 1, by omega, i + 1, by omega, (by first | trivial | rfl), (by first | trivial | rfl), by rw [Int.natCast_succ], ?_, ⟨_, rfl, ?_⟩, show H.n ≤ H6.n by omega, ?_⟩
      · rw [hsn]; simp only [List.length_append, List.length_cons, List.length_nil]; congr 1; omega
      · rw [hsn]; exact o6
      · intro b hb1 _
        show H6.g b = H.g b
        rw [k6 b (by show b < H2.n + 1 + 1; omega) (.inr hb1)]
        simp (disch := omega) only [upd_ne, f2.at]
    · have hi : i < L.length := by omega
      have hsn := hsn hi
      rw [if_neg hb, List.append_nil] at hsn
      refine ⟨m - 1, by omega, i + 1, by omega, (by first | trivial | rfl), (by first | trivial | rfl), by rw [Int.natCast_succ], by rw [hsn], ⟨_, rfl, ?_⟩, by (refine ⟨by (try simp only []); omega, fun b hb hm => ?_⟩; simp (disch := first | omega | assumption) only [f2.at, upd_ne])⟩
      rw [hsn]; exact ow.fr (by show H2.n ≤ H2.n + 1; omega) (fun b _ hb => by simp (disch := omega) only [upd_ne])
    · have : i = L.length := by omega
      subst this
      rw [List.take_length] at ow
      exact ⟨ow, f2⟩
theorem c_scan_Last {v : AV} {L : List Wr.Found} {s : Int} {H : AH} (hs : Sl H.g 38 fC v L) (hv : sb v < H.n) (hl : L.length < 1000000) (hq : -1000000000000000 ≤ s ∧ s ≤ 1000000000000000) :
    Acalls P0 S0 16 [v, I s] H fun r H' => r = I (s + (chainF L s).length) ∧ Fr No H H' := by
  refine Acalls.go m16 rfl ?_
  rw [slots0_2]; unfold b16
  have hcl := chainF_len L s
  simp (disch := first | omega | assumption | exact id rfl | (simp only [okw_wr]; assumption)) only [RC, RO, RM, RT, AV.cells, Option.map_some, AV.one, AV.all1, i64_wrap, u64_wrap, u32_wrap, u8_wrap, Nat.zero_add, Nat.add_zero, Nat.reduceEqDiff, Nat.reduceLeDiff, Nat.reduceAdd, Nat.left_eq_add, Nat.add_eq_left, Nat.add_left_cancel_iff, reduceIte, eq_self, decide_true, decide_false, Bool.not_true, Bool.not_false, reduceCtorEq, List.getElem?_cons_zero, List.getElem?_cons_succ, List.set_cons_zero, List.set_cons_succ]
  refine (c_scan_Chain hs hv hl hq).mono ?_
  rintro w H1 ⟨o1, f1⟩
  simp (disch := first | omega | assumption | exact id rfl | (simp only [okw_wr]; assumption)) only [o1.sl.ln, RC, RO, RM, RT, AV.cells, Option.map_some, AV.one, AV.all1, i64_wrap, u64_wrap, u32_wrap, u8_wrap, Nat.zero_add, Nat.add_zero, Nat.reduceEqDiff, Nat.reduceLeDiff, Nat.reduceAdd, Nat.left_eq_add, Nat.add_eq_left, Nat.add_left_cancel_iff, reduceIte, eq_self, decide_true, decide_false, Bool.not_true, Bool.not_false, reduceCtorEq, List.getElem?_cons_zero, List.getElem?_cons_succ, List.set_cons_zero, List.set_cons_succ]
  exact ⟨trivial, f1⟩
end Go.Eng
namespace Go.Eng
open Wr
set_option linter.unusedVariables false
set_option linter.unusedSimpArgs false
theorem sortF_nil : sortF [] = [] := by
  unfold sortF; kernel_rfl
set_option maxHeartbeats 2000000 in
theorem c_scan_AllD {p : DP} {d : Dev} {ep sq : Int} {H : AH} (h : DevAt H p d) (hi : d.illegal ≤ 1000000000) (hd : d.down = true) (hl : ∀ z : Nat, z < d.zones.length → (zat d.zones z).point ≤ 65536) :
    Acalls P0 S0 8 [dp p, .agg (gC d.g), I ep, I sq] H fun v H' => v = .tup [.slc none 0 0 0, I 2] ∧ Fr No H H' := by
  refine Acalls.go m8 rfl ?_
  rw [slots0_4]; unfold b8
  have hz8 := h.zl8
  have hzl := h.zl
  simp (disch := first | omega | assumption | exact id rfl | (simp only [okw_wr]; assumption)) only [RC, RO, RM, RT, AV.cells, Option.map_some, AV.one, AV.all1, i64_wrap, u64_wrap, u32_wrap, u8_wrap, Nat.zero_add, Nat.add_zero, Nat.reduceEqDiff, Nat.reduceLeDiff, Nat.reduceAdd, Nat.left_eq_add, Nat.add_eq_left, Nat.add_left_cancel_iff, reduceIte, eq_self, decide_true, decide_false, Bool.not_true, Bool.not_false, reduceCtorEq, List.getElem?_cons_zero, List.getElem?_cons_succ, List.set_cons_zero, List.set_cons_succ]
  have f0 : Fr No H ⟨upd H.g H.n (.cells (gC d.g) 23 false), H.n + 1⟩ := by (refine ⟨by (try simp only []); omega, fun b hb hm => ?_⟩; simp (disch := first | omega | assumption) only [upd_ne])
  refine (c_dev_Zones (h.frNo f0)).mono ?_
  rintro zs H1 ⟨oz, f1⟩
  dsimp only at oz
  have q1 := f1.le
  have lz := oz.lt (by omega)
  have f01 := f0.trans f1
  have h1 := h.frNo f01
  clear f0
  simp (disch := first | omega | assumption | exact id rfl | (simp only [okw_wr]; assumption)) only [oz.sl.ln, RC, RO, RM, RT, AV.cells, Option.map_some, AV.one, AV.all1, i64_wrap, u64_wrap, u32_wrap, u8_wrap, Nat.zero_add, Nat.add_zero, Nat.reduceEqDiff, Nat.reduceLeDiff, Nat.reduceAdd, Nat.left_eq_add, Nat.add_eq_left, Nat.add_left_cancel_iff, reduceIte, eq_self, decide_true, decide_false, Bool.not_true, Bool.not_false, reduceCtorEq, List.getElem?_cons_zero, List.getElem?_cons_succ, List.set_cons_zero, List.set_cons_succ]
  refine Cs_loop (fun m T H' => ∃ z : Nat, m + z = d.zones.length ∧ T 0 = dp p ∧ T 2 = I ep ∧ T 3 = I sq ∧ T 5 = .ptr (some (H.n, 0)) ∧ T 20 = zs ∧ T 21 = I d.zones.length ∧ T 22 = I z ∧ T 10 = .slc none 0 0 0 ∧ Fr No H1 H') ⟨0, rfl, ?_⟩ ?_
  · simp (disch := omega) only [upd_ne, upd_same]
    exact ⟨trivial, trivial, trivial, trivial, trivial, trivial, rfl, trivial, Fr.refl _⟩
  · rintro m T H2 ⟨z, hm, t0, t2, t3, t5, t20, t21, t22, t10, f2⟩
    have q2 := f2.n
    simp (disch := first | omega | assumption | exact id rfl | (simp only [okw_wr]; assumption)) only [t0, t2, t3, t5, t20, t21, t22, t10, RC, RO, RM, RT, AV.cells, Option.map_some, AV.one, AV.all1, i64_wrap, u64_wrap, u32_wrap, u8_wrap, Nat.zero_add, Nat.add_zero, Nat.reduceEqDiff, Nat.reduceLeDiff, Nat.reduceAdd, Nat.left_eq_add, Nat.add_eq_left, Nat.add_left_cancel_iff, reduceIte, eq_self, decide_true, decide_false, Bool.not_true, Bool.not_false, reduceCtorEq, List.getElem?_cons_zero, List.getElem?_cons_succ, List.set_cons_zero, List.set_cons_succ]
    refine Is_split (fun hb => ?_) (fun hb => ?_)
    · have hzz := of_decide_eq_true hb
      simp only [hb]
      have lp1 := hl z (by omega)
      have hzc : d.zones.getD (z : Int).toNat ⟨0, 0⟩ = zat d.zones z := rfl
      simp (disch := first | omega | assumption | exact id rfl | (simp only [okw_wr]; assumption)) only [t0, t2, t3, t5, t20, t21, t22, t10, oz.sl.ix, oz.sl.cN ⟨0, 0⟩, f2.at, hzc, RC, RO, RM, RT, AV.cells, Option.map_some, AV.one, AV.all1, i64_wrap, u64_wrap, u32_wrap, u8_wrap, Nat.zero_add, Nat.add_zero, Nat.reduceEqDiff, Nat.reduceLeDiff, Nat.reduceAdd, Nat.left_eq_add, Nat.add_eq_left, Nat.add_left_cancel_iff, reduceIte, eq_self, decide_true, decide_false, Bool.not_true, Bool.not_false, reduceCtorEq, List.getElem?_cons_zero, List.getElem?_cons_succ, List.set_cons_zero, List.set_cons_succ]
      generalize hzo : zat d.zones z = zo at *
      refine Cs_loop (fun m' T' H' => T' 0 = dp p ∧ T' 2 = I ep ∧ T' 3 = I sq ∧ T' 5 = .ptr (some (H.n, 0)) ∧ T' 20 = zs ∧ T' 21 = I d.zones.length ∧ T' 22 = I z ∧ T' 11 = I z ∧ T' 28 = I zo.point ∧ T' 29 = I 0 ∧ T' 10 = .slc none 0 0 0 ∧ Fr No H1 H') (n := 0) ?_ ?_
      · simp (disch := omega) only [upd_ne, upd_same, t0, t2, t3, t5, t20, t21, t22, t10]
        refine ⟨(by first | trivial | rfl), (by first | trivial | rfl), (by first | trivial | rfl), (by first | trivial | rfl), (by first | trivial | rfl), (by first | trivial | rfl), (by first | trivial | rfl), (by first | trivial | rfl), (by first | trivial | rfl), (by first | trivial | rfl), (by first | trivial | rfl), by (refine ⟨by (try simp only []); omega, fun b hb hm => ?_⟩; simp (disch := first | omega | assumption) only [f2.at, upd_ne])⟩
      · rintro m' T' H3 ⟨k0, k2, k3, k5, k20, k21, k22, k11, k28, k29, k10, f3⟩
        have q3 := f3.n
        have hr3 := h1.frNo f3
        simp (disch := first | omega | assumption | exact id rfl | (simp only [okw_wr]; assumption)) only [k0, k2, k3, k5, k20, k21, k22, k11, k28, k29, k10, RC, RO, RM, RT, AV.cells, Option.map_some, AV.one, AV.all1, i64_wrap, u64_wrap, u32_wrap, u8_wrap, Nat.zero_add, Nat.add_zero, Nat.reduceEqDiff, Nat.reduceLeDiff, Nat.reduceAdd, Nat.left_eq_add, Nat.add_eq_left, Nat.add_left_cancel_iff, reduceIte, eq_self, decide_true, decide_false, Bool.not_true, Bool.not_false, reduceCtorEq, List.getElem?_cons_zero, List.getElem?_cons_succ, List.set_cons_zero, List.set_cons_succ]
        refine Is_split (fun hb2 => ?_) (fun hb2 => ?_)
        · have hoo := of_decide_eq_true hb2
          simp only [hb2]
          have hfa : fillA [AV.int .i64 0, .int .i64 0] [(0, 1, I z), (1, 1, I 0)] = some (aC ⟨z, 0⟩) := rfl
          simp (disch := first | omega | assumption | exact id rfl | (simp only [okw_wr]; assumption)) only [k0, k2, k3, k5, k20, k21, k22, k11, k28, k29, k10, hfa, RC, RO, RM, RT, AV.cells, Option.map_some, AV.one, AV.all1, i64_wrap, u64_wrap, u32_wrap, u8_wrap, Nat.zero_add, Nat.add_zero, Nat.reduceEqDiff, Nat.reduceLeDiff, Nat.reduceAdd, Nat.left_eq_add, Nat.add_eq_left, Nat.add_left_cancel_iff, reduceIte, eq_self, decide_true, decide_false, Bool.not_true, Bool.not_false, reduceCtorEq, List.getElem?_cons_zero, List.getElem?_cons_succ, List.set_cons_zero, List.set_cons_succ]
          have f4 : Fr No H3 ⟨upd (upd H3.g H3.n (.cells [AV.int .i64 0, .int .i64 0] 67 false)) H3.n (.cells (aC ⟨z, 0⟩) 67 false), H3.n + 1⟩ := by (refine ⟨by (try simp only []); omega, fun b hb hm => ?_⟩; simp (disch := first | omega | assumption) only [upd_ne])
          refine (c_dev_Read (a := ⟨z, 0⟩) (hr3.frNo f4) hi).mono ?_
          have hdr : dread d ⟨z, 0⟩ = (d, Bytes.zero 64, 2) := by unfold dread; rw [if_pos hd]
          rw [hdr]
          rintro _ H4 ⟨rfl, -, f5⟩
          have f5 := f5 (.inr hd)
          have q5 := f5.le
          have tp := bC_len (Bytes.zero 64)
          have tp1 := bC_one (Bytes.zero 64)
          have tp2 : (List.replicate 64 (AV.int .u8 0)).length = (bC (Bytes.zero 64)).length := by rw [bC_len, List.length_replicate]
          have hne : decide ((2 : Int) ≠ 0) = true := rfl
          simp (disch := first | omega | assumption | exact id rfl | (simp only [okw_wr]; assumption)) only [k0, k2, k3, k5, k20, k21, k22, k11, k28, k29, k10, hne, RC, RO, RM, RT, AV.cells, Option.map_some, AV.one, AV.all1, i64_wrap, u64_wrap, u32_wrap, u8_wrap, Nat.zero_add, Nat.add_zero, Nat.reduceEqDiff, Nat.reduceLeDiff, Nat.reduceAdd, Nat.left_eq_add, Nat.add_eq_left, Nat.add_left_cancel_iff, reduceIte, eq_self, decide_true, decide_false, Bool.not_true, Bool.not_false, reduceCtorEq, List.getElem?_cons_zero, List.getElem?_cons_succ, List.set_cons_zero, List.set_cons_succ]
          refine ⟨(by first | trivial | rfl), ?_⟩
          have q01 := f01.n
          (refine ⟨by (try simp only []); omega, fun b hb hm => ?_⟩; simp (disch := first | omega | assumption) only [f5.old, f3.at, f01.at, upd_ne])
        · simp only [hb2]
          simp (disch := first | omega | assumption | exact id rfl | (simp only [okw_wr]; assumption)) only [k0, k2, k3, k5, k20, k21, k22, k11, k28, k29, k10, RC, RO, RM, RT, AV.cells, Option.map_some, AV.one, AV.all1, i64_wrap, u64_wrap, u32_wrap, u8_wrap, Nat.zero_add, Nat.add_zero, Nat.reduceEqDiff, Nat.reduceLeDiff, Nat.reduceAdd, Nat.left_eq_add, Nat.add_eq_left, Nat.add_left_cancel_iff, reduceIte, eq_self, decide_true, decide_false, Bool.not_true, Bool.not_false, reduceCtorEq, List.getElem?_cons_zero, List.getElem?_cons_succ, List.set_cons_zero, List.set_cons_succ]
          exact ⟨m - 1, by omega, z + 1, by omega, (by first | trivial | rfl), (by first | trivial | rfl), (by first | trivial | rfl), (by first | trivial | rfl), (by first | trivial | rfl), (by first | trivial | rfl), by rw [Int.natCast_succ], (by first | trivial | rfl), f3⟩
    · have hzz := of_decide_eq_false hb
      simp only [hb]
      simp (disch := first | omega | assumption | exact id rfl | (simp only [okw_wr]; assumption)) only [t0, t2, t3, t5, t20, t21, t22, t10, RC, RO, RM, RT, AV.cells, Option.map_some, AV.one, AV.all1, i64_wrap, u64_wrap, u32_wrap, u8_wrap, Nat.zero_add, Nat.add_zero, Nat.reduceEqDiff, Nat.reduceLeDiff, Nat.reduceAdd, Nat.left_eq_add, Nat.add_eq_left, Nat.add_left_cancel_iff, reduceIte, eq_self, decide_true, decide_false, Bool.not_true, Bool.not_false, reduceCtorEq, List.getElem?_cons_zero, List.getElem?_cons_succ, List.set_cons_zero, List.set_cons_succ]
      refine (c_sort (e := 54) (lo := H2.n) (Own.nil fC_len fC_one (Nat.le_refl _)) (by decide) (by rw [sortF_nil])).mono ?_
      rintro _ H3 ⟨rfl, o3, f3⟩
      have f3' : Fr No H2 H3 := ⟨f3.n, fun b hb _ => f3.same b hb (fun h => by have := h.2; omega)⟩
      simp (disch := first | omega | assumption | exact id rfl | (simp only [okw_wr]; assumption)) only [t0, t2, t3, t5, t20, t21, t22, t10, RC, RO, RM, RT, AV.cells, Option.map_some, AV.one, AV.all1, i64_wrap, u64_wrap, u32_wrap, u8_wrap, Nat.zero_add, Nat.add_zero, Nat.reduceEqDiff, Nat.reduceLeDiff, Nat.reduceAdd, Nat.left_eq_add, Nat.add_eq_left, Nat.add_left_cancel_iff, reduceIte, eq_self, decide_true, decide_false, Bool.not_true, Bool.not_false, reduceCtorEq, List.getElem?_cons_zero, List.getElem?_cons_succ, List.set_cons_zero, List.set_cons_succ]
      refine (c_scan_down (h1.frNo (f2.trans f3'))).mono ?_
      rintro _ H4 ⟨rfl, f4⟩
      simp (disch := first | omega | assumption | exact id rfl | (simp only [okw_wr]; assumption)) only [RC, RO, RM, RT, AV.cells, Option.map_some, AV.one, AV.all1, i64_wrap, u64_wrap, u32_wrap, u8_wrap, Nat.zero_add, Nat.add_zero, Nat.reduceEqDiff, Nat.reduceLeDiff, Nat.reduceAdd, Nat.left_eq_add, Nat.add_eq_left, Nat.add_left_cancel_iff, reduceIte, eq_self, decide_true, decide_false, Bool.not_true, Bool.not_false, reduceCtorEq, List.getElem?_cons_zero, List.getElem?_cons_succ, List.set_cons_zero, List.set_cons_succ]
      exact ⟨by rw [hd]; rfl, f01.trans (f2.trans (f3'.trans f4))⟩
end Go.Eng
