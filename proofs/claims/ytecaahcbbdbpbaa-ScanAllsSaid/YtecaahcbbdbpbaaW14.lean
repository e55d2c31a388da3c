/-
  G11: Walks of scan.
  G10: Walks of scan: the comparison, the sort.
  G9: Walks of dev: Write, Read, New.
-/
import Derived.Test.YtecaahcbbdbpbaaW13
namespace Go.Eng
open Wr
set_option linter.unusedVariables false
set_option linter.unusedSimpArgs false
theorem c_dev_Write {p : DP} {d : Dev} {a : At} {pg : Page} {H : AH} (h : DevAt H p d) (hi : d.illegal ≤ 1000000000) (hc : d.cached.length ≤ 1000000) :
    Acalls P0 S0 21 [dp p, .agg (aC a), .agg (bC pg)] H fun v H' => ∃ p', v = I (dwrite d a pg).2 ∧ DStep No H p H' p' (dwrite d a pg).1 := by
  refine Acalls.go m21 rfl ?_
  rw [slots0_3]; unfold b21
  obtain ⟨l1, l2, l3, l4, l5, l6⟩ := h.lt
  simp (disch := first | omega | assumption | exact id rfl | (simp only [okw_wr]; assumption)) only [h.blk, RD, RC, RO, RM, RT, AV.cells, Option.map_some, AV.one, AV.all1, i64_wrap, u64_wrap, u32_wrap, u8_wrap, Nat.zero_add, Nat.add_zero, Nat.reduceEqDiff, Nat.reduceLeDiff, Nat.reduceAdd, Nat.left_eq_add, Nat.add_eq_left, Nat.add_left_cancel_iff, reduceIte, eq_self, decide_true, decide_false, Bool.not_true, Bool.not_false, reduceCtorEq, List.getElem?_cons_zero, List.getElem?_cons_succ, List.set_cons_zero, List.set_cons_succ]
  have hb0 : Fr No H ⟨upd (upd (upd H.g H.n (.cells [dp p] 27 false)) (H.n + 1) (.cells (aC a) 67 false)) (H.n + 1 + 1) (.cells (bC pg) 61 false), H.n + 1 + 1 + 1⟩ := by (refine ⟨by (try simp only []); omega, fun b hb hm => ?_⟩; simp (disch := first | omega | assumption) only [upd_ne])
  have h0 := h.frNo hb0
  refine (c_zone_Write h.gok h0.zs h0.lt.2.2.2.2.1 h.zl).mono ?_
  rintro _ H1 ⟨l, rfl, o1, f1⟩
  dsimp only at o1
  have q1 := f1.le
  have h1 := h0.frNo f1
  have hz := h.zl8
  have hlen : (zwrite d.g d.zones a).1.length = (zones d.g).toNat := by
    rw [← h.zl]; unfold zwrite; split
    · rfl
    · simp only []; split
      · rfl
      · split
        · rfl
        · split
          · rfl
          · split
            · rfl
            · simp [zput]
  have hl := o1.lt (by omega)
  have kd : H1.g H.n = .cells [dp p] 27 false := by simp (disch := omega) only [f1.old, upd_ne, upd_same]
  have ka : H1.g (H.n + 1) = .cells (aC a) 67 false := by simp (disch := omega) only [f1.old, upd_ne, upd_same]
  have kp : H1.g (H.n + 1 + 1) = .cells (bC pg) 61 false := by simp (disch := omega) only [f1.old, upd_ne, upd_same]
  have nm : ∀ c, p.mut c → c < H.n := fun c hc => by rcases hc with e | e | e | e | e <;> omega
  simp (disch := first | omega | assumption | exact id rfl | (simp only [okw_wr]; assumption)) only [kd, RC, RO, RM, RT, AV.cells, Option.map_some, AV.one, AV.all1, i64_wrap, u64_wrap, u32_wrap, u8_wrap, Nat.zero_add, Nat.add_zero, Nat.reduceEqDiff, Nat.reduceLeDiff, Nat.reduceAdd, Nat.left_eq_add, Nat.add_eq_left, Nat.add_left_cancel_iff, reduceIte, eq_self, decide_true, decide_false, Bool.not_true, Bool.not_false, reduceCtorEq, List.getElem?_cons_zero, List.getElem?_cons_succ, List.set_cons_zero, List.set_cons_succ]
  refine (c_dev_command (fun d => { d with now := mset d.now a pg, cached := d.cached ++ [(a, pg)] }) h1 hi o1.sl (by omega) (fun hm => by have := nm _ hm; omega) (by omega) hlen ?_).mono ?_
  · intro hdn he H2 hn2 hk2 hat
    have := c_dev_Write1 (pg := pg) (a := a) (bp := H.n + 1 + 1) (bd := H.n) (ba := H.n + 1) hat ((hk2 _ (by omega)).trans kp) ((hk2 _ (by omega)).trans kd) ((hk2 _ (by omega)).trans ka) ⟨⟨l1, l2, l3, l4, l6⟩, by omega, by omega, by omega, by show H.n + 1 + 1 < sb l; omega⟩ hc
    exact this
  · rintro v H3 ⟨p', rfl, s3⟩
    simp (disch := first | omega | assumption | exact id rfl | (simp only [okw_wr]; assumption)) only [RC, RO, RM, RT, AV.cells, Option.map_some, AV.one, AV.all1, i64_wrap, u64_wrap, u32_wrap, u8_wrap, Nat.zero_add, Nat.add_zero, Nat.reduceEqDiff, Nat.reduceLeDiff, Nat.reduceAdd, Nat.left_eq_add, Nat.add_eq_left, Nat.add_left_cancel_iff, reduceIte, eq_self, decide_true, decide_false, Bool.not_true, Bool.not_false, reduceCtorEq, List.getElem?_cons_zero, List.getElem?_cons_succ, List.set_cons_zero, List.set_cons_succ]
    have e : dcmd (fun d => { d with now := mset d.now a pg, cached := d.cached ++ [(a, pg)] }) d (zwrite d.g d.zones a).1 (zwrite d.g d.zones a).2 = dwrite d a pg := rfl
    rw [e] at s3 ⊢
    exact ⟨p', rfl, s3.pre (hb0.trans f1) (fun c hc => by omega)⟩
theorem look_page {M : List (At × Page)} {g : Nat → AB} {r : Nat} (h : Mp g aK pC r M) {a : At} : alook g [.i, .i] true (.agg (bC (Bytes.zero 64))) false (.map (some r)) (.agg (aC a)) = some (.agg (bC ((mget M a).getD (Bytes.zero 64)))) := by
  have := h.look key_a (z := .agg (bC (Bytes.zero 64))) (k := a)
  rw [show (AV.agg (aC a)) = aK a from rfl, this]
  cases mget M a <;> rfl
/-- what isn't old may change -/
theorem DStep.loc {X : Nat → Prop} {H H1 H' : AH} {p : DP} {d0 d' : Dev} (hp : DevAt H p d0) (h : DStep X H p H1 p d') (hn : H1.n ≤ H'.n) (hb : ∀ b, b < H.n → H'.g b = H1.g b) : DStep X H p H' p d' :=
  ⟨h.at'.fr hn (fun c hc _ => hb c (hp.has_lt hc)), h.b, h.fm, h.fz, ⟨Nat.le_trans h.fr.n hn, fun b hb1 hm => (hb b hb1).trans (h.fr.same b hb1 hm)⟩⟩
theorem c_dev_Read {p : DP} {d : Dev} {a : At} {H : AH} (h : DevAt H p d) (hi : d.illegal ≤ 1000000000) :
    Acalls P0 S0 22 [dp p, .agg (aC a)] H fun v H' => v = .tup [.agg (bC (dread d a).2.1), I (dread d a).2.2] ∧ DStep No H p H' p (dread d a).1 ∧ (zread d.g d.zones a = 0 ∨ d.down = true → Fr No H H') := by
  refine Acalls.go m22 rfl ?_
  rw [slots0_2]; unfold b22
  obtain ⟨l1, l2, l3, l4, l5, l6⟩ := h.lt
  have tz := bC_len (Bytes.zero 64)
  have tz1 := bC_one (Bytes.zero 64)
  generalize hres : dread d a = res
  (simp (disch := first | omega | assumption | exact id rfl | (simp only [okw_wr]; assumption)) only [h.blk, RD, z_page, fill_nil, RC, RO, RM, RT, AV.cells, Option.map_some, AV.one, AV.all1, i64_wrap, u64_wrap, u32_wrap, u8_wrap, Nat.zero_add, Nat.add_zero, Nat.reduceEqDiff, Nat.reduceLeDiff, Nat.reduceAdd, Nat.left_eq_add, Nat.add_eq_left, Nat.add_left_cancel_iff, reduceIte, eq_self, decide_true, decide_false, Bool.not_true, Bool.not_false, reduceCtorEq, List.getElem?_cons_zero, List.getElem?_cons_succ, List.set_cons_zero, List.set_cons_succ]; repeat' (first | (refine Gs_split (fun hb => ?_) (fun hb => ?_) <;> (simp only [hb]; (try simp only [decide_eq_true_eq, decide_eq_false_iff_not, Bool.not_eq_true', Bool.not_eq_false', ne_eq, Decidable.not_not, not_true_eq_false] at hb); (try simp (disch := first | omega | assumption | exact id rfl | (simp only [okw_wr]; assumption)) only [h.blk, RD, z_page, fill_nil, RC, RO, RM, RT, AV.cells, Option.map_some, AV.one, AV.all1, i64_wrap, u64_wrap, u32_wrap, u8_wrap, Nat.zero_add, Nat.add_zero, Nat.reduceEqDiff, Nat.reduceLeDiff, Nat.reduceAdd, Nat.left_eq_add, Nat.add_eq_left, Nat.add_left_cancel_iff, reduceIte, eq_self, decide_true, decide_false, Bool.not_true, Bool.not_false, reduceCtorEq, List.getElem?_cons_zero, List.getElem?_cons_succ, List.set_cons_zero, List.set_cons_succ]))) | (refine Is_split (fun hb => ?_) (fun hb => ?_) <;> (simp only [hb]; (try simp only [decide_eq_true_eq, decide_eq_false_iff_not, Bool.not_eq_true', Bool.not_eq_false', ne_eq, Decidable.not_not, not_true_eq_false] at hb); (try simp (disch := first | omega | assumption | exact id rfl | (simp only [okw_wr]; assumption)) only [h.blk, RD, z_page, fill_nil, RC, RO, RM, RT, AV.cells, Option.map_some, AV.one, AV.all1, i64_wrap, u64_wrap, u32_wrap, u8_wrap, Nat.zero_add, Nat.add_zero, Nat.reduceEqDiff, Nat.reduceLeDiff, Nat.reduceAdd, Nat.left_eq_add, Nat.add_eq_left, Nat.add_left_cancel_iff, reduceIte, eq_self, decide_true, decide_false, Bool.not_true, Bool.not_false, reduceCtorEq, List.getElem?_cons_zero, List.getElem?_cons_succ, List.set_cons_zero, List.set_cons_succ]))) | (refine Dg_split (fun hb => ?_) (fun hb => ?_) <;> (simp only [hb]; (try simp only [decide_eq_true_eq, decide_eq_false_iff_not, Bool.not_eq_true', Bool.not_eq_false', ne_eq, Decidable.not_not, not_true_eq_false] at hb); (try simp (disch := first | omega | assumption | exact id rfl | (simp only [okw_wr]; assumption)) only [h.blk, RD, z_page, fill_nil, RC, RO, RM, RT, AV.cells, Option.map_some, AV.one, AV.all1, i64_wrap, u64_wrap, u32_wrap, u8_wrap, Nat.zero_add, Nat.add_zero, Nat.reduceEqDiff, Nat.reduceLeDiff, Nat.reduceAdd, Nat.left_eq_add, Nat.add_eq_left, Nat.add_left_cancel_iff, reduceIte, eq_self, decide_true, decide_false, Bool.not_true, Bool.not_false, reduceCtorEq, List.getElem?_cons_zero, List.getElem?_cons_succ, List.set_cons_zero, List.set_cons_succ])))))
  · have e : dread d a = (d, Bytes.zero 64, 2) := by unfold dread; rw [if_pos hb]
    rw [← hres, e]
    refine ⟨rfl, DStep.pre (X := No) (H := ⟨_, _⟩) ?_ (DStep.refl (h.frNo ?_)) (fun c hc => hc.elim), fun _ => ?_⟩
    · (refine ⟨by (try simp only []); omega, fun b hb hm => ?_⟩; simp (disch := first | omega | assumption) only [upd_ne])
    · (refine ⟨by (try simp only []); omega, fun b hb hm => ?_⟩; simp (disch := first | omega | assumption) only [upd_ne])
    · (refine ⟨by (try simp only []); omega, fun b hb hm => ?_⟩; simp (disch := first | omega | assumption) only [upd_ne])
  · have hdn : d.down = false := by simpa using hb
    have hb0 : Fr No H ⟨upd (upd H.g H.n (.cells (aC a) 67 false)) (H.n + 1) (.cells (bC (Bytes.zero 64)) 61 false), H.n + 1 + 1⟩ := by (refine ⟨by (try simp only []); omega, fun b hb hm => ?_⟩; simp (disch := first | omega | assumption) only [upd_ne])
    have h0 := h.frNo hb0
    refine (c_zone_Read (L := d.zones) h.gok h0.zs.ro (by show sb p.vz < H.n + 1 + 1; omega) h.zl).mono ?_
    rintro _ Hq ⟨rfl, -⟩
    refine ⟨rfl, ?_⟩
    simp (disch := first | omega | assumption | exact id rfl | (simp only [okw_wr]; assumption)) only [h.blk, RD, RC, RO, RM, RT, AV.cells, Option.map_some, AV.one, AV.all1, i64_wrap, u64_wrap, u32_wrap, u8_wrap, Nat.zero_add, Nat.add_zero, Nat.reduceEqDiff, Nat.reduceLeDiff, Nat.reduceAdd, Nat.left_eq_add, Nat.add_eq_left, Nat.add_left_cancel_iff, reduceIte, eq_self, decide_true, decide_false, Bool.not_true, Bool.not_false, reduceCtorEq, List.getElem?_cons_zero, List.getElem?_cons_succ, List.set_cons_zero, List.set_cons_succ]
    refine (c_dev_check (X := No) h0 hi).mono ?_
    rintro _ H1 ⟨rfl, s1, e1⟩
    have k1 : H1.g (H.n + 1) = .cells (bC (Bytes.zero 64)) 61 false := by
      rw [s1.keep ⟨by show H.n + 1 < H.n + 1 + 1; omega, by rintro (e | e | e | e | e) <;> omega⟩]; simp (disch := omega) only [upd_ne, upd_same]
    have k0 : H1.g H.n = .cells (aC a) 67 false := by
      rw [s1.keep ⟨by show H.n < H.n + 1 + 1; omega, by rintro (e | e | e | e | e) <;> omega⟩]; simp (disch := omega) only [upd_ne, upd_same]
    have q1 : H.n + 1 + 1 ≤ H1.n := s1.fr.n
    (simp (disch := first | omega | assumption | exact id rfl | (simp only [okw_wr]; assumption)) only [k1, z_page, fill_nil, RC, RO, RM, RT, AV.cells, Option.map_some, AV.one, AV.all1, i64_wrap, u64_wrap, u32_wrap, u8_wrap, Nat.zero_add, Nat.add_zero, Nat.reduceEqDiff, Nat.reduceLeDiff, Nat.reduceAdd, Nat.left_eq_add, Nat.add_eq_left, Nat.add_left_cancel_iff, reduceIte, eq_self, decide_true, decide_false, Bool.not_true, Bool.not_false, reduceCtorEq, List.getElem?_cons_zero, List.getElem?_cons_succ, List.set_cons_zero, List.set_cons_succ]; repeat' (first | (refine Gs_split (fun hb => ?_) (fun hb => ?_) <;> (simp only [hb]; (try simp only [decide_eq_true_eq, decide_eq_false_iff_not, Bool.not_eq_true', Bool.not_eq_false', ne_eq, Decidable.not_not, not_true_eq_false] at hb); (try simp (disch := first | omega | assumption | exact id rfl | (simp only [okw_wr]; assumption)) only [k1, z_page, fill_nil, RC, RO, RM, RT, AV.cells, Option.map_some, AV.one, AV.all1, i64_wrap, u64_wrap, u32_wrap, u8_wrap, Nat.zero_add, Nat.add_zero, Nat.reduceEqDiff, Nat.reduceLeDiff, Nat.reduceAdd, Nat.left_eq_add, Nat.add_eq_left, Nat.add_left_cancel_iff, reduceIte, eq_self, decide_true, decide_false, Bool.not_true, Bool.not_false, reduceCtorEq, List.getElem?_cons_zero, List.getElem?_cons_succ, List.set_cons_zero, List.set_cons_succ]))) | (refine Is_split (fun hb => ?_) (fun hb => ?_) <;> (simp only [hb]; (try simp only [decide_eq_true_eq, decide_eq_false_iff_not, Bool.not_eq_true', Bool.not_eq_false', ne_eq, Decidable.not_not, not_true_eq_false] at hb); (try simp (disch := first | omega | assumption | exact id rfl | (simp only [okw_wr]; assumption)) only [k1, z_page, fill_nil, RC, RO, RM, RT, AV.cells, Option.map_some, AV.one, AV.all1, i64_wrap, u64_wrap, u32_wrap, u8_wrap, Nat.zero_add, Nat.add_zero, Nat.reduceEqDiff, Nat.reduceLeDiff, Nat.reduceAdd, Nat.left_eq_add, Nat.add_eq_left, Nat.add_left_cancel_iff, reduceIte, eq_self, decide_true, decide_false, Bool.not_true, Bool.not_false, reduceCtorEq, List.getElem?_cons_zero, List.getElem?_cons_succ, List.set_cons_zero, List.set_cons_succ]))) | (refine Dg_split (fun hb => ?_) (fun hb => ?_) <;> (simp only [hb]; (try simp only [decide_eq_true_eq, decide_eq_false_iff_not, Bool.not_eq_true', Bool.not_eq_false', ne_eq, Decidable.not_not, not_true_eq_false] at hb); (try simp (disch := first | omega | assumption | exact id rfl | (simp only [okw_wr]; assumption)) only [k1, z_page, fill_nil, RC, RO, RM, RT, AV.cells, Option.map_some, AV.one, AV.all1, i64_wrap, u64_wrap, u32_wrap, u8_wrap, Nat.zero_add, Nat.add_zero, Nat.reduceEqDiff, Nat.reduceLeDiff, Nat.reduceAdd, Nat.left_eq_add, Nat.add_eq_left, Nat.add_left_cancel_iff, reduceIte, eq_self, decide_true, decide_false, Bool.not_true, Bool.not_false, reduceCtorEq, List.getElem?_cons_zero, List.getElem?_cons_succ, List.set_cons_zero, List.set_cons_succ])))))
    · have e : dread d a = (dcheck d (zread d.g d.zones a), Bytes.zero 64, zread d.g d.zones a) := by unfold dread; rw [if_neg (by rw [hdn]; decide), if_pos hb]
      rw [← hres, e]
      refine ⟨rfl, ?_, fun h1 => by rcases h1 with h1 | h1 <;> simp_all⟩
      have s2 := s1.pre hb0 (fun c hc => hc.elim)
      exact s2.loc h (Nat.le_refl _) (fun b hb => by simp (disch := omega) only [upd_ne])
    · have hz : zread d.g d.zones a = 0 := by simpa using hb
      have e : dread d a = (d, (mget d.now a).getD (Bytes.zero 64), 0) := by unfold dread; rw [if_neg (by rw [hdn]; decide), if_neg (by rw [hz]; decide)]
      have e1' := e1 hz
      subst e1'
      have tz2 := bC_len ((mget d.now a).getD (Bytes.zero 64))
      have tz3 := bC_one ((mget d.now a).getD (Bytes.zero 64))
      have tz4 : (bC (Bytes.zero 64)).length = (bC ((mget d.now a).getD (Bytes.zero 64))).length := by rw [bC_len, bC_len]
      have hmn := h0.mn
      dsimp only at hmn
      simp (disch := first | omega | assumption | exact id rfl | (simp only [okw_wr]; assumption)) only [h.blk, RD, z_page, look_page hmn, RC, RO, RM, RT, AV.cells, Option.map_some, AV.one, AV.all1, i64_wrap, u64_wrap, u32_wrap, u8_wrap, Nat.zero_add, Nat.add_zero, Nat.reduceEqDiff, Nat.reduceLeDiff, Nat.reduceAdd, Nat.left_eq_add, Nat.add_eq_left, Nat.add_left_cancel_iff, reduceIte, eq_self, decide_true, decide_false, Bool.not_true, Bool.not_false, reduceCtorEq, List.getElem?_cons_zero, List.getElem?_cons_succ, List.set_cons_zero, List.set_cons_succ]
      rw [← hres, e]
      refine ⟨rfl, ?_, fun _ => by (refine ⟨by (try simp only []); omega, fun b hb hm => ?_⟩; simp (disch := first | omega | assumption) only [upd_ne])⟩
      have hcd : dcheck d (zread d.g d.zones a) = d := by unfold dcheck; rw [hz]; rfl
      rw [hcd] at s1
      exact (s1.pre hb0 (fun c hc => hc.elim)).loc h (Nat.le_refl _) (fun b hb => by simp (disch := omega) only [upd_ne])
theorem fill_dev' {g : Geom} {vz : AV} {a b c : Nat} (h : vz.one = true) : fillA [AV.int .i64 0, .int .i64 0, .int .i64 0, .int .i64 0, .int .i64 0, .slc none 0 0 0, .map none, .map none, .map none, .slc none 0 0 0, .int .i64 0, .bool false, .int .i64 0] [(0, 5, .agg (gC g)), (5, 1, vz), (6, 1, .map (some a)), (7, 1, .map (some b)), (8, 1, .map (some c)), (10, 1, .int .i64 (-1))] = some (dC g vz a b c (.slc none 0 0 0) (-1) false 0) := by
  have hc := one_cells h
  simp only [fillA, hc, gC, dC]
  simp only [AV.cells]
  simp
theorem c_dev_New {g : Geom} {H : AH} (h : GOk g) (h0 : 0 < H.n) : Acalls P0 S0 18 [.agg (gC g)] H fun v H' => ∃ p, v = dp p ∧ DevAt H' p (dnew g) ∧ (∀ c, p.has c → H.n ≤ c) ∧ Fr No H H' := by
  refine Acalls.go m18 rfl ?_
  rw [slots0_1]; unfold b18
  simp (disch := first | omega | assumption | exact id rfl | (simp only [okw_wr]; assumption)) only [true_and, RC, RO, RM, RT, AV.cells, Option.map_some, AV.one, AV.all1, i64_wrap, u64_wrap, u32_wrap, u8_wrap, Nat.zero_add, Nat.add_zero, Nat.reduceEqDiff, Nat.reduceLeDiff, Nat.reduceAdd, Nat.left_eq_add, Nat.add_eq_left, Nat.add_left_cancel_iff, reduceIte, eq_self, decide_true, decide_false, Bool.not_true, Bool.not_false, reduceCtorEq, List.getElem?_cons_zero, List.getElem?_cons_succ, List.set_cons_zero, List.set_cons_succ]
  refine (c_zone_New h).mono ?_
  rintro vz H1 ⟨o1, f1⟩
  dsimp only at o1
  have q1 := f1.le
  have hz : 8 ≤ zones g ∧ zones g ≤ 64 := by have := h.z; have := h.c; have := h.s; unfold zones; omega
  have hzl : (znew g).length = (zones g).toNat := by have := h.c; have := h.s; simp [znew, zones]; omega
  have z1 := o1.lt (by omega)
  have one1 := o1.sl.one1
  simp (disch := first | omega | assumption | exact id rfl | (simp only [okw_wr]; assumption)) only [true_and, fill_dev' one1, f1.old, RC, RO, RM, RT, AV.cells, Option.map_some, AV.one, AV.all1, i64_wrap, u64_wrap, u32_wrap, u8_wrap, Nat.zero_add, Nat.add_zero, Nat.reduceEqDiff, Nat.reduceLeDiff, Nat.reduceAdd, Nat.left_eq_add, Nat.add_eq_left, Nat.add_left_cancel_iff, reduceIte, eq_self, decide_true, decide_false, Bool.not_true, Bool.not_false, reduceCtorEq, List.getElem?_cons_zero, List.getElem?_cons_succ, List.set_cons_zero, List.set_cons_succ]
  refine ⟨⟨H.n + 1 + 3, vz, H.n + 1, H.n + 1 + 1, H.n + 1 + 2, .slc none 0 0 0⟩, rfl, ?_, ?_, ?_⟩
  · refine ⟨upd_same _ _ _, h, o1.sl.fr (by simp (disch := omega) only [upd_ne]), hzl, Mp.mk0 (by simp (disch := omega) only [upd_ne, upd_same]), Mp.mk0 (by simp (disch := omega) only [upd_ne, upd_same]), Mp.mk0 (by simp (disch := omega) only [upd_ne, upd_same]), Own.nil wC_len wC_one (by show 1 ≤ H1.n; omega), ?_, ?_, ?_, ?_, ?_, ?_⟩
    · refine ⟨?_, ?_, ?_, ?_, ?_, ?_⟩ <;> show _ < H1.n
      · show H.n + 1 + 3 < H1.n; omega
      · show H.n + 1 < H1.n; omega
      · show H.n + 1 + 1 < H1.n; omega
      · show H.n + 1 + 2 < H1.n; omega
      · show sb vz < H1.n; omega
      · show 0 < H1.n; omega
    · exact ⟨by show 0 < H.n + 1 + 3; omega, by show 0 < H.n + 1; omega, by show 0 < H.n + 1 + 1; omega, by show 0 < H.n + 1 + 2; omega, by show 0 < sb vz; omega⟩
    · exact ⟨by show H.n + 1 + 3 ≠ H.n + 1; omega, by show H.n + 1 + 3 ≠ H.n + 1 + 1; omega, by show H.n + 1 + 3 ≠ H.n + 1 + 2; omega, by show H.n + 1 ≠ H.n + 1 + 1; omega, by show H.n + 1 ≠ H.n + 1 + 2; omega, by show H.n + 1 + 1 ≠ H.n + 1 + 2; omega,
        by show H.n + 1 + 3 ≠ 0; omega, by show H.n + 1 ≠ 0; omega, by show H.n + 1 + 1 ≠ 0; omega, by show H.n + 1 + 2 ≠ 0; omega⟩
    · rintro (e | e | e | e | e)
      · have : sb vz = H.n + 1 + 3 := e; omega
      · have : sb vz = H.n + 1 := e; omega
      · have : sb vz = H.n + 1 + 1 := e; omega
      · have : sb vz = H.n + 1 + 2 := e; omega
      · have : sb vz = 0 := e.1; omega
    · show -9223372036854775808 ≤ (-1 : Int) ∧ (-1 : Int) ≤ 9223372036854775807; omega
    · show (0 : Int) ≤ 0; omega
  · rintro c ((e | e | e | e | e) | e)
    · rw [e]; show H.n ≤ H.n + 1 + 3; omega
    · rw [e]; show H.n ≤ H.n + 1; omega
    · rw [e]; show H.n ≤ H.n + 1 + 1; omega
    · rw [e]; show H.n ≤ H.n + 1 + 2; omega
    · have e1 : c = 0 := e.1
      have := e.2; omega
    · rw [e]; show H.n ≤ sb vz; omega
  · (refine ⟨by (try simp only []); omega, fun b hb hm => ?_⟩; simp (disch := first | omega | assumption) only [f1.old, upd_ne])
end Go.Eng
namespace Go.Eng
open Wr
set_option linter.unusedVariables false
set_option linter.unusedSimpArgs false
/-- a function that is known by a summary -/
theorem Acalls.sum {P : Program} {S : Sums} {f : FuncId} {args : List AV} {H : AH} {Q : AV → AH → Prop} {s : List AV → AH → Option (AV × AH)} {v : AV} {H' : AH} (hs : S.sum f = some s) (h : s args H = some (v, H')) (hq : Q v H') : Acalls P S f args H Q :=
  ⟨1, v, H', by simp only [acall, hs, h], hq⟩
theorem bC_inj {n : Nat} {a b : Bytes n} (h : bC a = bC b) : a = b := by
  have := bC_eqs a b
  rw [h, bC_eqs b b] at this
  simpa using this.symm
theorem rC_inj {a b : Rec} (h : rC a = rC b) : a = b := by
  cases a; cases b
  simp only [rC, List.cons.injEq] at h
  obtain ⟨h1, h2, h3, h4, h5, h6⟩ := h
  have := bC_inj h6
  cases h1; cases h2; cases h3; cases h4; cases h5; cases this; rfl
theorem fC_inj {a b : Wr.Found} (h : fC a = fC b) : a = b := by
  cases a; cases b
  simp only [fC, List.cons.injEq] at h
  obtain ⟨h1, h2⟩ := h
  have := rC_inj h2
  cases h1; cases this; rfl
theorem flat_inj {α : Type} {enc : α → List AV} {k : Nat} (hk : ∀ x, (enc x).length = k) (hi : ∀ x y, enc x = enc y → x = y) : ∀ {L M : List α}, L.length = M.length → L.flatMap enc = M.flatMap enc → L = M
  | [], [], _, _ => rfl
  | [], _ :: _, h, _ => by simp at h
  | _ :: _, [], h, _ => by simp at h
  | a :: L, b :: M, h, e => by
    simp only [List.flatMap_cons] at e
    have := List.append_inj e (by rw [hk, hk])
    rw [hi _ _ this.1, flat_inj hk hi (by simpa using h) this.2]
theorem c_sort {v : AV} {L : List Wr.Found} {lo : Nat} {e : TypeId} {H : AH} (h : Own H lo 38 e fC v L) (hl : L.length < 1000000) (hs : (sortF L).length = L.length) :
    Acalls P0 S0 25 [v, .fn 26 [] []] H fun r H' => r = .tup [] ∧ Own H' lo 38 e fC v (sortF L) ∧ Fr (fun b => b = sb v ∧ lo ≤ b) H H' := by
  rcases h.cells with ⟨rfl, rfl⟩ | ⟨c, sl, cs, h1, h2, h3, h4, h5, h6, h7, h8⟩
  · have : sortF [] = [] := List.eq_nil_of_length_eq_zero hs
    exact Acalls.sum (s := sortSum 26) rfl (v := .tup []) (H' := H) rfl ⟨rfl, by rw [this]; exact h, Fr.refl _⟩
  · have hex : ∃ L' : List Wr.Found, L'.length = L.length ∧ L.length * 38 ≤ cs.length ∧ cs.take (L.length * 38) = L'.flatMap fC ∧ L.length < 1000000 := ⟨L, rfl, by rw [h5]; exact Nat.mul_le_mul_right _ h6, h7, hl⟩
    have hc : hex.choose = L := flat_inj fC_len (fun _ _ => fC_inj) hex.choose_spec.1 (by rw [← hex.choose_spec.2.2.1, h7])
    have hlen : cs.length ≥ L.length * 38 := by rw [h5]; exact Nat.mul_le_mul_right _ h6
    have hfl := flat_len fC_len (sortF L)
    refine Acalls.sum (s := sortSum 26) rfl (v := .tup []) (H' := ⟨upd H.g (sb v) (.cells ((sortF L).flatMap fC ++ cs.drop (L.length * 38)) e false), H.n⟩) ?_ ⟨rfl, ⟨h.el, h.one, h.hlo, .inr ⟨c, sl, _, ?_, h2, h3, upd_same _ _ _, ?_, ?_, ?_, h8⟩⟩, ?_⟩
    · rw [h1]
      simp only [sortSum, if_true, h4]
      rw [dif_pos hex, hc]; rfl
    · rw [hs]; exact h1
    · rw [List.length_append, hfl, hs, List.length_drop]; omega
    · rw [hs]; exact h6
    · rw [hs, ← hs, ← hfl, List.take_left']; rfl
    · exact ⟨Nat.le_refl _, fun b hb hm => by show upd _ _ _ _ = _; rw [upd_ne _ _ (fun e => hm ⟨e, by rw [e]; exact h2⟩)]⟩
theorem q_isNaN {x : Int} {H : AH} : Acalls P0 Sq 52 [I x] H fun v H' => v = .bool false ∧ Fr No H H' := by
  refine Acalls.go q52 rfl ?_
  rw [slots0_1]; unfold b52
  have hd : decide (x ≠ x) = false := by simp
  simp (disch := first | omega | assumption | exact id rfl | (simp only [okw_wr]; assumption)) only [hd, RC, RO, RM, RT, AV.cells, Option.map_some, AV.one, AV.all1, i64_wrap, u64_wrap, u32_wrap, u8_wrap, Nat.zero_add, Nat.add_zero, Nat.reduceEqDiff, Nat.reduceLeDiff, Nat.reduceAdd, Nat.left_eq_add, Nat.add_eq_left, Nat.add_left_cancel_iff, reduceIte, eq_self, decide_true, decide_false, Bool.not_true, Bool.not_false, reduceCtorEq, List.getElem?_cons_zero, List.getElem?_cons_succ, List.set_cons_zero, List.set_cons_succ]
  exact ⟨trivial, Fr.refl _⟩
theorem q_Compare {x y : Int} {H : AH} : Acalls P0 Sq 28 [I x, I y] H fun v H' => v = I (cmpI x y) ∧ Fr No H H' := by
  refine Acalls.go q28 rfl ?_
  rw [slots0_2]; unfold b28
  simp (disch := first | omega | assumption | exact id rfl | (simp only [okw_wr]; assumption)) only [RC, RO, RM, RT, AV.cells, Option.map_some, AV.one, AV.all1, i64_wrap, u64_wrap, u32_wrap, u8_wrap, Nat.zero_add, Nat.add_zero, Nat.reduceEqDiff, Nat.reduceLeDiff, Nat.reduceAdd, Nat.left_eq_add, Nat.add_eq_left, Nat.add_left_cancel_iff, reduceIte, eq_self, decide_true, decide_false, Bool.not_true, Bool.not_false, reduceCtorEq, List.getElem?_cons_zero, List.getElem?_cons_succ, List.set_cons_zero, List.set_cons_succ]
  refine q_isNaN.mono ?_
  rintro _ H1 ⟨rfl, f1⟩
  simp (disch := first | omega | assumption | exact id rfl | (simp only [okw_wr]; assumption)) only [RC, RO, RM, RT, AV.cells, Option.map_some, AV.one, AV.all1, i64_wrap, u64_wrap, u32_wrap, u8_wrap, Nat.zero_add, Nat.add_zero, Nat.reduceEqDiff, Nat.reduceLeDiff, Nat.reduceAdd, Nat.left_eq_add, Nat.add_eq_left, Nat.add_left_cancel_iff, reduceIte, eq_self, decide_true, decide_false, Bool.not_true, Bool.not_false, reduceCtorEq, List.getElem?_cons_zero, List.getElem?_cons_succ, List.set_cons_zero, List.set_cons_succ]
  refine q_isNaN.mono ?_
  rintro _ H2 ⟨rfl, f2⟩
  generalize hr : cmpI x y = r
  unfold cmpI at hr
  (simp (disch := first | omega | assumption | exact id rfl | (simp only [okw_wr]; assumption)) only [RC, RO, RM, RT, AV.cells, Option.map_some, AV.one, AV.all1, i64_wrap, u64_wrap, u32_wrap, u8_wrap, Nat.zero_add, Nat.add_zero, Nat.reduceEqDiff, Nat.reduceLeDiff, Nat.reduceAdd, Nat.left_eq_add, Nat.add_eq_left, Nat.add_left_cancel_iff, reduceIte, eq_self, decide_true, decide_false, Bool.not_true, Bool.not_false, reduceCtorEq, List.getElem?_cons_zero, List.getElem?_cons_succ, List.set_cons_zero, List.set_cons_succ]; repeat' (first | (refine Gs_split (fun hb => ?_) (fun hb => ?_) <;> (simp only [hb]; (try simp only [decide_eq_true_eq, decide_eq_false_iff_not, Bool.not_eq_true', Bool.not_eq_false', ne_eq, Decidable.not_not, not_true_eq_false] at hb); (try simp (disch := first | omega | assumption | exact id rfl | (simp only [okw_wr]; assumption)) only [RC, RO, RM, RT, AV.cells, Option.map_some, AV.one, AV.all1, i64_wrap, u64_wrap, u32_wrap, u8_wrap, Nat.zero_add, Nat.add_zero, Nat.reduceEqDiff, Nat.reduceLeDiff, Nat.reduceAdd, Nat.left_eq_add, Nat.add_eq_left, Nat.add_left_cancel_iff, reduceIte, eq_self, decide_true, decide_false, Bool.not_true, Bool.not_false, reduceCtorEq, List.getElem?_cons_zero, List.getElem?_cons_succ, List.set_cons_zero, List.set_cons_succ]))) | (refine Is_split (fun hb => ?_) (fun hb => ?_) <;> (simp only [hb]; (try simp only [decide_eq_true_eq, decide_eq_false_iff_not, Bool.not_eq_true', Bool.not_eq_false', ne_eq, Decidable.not_not, not_true_eq_false] at hb); (try simp (disch := first | omega | assumption | exact id rfl | (simp only [okw_wr]; assumption)) only [RC, RO, RM, RT, AV.cells, Option.map_some, AV.one, AV.all1, i64_wrap, u64_wrap, u32_wrap, u8_wrap, Nat.zero_add, Nat.add_zero, Nat.reduceEqDiff, Nat.reduceLeDiff, Nat.reduceAdd, Nat.left_eq_add, Nat.add_eq_left, Nat.add_left_cancel_iff, reduceIte, eq_self, decide_true, decide_false, Bool.not_true, Bool.not_false, reduceCtorEq, List.getElem?_cons_zero, List.getElem?_cons_succ, List.set_cons_zero, List.set_cons_succ]))) | (refine Dg_split (fun hb => ?_) (fun hb => ?_) <;> (simp only [hb]; (try simp only [decide_eq_true_eq, decide_eq_false_iff_not, Bool.not_eq_true', Bool.not_eq_false', ne_eq, Decidable.not_not, not_true_eq_false] at hb); (try simp (disch := first | omega | assumption | exact id rfl | (simp only [okw_wr]; assumption)) only [RC, RO, RM, RT, AV.cells, Option.map_some, AV.one, AV.all1, i64_wrap, u64_wrap, u32_wrap, u8_wrap, Nat.zero_add, Nat.add_zero, Nat.reduceEqDiff, Nat.reduceLeDiff, Nat.reduceAdd, Nat.left_eq_add, Nat.add_eq_left, Nat.add_left_cancel_iff, reduceIte, eq_self, decide_true, decide_false, Bool.not_true, Bool.not_false, reduceCtorEq, List.getElem?_cons_zero, List.getElem?_cons_succ, List.set_cons_zero, List.set_cons_succ])))))
  · rw [if_pos hb] at hr; subst hr; exact ⟨rfl, f1.trans f2⟩
  · rw [if_neg (by omega), if_pos hb] at hr; subst hr; exact ⟨rfl, f1.trans f2⟩
  · rw [if_neg (by omega), if_neg (by omega)] at hr; subst hr; exact ⟨rfl, f1.trans f2⟩
theorem q_Or {v : AV} {x y : Int} {H : AH} (hs : Sl H.g 1 iC v [x, y]) (hv : sb v < H.n) : Acalls P0 Sq 27 [v] H fun r H' => r = I (if x ≠ 0 then x else y) ∧ Fr No H H' := by
  refine Acalls.go q27 rfl ?_
  rw [slots0_1]; unfold b27
  generalize hr : (if x ≠ 0 then x else y) = r
  simp (disch := first | omega | assumption | exact id rfl | (simp only [okw_wr]; assumption)) only [hs.ln, RC, RO, RM, RT, AV.cells, Option.map_some, AV.one, AV.all1, i64_wrap, u64_wrap, u32_wrap, u8_wrap, Nat.zero_add, Nat.add_zero, Nat.reduceEqDiff, Nat.reduceLeDiff, Nat.reduceAdd, Nat.left_eq_add, Nat.add_eq_left, Nat.add_left_cancel_iff, reduceIte, eq_self, decide_true, decide_false, Bool.not_true, Bool.not_false, reduceCtorEq, List.getElem?_cons_zero, List.getElem?_cons_succ, List.set_cons_zero, List.set_cons_succ]
  refine Cs_loop (fun m T H' => ∃ i : Nat, m + i = 2 ∧ T 6 = v ∧ T 7 = I 2 ∧ T 3 = I 0 ∧ T 8 = I i ∧ (1 ≤ i → x = 0) ∧ (2 ≤ i → y = 0) ∧ Fr No H H') ⟨0, rfl, ?_⟩ ?_
  · simp (disch := omega) only [upd_ne, upd_same]
    exact ⟨trivial, rfl, trivial, rfl, by omega, by omega, Fr.refl _⟩
  · rintro m T H2 ⟨i, hn, h6, h7, h3, h8, hx, hy, f2⟩
    have hll : ([x, y] : List Int).length = 2 := rfl
    have hcase : i = 0 ∨ i = 1 ∨ i = 2 := by omega
    have hix := fun hi => hs.ix (kd := .i64) (i := i) hi
    have hc0 := fun hi => hs.c0 0 (i := i) hi (by omega)
    rw [hll] at hix hc0
    (simp (disch := first | omega | assumption | exact id rfl | (simp only [okw_wr]; assumption)) only [h6, h7, h3, h8, f2.at, hix, hc0, RC, RO, RM, RT, AV.cells, Option.map_some, AV.one, AV.all1, i64_wrap, u64_wrap, u32_wrap, u8_wrap, Nat.zero_add, Nat.add_zero, Nat.reduceEqDiff, Nat.reduceLeDiff, Nat.reduceAdd, Nat.left_eq_add, Nat.add_eq_left, Nat.add_left_cancel_iff, reduceIte, eq_self, decide_true, decide_false, Bool.not_true, Bool.not_false, reduceCtorEq, List.getElem?_cons_zero, List.getElem?_cons_succ, List.set_cons_zero, List.set_cons_succ]; repeat' (first | (refine Gs_split (fun hb => ?_) (fun hb => ?_) <;> (simp only [hb]; (try simp only [decide_eq_true_eq, decide_eq_false_iff_not, Bool.not_eq_true', Bool.not_eq_false', ne_eq, Decidable.not_not, not_true_eq_false] at hb); (try simp (disch := first | omega | assumption | exact id rfl | (simp only [okw_wr]; assumption)) only [h6, h7, h3, h8, f2.at, hix, hc0, RC, RO, RM, RT, AV.cells, Option.map_some, AV.one, AV.all1, i64_wrap, u64_wrap, u32_wrap, u8_wrap, Nat.zero_add, Nat.add_zero, Nat.reduceEqDiff, Nat.reduceLeDiff, Nat.reduceAdd, Nat.left_eq_add, Nat.add_eq_left, Nat.add_left_cancel_iff, reduceIte, eq_self, decide_true, decide_false, Bool.not_true, Bool.not_false, reduceCtorEq, List.getElem?_cons_zero, List.getElem?_cons_succ, List.set_cons_zero, List.set_cons_succ]))) | (refine Is_split (fun hb => ?_) (fun hb => ?_) <;> (simp only [hb]; (try simp only [decide_eq_true_eq, decide_eq_false_iff_not, Bool.not_eq_true', Bool.not_eq_false', ne_eq, Decidable.not_not, not_true_eq_false] at hb); (try simp (disch := first | omega | assumption | exact id rfl | (simp only [okw_wr]; assumption)) only [h6, h7, h3, h8, f2.at, hix, hc0, RC, RO, RM, RT, AV.cells, Option.map_some, AV.one, AV.all1, i64_wrap, u64_wrap, u32_wrap, u8_wrap, Nat.zero_add, Nat.add_zero, Nat.reduceEqDiff, Nat.reduceLeDiff, Nat.reduceAdd, Nat.left_eq_add, Nat.add_eq_left, Nat.add_left_cancel_iff, reduceIte, eq_self, decide_true, decide_false, Bool.not_true, Bool.not_false, reduceCtorEq, List.getElem?_cons_zero, List.getElem?_cons_succ, List.set_cons_zero, List.set_cons_succ]))) | (refine Dg_split (fun hb => ?_) (fun hb => ?_) <;> (simp only [hb]; (try simp only [decide_eq_true_eq, decide_eq_false_iff_not, Bool.not_eq_true', Bool.not_eq_false', ne_eq, Decidable.not_not, not_true_eq_false] at hb); (try simp (disch := first | omega | assumption | exact id rfl | (simp only [okw_wr]; assumption)) only [h6, h7, h3, h8, f2.at, hix, hc0, RC, RO, RM, RT, AV.cells, Option.map_some, AV.one, AV.all1, i64_wrap, u64_wrap, u32_wrap, u8_wrap, Nat.zero_add, Nat.add_zero, Nat.reduceEqDiff, Nat.reduceLeDiff, Nat.reduceAdd, Nat.left_eq_add, Nat.add_eq_left, Nat.add_left_cancel_iff, reduceIte, eq_self, decide_true, decide_false, Bool.not_true, Bool.not_false, reduceCtorEq, List.getElem?_cons_zero, List.getElem?_cons_succ, List.set_cons_zero, List.set_cons_succ])))))
    · refine ⟨?_, f2⟩
      rcases hcase with rfl | rfl | rfl
      · have : x ≠ 0 := hb
        rw [if_pos this] at hr; subst hr; rfl
      · have h0 := hx (by omega)
        have : y ≠ 0 := hb
        rw [if_neg (by omega)] at hr; subst hr; rfl
      · omega
    · refine ⟨m - 1, by omega, i + 1, by omega, trivial, trivial, trivial, by rw [Int.natCast_succ], ?_, ?_, f2⟩
      · intro _; rcases hcase with rfl | rfl | rfl
        · exact hb
        · exact hx (by omega)
        · omega
      · intro h; rcases hcase with rfl | rfl | rfl
        · omega
        · exact hb
        · omega
    · have h0 := hx (by omega)
      have h1 := hy (by omega)
      subst h0; subst h1
      exact ⟨by rw [← hr]; rfl, f2⟩
theorem q_cmp {x y : Wr.Found} {H : AH} : Acalls P0 Sq 26 [.agg (fC x), .agg (fC y)] H fun v H' => v = I (cfF x y) ∧ Fr No H H' := by
  refine Acalls.go q26 rfl ?_
  rw [slots0_2]; unfold b26
  simp (disch := first | omega | assumption | exact id rfl | (simp only [okw_wr]; assumption)) only [RC, RO, RM, RT, AV.cells, Option.map_some, AV.one, AV.all1, i64_wrap, u64_wrap, u32_wrap, u8_wrap, Nat.zero_add, Nat.add_zero, Nat.reduceEqDiff, Nat.reduceLeDiff, Nat.reduceAdd, Nat.left_eq_add, Nat.add_eq_left, Nat.add_left_cancel_iff, reduceIte, eq_self, decide_true, decide_false, Bool.not_true, Bool.not_false, reduceCtorEq, List.getElem?_cons_zero, List.getElem?_cons_succ, List.set_cons_zero, List.set_cons_succ]
  refine q_Compare.mono ?_
  rintro _ H1 ⟨rfl, -⟩
  refine ⟨rfl, ?_⟩
  simp (disch := first | omega | assumption | exact id rfl | (simp only [okw_wr]; assumption)) only [RC, RO, RM, RT, AV.cells, Option.map_some, AV.one, AV.all1, i64_wrap, u64_wrap, u32_wrap, u8_wrap, Nat.zero_add, Nat.add_zero, Nat.reduceEqDiff, Nat.reduceLeDiff, Nat.reduceAdd, Nat.left_eq_add, Nat.add_eq_left, Nat.add_left_cancel_iff, reduceIte, eq_self, decide_true, decide_false, Bool.not_true, Bool.not_false, reduceCtorEq, List.getElem?_cons_zero, List.getElem?_cons_succ, List.set_cons_zero, List.set_cons_succ]
  refine q_Compare.mono ?_
  rintro _ H2 ⟨rfl, -⟩
  refine ⟨rfl, ?_⟩
  have hfill : ∀ a b : Int, fillA (zerosA [AV.int .i64 0] 2) [(0, 1, I a), (1, 1, I b)] = some [I a, I b] := fun a b => rfl
  simp (disch := first | omega | assumption | exact id rfl | (simp only [okw_wr]; assumption)) only [hfill, RC, RO, RM, RT, AV.cells, Option.map_some, AV.one, AV.all1, i64_wrap, u64_wrap, u32_wrap, u8_wrap, Nat.zero_add, Nat.add_zero, Nat.reduceEqDiff, Nat.reduceLeDiff, Nat.reduceAdd, Nat.left_eq_add, Nat.add_eq_left, Nat.add_left_cancel_iff, reduceIte, eq_self, decide_true, decide_false, Bool.not_true, Bool.not_false, reduceCtorEq, List.getElem?_cons_zero, List.getElem?_cons_succ, List.set_cons_zero, List.set_cons_succ]
  refine (q_Or (x := cmpI x.r.seq y.r.seq) (y := cmpI x.place y.place) (Sl.ofCells (c := 2) (sl := 0) iC_len (by simp (disch := omega) only [roAll_at, upd_same]; rfl) rfl (by simp) (.inl rfl)) (by show H.n + 1 + 1 < H.n + 1 + 1 + 1; omega)).mono ?_
  rintro _ H3 ⟨rfl, -⟩
  refine ⟨rfl, ?_⟩
  simp (disch := first | omega | assumption | exact id rfl | (simp only [okw_wr]; assumption)) only [RC, RO, RM, RT, AV.cells, Option.map_some, AV.one, AV.all1, i64_wrap, u64_wrap, u32_wrap, u8_wrap, Nat.zero_add, Nat.add_zero, Nat.reduceEqDiff, Nat.reduceLeDiff, Nat.reduceAdd, Nat.left_eq_add, Nat.add_eq_left, Nat.add_left_cancel_iff, reduceIte, eq_self, decide_true, decide_false, Bool.not_true, Bool.not_false, reduceCtorEq, List.getElem?_cons_zero, List.getElem?_cons_succ, List.set_cons_zero, List.set_cons_succ]
  refine ⟨rfl, ?_⟩
  (refine ⟨by (try simp only []); omega, fun b hb hm => ?_⟩; simp (disch := first | omega | assumption) only [upd_ne])
end Go.Eng
namespace Go.Eng
open Wr
set_option linter.unusedVariables false
set_option linter.unusedSimpArgs false
/-- what a sector tells -/
def scanAt (d : Dev) (ep sq : Int) (a : At) : List Wr.Found :=
  if (recRead ((mget d.now a).getD (Bytes.zero 64))).2 = 0 ∧ (recRead ((mget d.now a).getD (Bytes.zero 64))).1.epoch = ep ∧ (recRead ((mget d.now a).getD (Bytes.zero 64))).1.seq > sq
  then [⟨num d.g a, (recRead ((mget d.now a).getD (Bytes.zero 64))).1⟩] else []
def scanZ (d : Dev) (ep sq : Int) (z : Int) : Nat → List Wr.Found
  | 0 => []
  | n + 1 => scanZ d ep sq z n ++ scanAt d ep sq ⟨z, n⟩
def scanD (d : Dev) (ep sq : Int) : Nat → List Wr.Found
  | 0 => []
  | z + 1 => scanD d ep sq z ++ scanZ d ep sq z (zat d.zones z).point.toNat
/-- all that lies ahead of a pointer can be read -/
def Legal (d : Dev) : Prop := ∀ z : Nat, z < d.zones.length → 0 ≤ (zat d.zones z).point ∧ (zat d.zones z).point ≤ 65536 ∧ ∀ o : Nat, (o : Int) < (zat d.zones z).point → zread d.g d.zones ⟨z, o⟩ = 0
theorem scanAt_len (d : Dev) (ep sq : Int) (a : At) : (scanAt d ep sq a).length ≤ 1 := by unfold scanAt; split <;> simp
theorem scanZ_len (d : Dev) (ep sq z : Int) : ∀ n, (scanZ d ep sq z n).length ≤ n
  | 0 => by simp [scanZ]
  | n + 1 => by have := scanZ_len d ep sq z n; have := scanAt_len d ep sq ⟨z, n⟩; simp only [scanZ, List.length_append]; omega
theorem c_scan_down {p : DP} {d : Dev} {H : AH} (h : DevAt H p d) : Acalls P0 S0 29 [dp p] H fun v H' => v = I (if d.down then 2 else 0) ∧ Fr No H H' := by
  refine Acalls.go m29 rfl ?_
  rw [slots0_1]; unfold b29
  simp (disch := first | omega | assumption | exact id rfl | (simp only [okw_wr]; assumption)) only [RC, RO, RM, RT, AV.cells, Option.map_some, AV.one, AV.all1, i64_wrap, u64_wrap, u32_wrap, u8_wrap, Nat.zero_add, Nat.add_zero, Nat.reduceEqDiff, Nat.reduceLeDiff, Nat.reduceAdd, Nat.left_eq_add, Nat.add_eq_left, Nat.add_left_cancel_iff, reduceIte, eq_self, decide_true, decide_false, Bool.not_true, Bool.not_false, reduceCtorEq, List.getElem?_cons_zero, List.getElem?_cons_succ, List.set_cons_zero, List.set_cons_succ]
  refine (c_dev_Down h).mono ?_
  rintro _ H1 ⟨rfl, f1⟩
  generalize hr : (if d.down then (2 : Int) else 0) = r
  (simp (disch := first | omega | assumption | exact id rfl | (simp only [okw_wr]; assumption)) only [RC, RO, RM, RT, AV.cells, Option.map_some, AV.one, AV.all1, i64_wrap, u64_wrap, u32_wrap, u8_wrap, Nat.zero_add, Nat.add_zero, Nat.reduceEqDiff, Nat.reduceLeDiff, Nat.reduceAdd, Nat.left_eq_add, Nat.add_eq_left, Nat.add_left_cancel_iff, reduceIte, eq_self, decide_true, decide_false, Bool.not_true, Bool.not_false, reduceCtorEq, List.getElem?_cons_zero, List.getElem?_cons_succ, List.set_cons_zero, List.set_cons_succ]; repeat' (first | (refine Gs_split (fun hb => ?_) (fun hb => ?_) <;> (simp only [hb]; (try simp only [decide_eq_true_eq, decide_eq_false_iff_not, Bool.not_eq_true', Bool.not_eq_false', ne_eq, Decidable.not_not, not_true_eq_false] at hb); (try simp (disch := first | omega | assumption | exact id rfl | (simp only [okw_wr]; assumption)) only [RC, RO, RM, RT, AV.cells, Option.map_some, AV.one, AV.all1, i64_wrap, u64_wrap, u32_wrap, u8_wrap, Nat.zero_add, Nat.add_zero, Nat.reduceEqDiff, Nat.reduceLeDiff, Nat.reduceAdd, Nat.left_eq_add, Nat.add_eq_left, Nat.add_left_cancel_iff, reduceIte, eq_self, decide_true, decide_false, Bool.not_true, Bool.not_false, reduceCtorEq, List.getElem?_cons_zero, List.getElem?_cons_succ, List.set_cons_zero, List.set_cons_succ]))) | (refine Is_split (fun hb => ?_) (fun hb => ?_) <;> (simp only [hb]; (try simp only [decide_eq_true_eq, decide_eq_false_iff_not, Bool.not_eq_true', Bool.not_eq_false', ne_eq, Decidable.not_not, not_true_eq_false] at hb); (try simp (disch := first | omega | assumption | exact id rfl | (simp only [okw_wr]; assumption)) only [RC, RO, RM, RT, AV.cells, Option.map_some, AV.one, AV.all1, i64_wrap, u64_wrap, u32_wrap, u8_wrap, Nat.zero_add, Nat.add_zero, Nat.reduceEqDiff, Nat.reduceLeDiff, Nat.reduceAdd, Nat.left_eq_add, Nat.add_eq_left, Nat.add_left_cancel_iff, reduceIte, eq_self, decide_true, decide_false, Bool.not_true, Bool.not_false, reduceCtorEq, List.getElem?_cons_zero, List.getElem?_cons_succ, List.set_cons_zero, List.set_cons_succ]))) | (refine Dg_split (fun hb => ?_) (fun hb => ?_) <;> (simp only [hb]; (try simp only [decide_eq_true_eq, decide_eq_false_iff_not, Bool.not_eq_true', Bool.not_eq_false', ne_eq, Decidable.not_not, not_true_eq_false] at hb); (try simp (disch := first | omega | assumption | exact id rfl | (simp only [okw_wr]; assumption)) only [RC, RO, RM, RT, AV.cells, Option.map_some, AV.one, AV.all1, i64_wrap, u64_wrap, u32_wrap, u8_wrap, Nat.zero_add, Nat.add_zero, Nat.reduceEqDiff, Nat.reduceLeDiff, Nat.reduceAdd, Nat.left_eq_add, Nat.add_eq_left, Nat.add_left_cancel_iff, reduceIte, eq_self, decide_true, decide_false, Bool.not_true, Bool.not_false, reduceCtorEq, List.getElem?_cons_zero, List.getElem?_cons_succ, List.set_cons_zero, List.set_cons_succ])))))
  · rw [if_pos hb] at hr; subst hr; exact ⟨rfl, f1⟩
  · rw [if_neg (by simpa using hb)] at hr; subst hr; exact ⟨rfl, f1⟩
theorem fill_f {x : Int} {r : Rec} : fillA ([AV.int .i64 0, .int .i64 0, .int .i64 0, .int .i64 0, .int .i64 0, .int .i64 0] ++ List.replicate 32 (AV.int .u8 0)) [(0, 1, I x), (1, 37, .agg (rC r))] = some (fC ⟨x, r⟩) := by
  have hl := rC_len r
  simp only [fillA, AV.cells, hl]
  simp [fC, hl]
theorem fill_f1 {f : Wr.Found} : fillA (zerosA ([AV.int .i64 0, .int .i64 0, .int .i64 0, .int .i64 0, .int .i64 0, .int .i64 0] ++ List.replicate 32 (AV.int .u8 0)) 1) [(0, 38, .agg (fC f))] = some (fC f) := by
  have hl := fC_len f
  simp only [fillA, AV.cells, hl]
  simp [zerosA, hl]
theorem dread_ok {d : Dev} {a : At} (hd : d.down = false) (hz : zread d.g d.zones a = 0) : dread d a = (d, (mget d.now a).getD (Bytes.zero 64), 0) := by
  unfold dread; rw [if_neg (by rw [hd]; decide), if_neg (by rw [hz]; decide)]
set_option maxHeartbeats 2000000 in
theorem c_scan_All {p : DP} {d : Dev} {ep sq : Int} {H : AH} (h : DevAt H p d) (hi : d.illegal ≤ 1000000000) (hd : d.down = false) (hl : Legal d) (hs : ∀ L : List Wr.Found, (sortF L).length = L.length) (hn : ∀ z, (scanD d ep sq z).length ≤ 10000 * z) :
    Acalls P0 S0 8 [dp p, .agg (gC d.g), I ep, I sq] H fun v H' => ∃ w, v = .tup [w, I 0] ∧ Own H' H.n 38 54 fC w (sortF (scanD d ep sq d.zones.length)) ∧ Fr No H H' := by
  refine Acalls.go m8 rfl ?_
  rw [slots0_4]; unfold b8
  have hz8 := h.zl8
  have hzl := h.zl
  simp (disch := first | omega | assumption | exact id rfl | (simp only [okw_wr]; assumption)) only [RC, RO, RM, RT, AV.cells, Option.map_some, AV.one, AV.all1, i64_wrap, u64_wrap, u32_wrap, u8_wrap, Nat.zero_add, Nat.add_zero, Nat.reduceEqDiff, Nat.reduceLeDiff, Nat.reduceAdd, Nat.left_eq_add, Nat.add_eq_left, Nat.add_left_cancel_iff, reduceIte, eq_self, decide_true, decide_false, Bool.not_true, Bool.not_false, reduceCtorEq, List.getElem?_cons_zero, List.getElem?_cons_succ, List.set_cons_zero, List.set_cons_succ]
  have f0 : Fr No H ⟨upd H.g H.n (.cells (gC d.g) 23 false), H.n + 1⟩ := by (refine ⟨by (try simp only []); omega, fun b hb hm => ?_⟩; simp (disch := first | omega | assumption) only [upd_ne])
  refine (c_dev_Zones (h.frNo f0)).mono ?_
  rintro zs H1 ⟨oz, f1⟩
  dsimp only at oz
  have q1 := f1.le
  have lz := oz.lt (by omega)
  have f01 := f0.trans f1
  have h1 := h.frNo f01
  have g1 : H1.g H.n = .cells (gC d.g) 23 false := by simp (disch := omega) only [f1.old, upd_same]
  clear f0
  simp (disch := first | omega | assumption | exact id rfl | (simp only [okw_wr]; assumption)) only [oz.sl.ln, RC, RO, RM, RT, AV.cells, Option.map_some, AV.one, AV.all1, i64_wrap, u64_wrap, u32_wrap, u8_wrap, Nat.zero_add, Nat.add_zero, Nat.reduceEqDiff, Nat.reduceLeDiff, Nat.reduceAdd, Nat.left_eq_add, Nat.add_eq_left, Nat.add_left_cancel_iff, reduceIte, eq_self, decide_true, decide_false, Bool.not_true, Bool.not_false, reduceCtorEq, List.getElem?_cons_zero, List.getElem?_cons_succ, List.set_cons_zero, List.set_cons_succ]
  refine Cs_loop (fun m T H' => ∃ z : Nat, m + z = d.zones.length ∧ T 0 = dp p ∧ T 2 = I ep ∧ T 3 = I sq ∧ T 5 = .ptr (some (H.n, 0)) ∧ T 20 = zs ∧ T 21 = I d.zones.length ∧ T 22 = I z ∧ (∃ w, T 10 = w ∧ Own H' H1.n 38 54 fC w (scanD d ep sq z)) ∧ Fr No H1 H') ⟨0, rfl, ?_⟩ ?_
  · simp (disch := omega) only [upd_ne, upd_same]
    exact ⟨trivial, trivial, trivial, trivial, trivial, trivial, rfl, ⟨_, rfl, Own.nil fC_len fC_one (Nat.le_refl _)⟩, Fr.refl _⟩
  · rintro m T H2 ⟨z, hm, t0, t2, t3, t5, t20, t21, t22, ⟨w, t10, ow⟩, f2⟩
    have q2 := f2.n
    simp (disch := first | omega | assumption | exact id rfl | (simp only [okw_wr]; assumption)) only [t0, t2, t3, t5, t20, t21, t22, t10, RC, RO, RM, RT, AV.cells, Option.map_some, AV.one, AV.all1, i64_wrap, u64_wrap, u32_wrap, u8_wrap, Nat.zero_add, Nat.add_zero, Nat.reduceEqDiff, Nat.reduceLeDiff, Nat.reduceAdd, Nat.left_eq_add, Nat.add_eq_left, Nat.add_left_cancel_iff, reduceIte, eq_self, decide_true, decide_false, Bool.not_true, Bool.not_false, reduceCtorEq, List.getElem?_cons_zero, List.getElem?_cons_succ, List.set_cons_zero, List.set_cons_succ]
    refine Is_split (fun hb => ?_) (fun hb => ?_)
    · have hzz := of_decide_eq_true hb
      simp only [hb]
      obtain ⟨lp0, lp1, lp2⟩ := hl z (by omega)
      have hzc : d.zones.getD (z : Int).toNat ⟨0, 0⟩ = zat d.zones z := rfl
      simp (disch := first | omega | assumption | exact id rfl | (simp only [okw_wr]; assumption)) only [t0, t2, t3, t5, t20, t21, t22, t10, oz.sl.ix, oz.sl.cN ⟨0, 0⟩, f2.at, hzc, RC, RO, RM, RT, AV.cells, Option.map_some, AV.one, AV.all1, i64_wrap, u64_wrap, u32_wrap, u8_wrap, Nat.zero_add, Nat.add_zero, Nat.reduceEqDiff, Nat.reduceLeDiff, Nat.reduceAdd, Nat.left_eq_add, Nat.add_eq_left, Nat.add_left_cancel_iff, reduceIte, eq_self, decide_true, decide_false, Bool.not_true, Bool.not_false, reduceCtorEq, List.getElem?_cons_zero, List.getElem?_cons_succ, List.set_cons_zero, List.set_cons_succ]
      generalize hzo : zat d.zones z = zo at *
      refine Cs_loop (fun m' T' H' => ∃ o : Nat, m' + o = zo.point.toNat ∧ T' 0 = dp p ∧ T' 2 = I ep ∧ T' 3 = I sq ∧ T' 5 = .ptr (some (H.n, 0)) ∧ T' 20 = zs ∧ T' 21 = I d.zones.length ∧ T' 22 = I z ∧ T' 11 = I z ∧ T' 28 = I zo.point ∧ T' 29 = I o ∧ (∃ w, T' 10 = w ∧ Own H' H1.n 38 54 fC w (scanD d ep sq z ++ scanZ d ep sq z o)) ∧ Fr No H1 H') ⟨0, rfl, ?_⟩ ?_
      · simp (disch := omega) only [upd_ne, upd_same, t0, t2, t3, t5, t20, t21, t22, t10]
        refine ⟨(by first | trivial | rfl), (by first | trivial | rfl), (by first | trivial | rfl), (by first | trivial | rfl), (by first | trivial | rfl), (by first | trivial | rfl), (by first | trivial | rfl), (by first | trivial | rfl), (by first | trivial | rfl), (by first | trivial | rfl), ⟨_, rfl, ?_⟩, by (refine ⟨by (try simp only []); omega, fun b hb hm => ?_⟩; simp (disch := first | omega | assumption) only [f2.at, upd_ne])⟩
        simp only [scanZ, List.append_nil]
        exact ow.fr (by show H2.n ≤ H2.n + 1; omega) (fun b _ hb => by simp (disch := omega) only [upd_ne])
      · rintro m' T' H3 ⟨o, ho, k0, k2, k3, k5, k20, k21, k22, k11, k28, k29, ⟨w3, k10, o3⟩, f3⟩
        have q3 := f3.n
        have hr3 := h1.frNo f3
        simp (disch := first | omega | assumption | exact id rfl | (simp only [okw_wr]; assumption)) only [k0, k2, k3, k5, k20, k21, k22, k11, k28, k29, k10, RC, RO, RM, RT, AV.cells, Option.map_some, AV.one, AV.all1, i64_wrap, u64_wrap, u32_wrap, u8_wrap, Nat.zero_add, Nat.add_zero, Nat.reduceEqDiff, Nat.reduceLeDiff, Nat.reduceAdd, Nat.left_eq_add, Nat.add_eq_left, Nat.add_left_cancel_iff, reduceIte, eq_self, decide_true, decide_false, Bool.not_true, Bool.not_false, reduceCtorEq, List.getElem?_cons_zero, List.getElem?_cons_succ, List.set_cons_zero, List.set_cons_succ]
        refine Is_split (fun hb2 => ?_) (fun hb2 => ?_)
        · have hoo := of_decide_eq_true hb2
          simp only [hb2]
          have hfa : fillA [AV.int .i64 0, .int .i64 0] [(0, 1, I z), (1, 1, I o)] = some (aC ⟨z, o⟩) := rfl
          simp (disch := first | omega | assumption | exact id rfl | (simp only [okw_wr]; assumption)) only [k0, k2, k3, k5, k20, k21, k22, k11, k28, k29, k10, hfa, RC, RO, RM, RT, AV.cells, Option.map_some, AV.one, AV.all1, i64_wrap, u64_wrap, u32_wrap, u8_wrap, Nat.zero_add, Nat.add_zero, Nat.reduceEqDiff, Nat.reduceLeDiff, Nat.reduceAdd, Nat.left_eq_add, Nat.add_eq_left, Nat.add_left_cancel_iff, reduceIte, eq_self, decide_true, decide_false, Bool.not_true, Bool.not_false, reduceCtorEq, List.getElem?_cons_zero, List.getElem?_cons_succ, List.set_cons_zero, List.set_cons_succ]
          have f4 : Fr No H3 ⟨upd (upd H3.g H3.n (.cells [AV.int .i64 0, .int .i64 0] 67 false)) H3.n (.cells (aC ⟨z, o⟩) 67 false), H3.n + 1⟩ := by (refine ⟨by (try simp only []); omega, fun b hb hm => ?_⟩; simp (disch := first | omega | assumption) only [upd_ne])
          refine (c_dev_Read (a := ⟨z, o⟩) (hr3.frNo f4) hi).mono ?_
          have hzr := lp2 o hoo
          rw [dread_ok hd hzr]
          rintro _ H4 ⟨rfl, -, f5⟩
          have f5 := f5 (.inl hzr)
          have q5 := f5.le
          generalize hpg : (mget d.now ⟨z, o⟩).getD (Bytes.zero 64) = pg
          have tp := bC_len pg
          have tp1 := bC_one pg
          have tp2 : (List.replicate 64 (AV.int .u8 0)).length = (bC pg).length := by rw [bC_len, List.length_replicate]
          have hne : decide ((0 : Int) ≠ 0) = false := rfl
          simp (disch := first | omega | assumption | exact id rfl | (simp only [okw_wr]; assumption)) only [k0, k2, k3, k5, k20, k21, k22, k11, k28, k29, k10, hne, RC, RO, RM, RT, AV.cells, Option.map_some, AV.one, AV.all1, i64_wrap, u64_wrap, u32_wrap, u8_wrap, Nat.zero_add, Nat.add_zero, Nat.reduceEqDiff, Nat.reduceLeDiff, Nat.reduceAdd, Nat.left_eq_add, Nat.add_eq_left, Nat.add_left_cancel_iff, reduceIte, eq_self, decide_true, decide_false, Bool.not_true, Bool.not_false, reduceCtorEq, List.getElem?_cons_zero, List.getElem?_cons_succ, List.set_cons_zero, List.set_cons_succ]
          refine (c_rec_Read (p := pg)).mono ?_
          rintro _ H5 ⟨rfl, f6⟩
          have q6 := f6.le
          generalize hrr : recRead pg = rr
          obtain ⟨r, e⟩ := rr
          have tr := rC_len r
          have tr1 := rC_one r
          have tr2 : (rC rec0).length = (rC r).length := by rw [rC_len, rC_len]
          have hsc : scanAt d ep sq ⟨z, o⟩ = if e = 0 ∧ r.epoch = ep ∧ r.seq > sq then [⟨num d.g ⟨z, o⟩, r⟩] else [] := by unfold scanAt; rw [hpg, hrr]
          have hscz : scanD d ep sq z ++ scanZ d ep sq z (o + 1) = (scanD d ep sq z ++ scanZ d ep sq z o) ++ scanAt d ep sq ⟨z, o⟩ := by rw [scanZ, List.append_assoc]
          have fall : Fr No H1 H5 := by (refine ⟨by (try simp only []); omega, fun b hb hm => ?_⟩; simp (disch := first | omega | assumption) only [f6.old, f5.old, f3.at, upd_ne])
          have o5 : Own H5 H1.n 38 54 fC w3 (scanD d ep sq z ++ scanZ d ep sq z o) := o3.fr (by omega) (fun b _ hb => by simp (disch := omega) only [f6.old, f5.old, upd_ne])
          have ga : H5.g H3.n = .cells (aC ⟨z, o⟩) 67 false := by simp (disch := omega) only [f6.old, f5.old, upd_ne, upd_same]
          have gg : H5.g H.n = .cells (gC d.g) 23 false := by simp (disch := omega) only [f6.old, f5.old, upd_ne, f3.at, g1]
          (simp (disch := first | omega | assumption | exact id rfl | (simp only [okw_wr]; assumption)) only [k0, k2, k3, k5, k20, k21, k22, k11, k28, k29, k10, z_rec, ga, gg, RC, RO, RM, RT, AV.cells, Option.map_some, AV.one, AV.all1, i64_wrap, u64_wrap, u32_wrap, u8_wrap, Nat.zero_add, Nat.add_zero, Nat.reduceEqDiff, Nat.reduceLeDiff, Nat.reduceAdd, Nat.left_eq_add, Nat.add_eq_left, Nat.add_left_cancel_iff, reduceIte, eq_self, decide_true, decide_false, Bool.not_true, Bool.not_false, reduceCtorEq, List.getElem?_cons_zero, List.getElem?_cons_succ, List.set_cons_zero, List.set_cons_succ]; repeat' (first | (refine Gs_split (fun hb => ?_) (fun hb => ?_) <;> (simp only [hb]; (try simp only [decide_eq_true_eq, decide_eq_false_iff_not, Bool.not_eq_true', Bool.not_eq_false', ne_eq, Decidable.not_not, not_true_eq_false] at hb); (try simp (disch := first | omega | assumption | exact id rfl | (simp only [okw_wr]; assumption)) only [k0, k2, k3, k5, k20, k21, k22, k11, k28, k29, k10, z_rec, ga, gg, RC, RO, RM, RT, AV.cells, Option.map_some, AV.one, AV.all1, i64_wrap, u64_wrap, u32_wrap, u8_wrap, Nat.zero_add, Nat.add_zero, Nat.reduceEqDiff, Nat.reduceLeDiff, Nat.reduceAdd, Nat.left_eq_add, Nat.add_eq_left, Nat.add_left_cancel_iff, reduceIte, eq_self, decide_true, decide_false, Bool.not_true, Bool.not_false, reduceCtorEq, List.getElem?_cons_zero, List.getElem?_cons_succ, List.set_cons_zero, List.set_cons_succ]))) | (refine Is_split (fun hb => ?_) (fun hb => ?_) <;> (simp only [hb]; (try simp only [decide_eq_true_eq, decide_eq_false_iff_not, Bool.not_eq_true', Bool.not_eq_false', ne_eq, Decidable.not_not, not_true_eq_false] at hb); (try simp (disch := first | omega | assumption | exact id rfl | (simp only [okw_wr]; assumption)) only [k0, k2, k3, k5, k20, k21, k22, k11, k28, k29, k10, z_rec, ga, gg, RC, RO, RM, RT, AV.cells, Option.map_some, AV.one, AV.all1, i64_wrap, u64_wrap, u32_wrap, u8_wrap, Nat.zero_add, Nat.add_zero, Nat.reduceEqDiff, Nat.reduceLeDiff, Nat.reduceAdd, Nat.left_eq_add, Nat.add_eq_left, Nat.add_left_cancel_iff, reduceIte, eq_self, decide_true, decide_false, Bool.not_true, Bool.not_false, reduceCtorEq, List.getElem?_cons_zero, List.getElem?_cons_succ, List.set_cons_zero, List.set_cons_succ]))) | (refine Dg_split (fun hb => ?_) (fun hb => ?_) <;> (simp only [hb]; (try simp only [decide_eq_true_eq, decide_eq_false_iff_not, Bool.not_eq_true', Bool.not_eq_false', ne_eq, Decidable.not_not, not_true_eq_false] at hb); (try simp (disch := first | omega | assumption | exact id rfl | (simp only [okw_wr]; assumption)) only [k0, k2, k3, k5, k20, k21, k22, k11, k28, k29, k10, z_rec, ga, gg, RC, RO, RM, RT, AV.cells, Option.map_some, AV.one, AV.all1, i64_wrap, u64_wrap, u32_wrap, u8_wrap, Nat.zero_add, Nat.add_zero, Nat.reduceEqDiff, Nat.reduceLeDiff, Nat.reduceAdd, Nat.left_eq_add, Nat.add_eq_left, Nat.add_left_cancel_iff, reduceIte, eq_self, decide_true, decide_false, Bool.not_true, Bool.not_false, reduceCtorEq, List.getElem?_cons_zero, List.getElem?_cons_succ, List.set_cons_zero, List.set_cons_succ])))))
          · refine (c_geom_Num h.gok).mono ?_
            rintro _ Hq ⟨rfl, -⟩
            refine ⟨rfl, ?_⟩
            have hbool : e = 0 ∧ r.epoch = ep ∧ r.seq > sq := by refine ⟨?_, ?_, ?_⟩ <;> assumption
            rw [if_pos hbool] at hsc
            simp (disch := first | omega | assumption | exact id rfl | (simp only [okw_wr]; assumption)) only [gg, ga, fill_f, fill_f1, RC, RO, RM, RT, AV.cells, Option.map_some, AV.one, AV.all1, i64_wrap, u64_wrap, u32_wrap, u8_wrap, Nat.zero_add, Nat.add_zero, Nat.reduceEqDiff, Nat.reduceLeDiff, Nat.reduceAdd, Nat.left_eq_add, Nat.add_eq_left, Nat.add_left_cancel_iff, reduceIte, eq_self, decide_true, decide_false, Bool.not_true, Bool.not_false, reduceCtorEq, List.getElem?_cons_zero, List.getElem?_cons_succ, List.set_cons_zero, List.set_cons_succ]
            have ts := scanZ_len d ep sq z o
            have tn := hn z
            refine Os_app (lo := H1.n) (L := scanD d ep sq z ++ scanZ d ep sq z o) (X := [⟨num d.g ⟨z, o⟩, r⟩]) (o5.fr (by show H5.n ≤ H5.n + 1 + 1; omega) (fun b _ hb => by simp (disch := omega) only [upd_ne])) (Sl.ofCells (c := 1) (sl := 0) (e := 54) (ro := false) fC_len (by simp (disch := omega) only [upd_same, List.flatMap_cons, List.flatMap_nil, List.append_nil]) rfl (by simp) (.inl rfl)) (by omega) (by simp only [List.length_append, List.length_cons, List.length_nil]; omega) ?_
            intro v' H6 o6 q6' k6 _
            have q6' : H5.n + 1 + 1 ≤ H6.n := q6'
            simp (disch := first | omega | assumption | exact id rfl | (simp only [okw_wr]; assumption)) only [k0, k2, k3, k5, k20, k21, k22, k11, k28, k29, k10, RC, RO, RM, RT, AV.cells, Option.map_some, AV.one, AV.all1, i64_wrap, u64_wrap, u32_wrap, u8_wrap, Nat.zero_add, Nat.add_zero, Nat.reduceEqDiff, Nat.reduceLeDiff, Nat.reduceAdd, Nat.left_eq_add, Nat.add_eq_left, Nat.add_left_cancel_iff, reduceIte, eq_self, decide_true, decide_false, Bool.not_true, Bool.not_false, reduceCtorEq, List.getElem?_cons_zero, List.getElem?_cons_succ, List.set_cons_zero, List.set_cons_succ]
            refine ⟨m' - 1, by omega, o + 1, by omega, (by first | trivial | rfl), (by first | trivial | rfl), (by first | trivial | rfl), (by first | trivial | rfl), (by first | trivial | rfl), (by first | trivial | rfl), (by first | trivial | rfl), (by first | trivial | rfl), (by first | trivial | rfl), by rw [Int.natCast_succ], ⟨_, rfl, ?_⟩, Nat.le_trans fall.n (show H5.n ≤ H6.n by omega), ?_⟩
            · rw [hscz, hsc]; exact o6
            · intro b hb1 _
              show H6.g b = H1.g b
              have qf := fall.n
              rw [k6 b (by show b < H5.n + 1 + 1; omega) (.inr hb1)]
              simp (disch := omega) only [upd_ne, fall.at]
          all_goals (rw [if_neg (by intro hh; obtain ⟨hh1, hh2, hh3⟩ := hh; omega)] at hsc)
          all_goals (refine ⟨m' - 1, by omega, o + 1, by omega, (by first | trivial | rfl), (by first | trivial | rfl), (by first | trivial | rfl), (by first | trivial | rfl), (by first | trivial | rfl), (by first | trivial | rfl), (by first | trivial | rfl), (by first | trivial | rfl), (by first | trivial | rfl), by rw [Int.natCast_succ], ⟨_, rfl, ?_⟩, ?_⟩)
          all_goals first | (rw [hscz, hsc, List.append_nil]; exact o5.fr (by show H5.n ≤ H5.n + 1; omega) (fun b _ hb => by simp (disch := omega) only [upd_ne])) | ((refine ⟨by (try simp only []); omega, fun b hb hm => ?_⟩; simp (disch := first | omega | assumption) only [fall.at, upd_ne]))
        · have hoo := of_decide_eq_false hb2
          simp only [hb2]
          have : o = zo.point.toNat := by omega
          subst this
          simp (disch := first | omega | assumption | exact id rfl | (simp only [okw_wr]; assumption)) only [k0, k2, k3, k5, k20, k21, k22, k11, k28, k29, k10, RC, RO, RM, RT, AV.cells, Option.map_some, AV.one, AV.all1, i64_wrap, u64_wrap, u32_wrap, u8_wrap, Nat.zero_add, Nat.add_zero, Nat.reduceEqDiff, Nat.reduceLeDiff, Nat.reduceAdd, Nat.left_eq_add, Nat.add_eq_left, Nat.add_left_cancel_iff, reduceIte, eq_self, decide_true, decide_false, Bool.not_true, Bool.not_false, reduceCtorEq, List.getElem?_cons_zero, List.getElem?_cons_succ, List.set_cons_zero, List.set_cons_succ]
          refine ⟨m - 1, by omega, z + 1, by omega, (by first | trivial | rfl), (by first | trivial | rfl), (by first | trivial | rfl), (by first | trivial | rfl), (by first | trivial | rfl), (by first | trivial | rfl), by rw [Int.natCast_succ], ⟨_, rfl, ?_⟩, f3⟩
          rw [scanD, hzo]; exact o3
    · have hzz := of_decide_eq_false hb
      simp only [hb]
      have : z = d.zones.length := by omega
      subst this
      simp (disch := first | omega | assumption | exact id rfl | (simp only [okw_wr]; assumption)) only [t0, t2, t3, t5, t20, t21, t22, t10, RC, RO, RM, RT, AV.cells, Option.map_some, AV.one, AV.all1, i64_wrap, u64_wrap, u32_wrap, u8_wrap, Nat.zero_add, Nat.add_zero, Nat.reduceEqDiff, Nat.reduceLeDiff, Nat.reduceAdd, Nat.left_eq_add, Nat.add_eq_left, Nat.add_left_cancel_iff, reduceIte, eq_self, decide_true, decide_false, Bool.not_true, Bool.not_false, reduceCtorEq, List.getElem?_cons_zero, List.getElem?_cons_succ, List.set_cons_zero, List.set_cons_succ]
      have tn := hn d.zones.length
      refine (c_sort ow (by omega) (hs _)).mono ?_
      rintro _ H3 ⟨rfl, o3, f3⟩
      have q3 := f3.n
      have fk : Fr No H H3 := by
        refine ⟨by have := f01.n; omega, fun b hb _ => ?_⟩
        have hq : H.n ≤ H1.n := f01.n
        rw [f3.same b (by omega) (fun h => by omega), f2.at (by omega), f01.at hb]
      simp (disch := first | omega | assumption | exact id rfl | (simp only [okw_wr]; assumption)) only [t0, t2, t3, t5, t20, t21, t22, t10, RC, RO, RM, RT, AV.cells, Option.map_some, AV.one, AV.all1, i64_wrap, u64_wrap, u32_wrap, u8_wrap, Nat.zero_add, Nat.add_zero, Nat.reduceEqDiff, Nat.reduceLeDiff, Nat.reduceAdd, Nat.left_eq_add, Nat.add_eq_left, Nat.add_left_cancel_iff, reduceIte, eq_self, decide_true, decide_false, Bool.not_true, Bool.not_false, reduceCtorEq, List.getElem?_cons_zero, List.getElem?_cons_succ, List.set_cons_zero, List.set_cons_succ]
      refine (c_scan_down (h.frNo fk)).mono ?_
      rintro _ H4 ⟨rfl, f4⟩
      simp (disch := first | omega | assumption | exact id rfl | (simp only [okw_wr]; assumption)) only [RC, RO, RM, RT, AV.cells, Option.map_some, AV.one, AV.all1, i64_wrap, u64_wrap, u32_wrap, u8_wrap, Nat.zero_add, Nat.add_zero, Nat.reduceEqDiff, Nat.reduceLeDiff, Nat.reduceAdd, Nat.left_eq_add, Nat.add_eq_left, Nat.add_left_cancel_iff, reduceIte, eq_self, decide_true, decide_false, Bool.not_true, Bool.not_false, reduceCtorEq, List.getElem?_cons_zero, List.getElem?_cons_succ, List.set_cons_zero, List.set_cons_succ]
      refine ⟨w, by rw [hd]; rfl, ?_, fk.trans f4⟩
      have hq : H.n ≤ H1.n := f01.n
      exact (o3.weak hq).fr f4.n (fun b _ hb => f4.at hb)
end Go.Eng
