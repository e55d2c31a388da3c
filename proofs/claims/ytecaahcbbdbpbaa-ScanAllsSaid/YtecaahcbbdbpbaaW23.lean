/-
  P4: The walk of windrowlaw14.ScanAlls.
  P3: Walks of windrowlaw14: put, awake.
-/
import Derived.Test.YtecaahcbbdbpbaaW22
import Derived.Test.YtecaahcbbdbpbaaW21
import Derived.Test.YtecaahcbbdbpbaaW15
namespace Go.Eng
open Wr
set_option linter.unusedVariables false
set_option linter.unusedSimpArgs false
theorem c_l14_put {ep sq : Int} {H : AH} : Acalls P0 S0 13 [I ep, I sq] H fun v H' => v = .agg (rC (putR ep sq)) ∧ Fr No H H' := by
  refine Acalls.go m13 rfl ?_
  rw [slots0_2]; unfold b13
  have hfa : fillA ([AV.int .i64 0, .int .i64 0, .int .i64 0, .int .i64 0, .int .i64 0] ++ List.replicate 32 (AV.int .u8 0)) [(0, 1, I 2), (1, 1, I ep), (2, 1, I sq), (3, 1, I 1)] = some (rC (putR ep sq)) := by kernel_rfl
  have tr := rC_len (putR ep sq)
  have tr1 := rC_one (putR ep sq)
  have tr2 : ([AV.int .i64 0, .int .i64 0, .int .i64 0, .int .i64 0, .int .i64 0] ++ List.replicate 32 (AV.int .u8 0)).length = (rC (putR ep sq)).length := by rw [rC_len]; rfl
  simp (disch := first | omega | assumption | exact id rfl | (simp only [okw_wr]; assumption)) only [hfa, RC, RO, RM, RT, AV.cells, Option.map_some, AV.one, AV.all1, i64_wrap, u64_wrap, u32_wrap, u8_wrap, Nat.zero_add, Nat.add_zero, Nat.reduceEqDiff, Nat.reduceLeDiff, Nat.reduceAdd, Nat.left_eq_add, Nat.add_eq_left, Nat.add_left_cancel_iff, reduceIte, eq_self, decide_true, decide_false, Bool.not_true, Bool.not_false, reduceCtorEq, List.getElem?_cons_zero, List.getElem?_cons_succ, List.set_cons_zero, List.set_cons_succ]
  exact ⟨(by first | trivial | rfl), by (refine ⟨by (try simp only []); omega, fun b hb hm => ?_⟩; simp (disch := first | omega | assumption) only [upd_ne])⟩
theorem scanD_len {d : Dev} {ep sq : Int} (hz : ZOk d.g d.zones) (hs : 0 ≤ d.g.size ∧ d.g.size ≤ 256) : ∀ z : Nat, (scanD d ep sq z).length ≤ 10000 * z
  | 0 => by simp [scanD]
  | z + 1 => by
    have ih := scanD_len (ep := ep) (sq := sq) hz hs z
    have hl := scanZ_len d ep sq z (zat d.zones z).point.toNat
    have hp : (zat d.zones z).point ≤ 256 := by
      by_cases h1 : z < d.zones.length
      · by_cases h2 : (z : Int) < d.g.conv
        · rw [hz.c z h1 h2]; decide
        · have := hz.s z h1 (by omega); omega
      · have e : zat d.zones z = ⟨0, 0⟩ := by
          unfold zat; rw [List.getD_eq_getElem?_getD, List.getElem?_eq_none (by omega)]; rfl
        rw [e]; decide
    rw [scanD, List.length_append]; omega
theorem awG_ok : GOk awG := ⟨by decide, by decide, by decide, by decide, by decide, by decide, by decide, by decide⟩
theorem dwrite_live {d : Dev} (a : At) (p : Page) (h : d.left ≤ 0 ∧ d.down = false) : (dwrite d a p).1.left ≤ 0 ∧ (dwrite d a p).1.down = false := by
  unfold dwrite
  rw [if_neg (by rw [h.2]; decide)]
  split
  split
  · unfold dcheck; split <;> exact h
  · unfold dcount
    rw [if_neg (by show ¬ d.left > 0; omega)]; exact h
theorem layD_live (g : Geom) (L : List S3) : (layD g L).left ≤ 0 ∧ (layD g L).down = false := by
  have : ∀ (L : List S3) (d : Dev), d.left ≤ 0 ∧ d.down = false → (L.foldl layS d).left ≤ 0 ∧ (L.foldl layS d).down = false := by
    intro L
    induction L with
    | nil => intro d h; exact h
    | cons s L ih => intro d h; exact ih _ (dwrite_live _ _ h)
  exact this L _ ⟨show (-1 : Int) ≤ 0 by decide, rfl⟩
theorem putR_ok {ep sq : Int} (h1 : R64 ep) (h2 : R64 sq) : ROk (putR ep sq) := ⟨(show R64 2 from ⟨by decide, by decide⟩), h1, h2, (show R64 1 from ⟨by decide, by decide⟩), (show R64 0 from ⟨by decide, by decide⟩)⟩
theorem awL_ok : ∀ s ∈ awL, ROk s.r ∧ s.zone < 256 := by
  intro s hs
  simp only [awL, List.mem_cons, List.not_mem_nil, or_false] at hs
  rcases hs with rfl | rfl | rfl | rfl <;> exact ⟨putR_ok ⟨by decide, by decide⟩ ⟨by decide, by decide⟩, by decide⟩
/-- scan.All over what Lay has laid -/
theorem c_scan_AllL {p : DP} {g : Geom} {L : List S3} {ep sq : Int} {H : AH} (hg : GOk g) (h : DevAt H p (layD g L)) (hl : L.length ≤ 1000) :
    Acalls P0 S0 8 [dp p, .agg (gC g), I ep, I sq] H fun v H' => ∃ w, v = .tup [w, I 0] ∧ Own H' H.n 38 54 fC w (sortF (scanD (layD g L) ep sq (layD g L).zones.length)) ∧ Fr No H H' := by
  obtain ⟨dk, dg⟩ := layD_ok hg L
  have gc := hg.c; have gs := hg.s; have gz := hg.z; have gn := hg.n; have gm := hg.m
  have hdn := (layD_live g L).2
  have hi := dk.i
  have hz := dk.z
  generalize layD g L = d at *
  subst dg
  exact c_scan_All h (by omega) hdn (hz.legal (by omega) (by omega) (by omega)) sortF_len (scanD_len hz (by omega))
set_option maxHeartbeats 4000000 in
theorem c_l14_awake {H : AH} : Acalls P0 S0 5 [] H fun v H' => v = .bool true ∧ Fr No H H' := by
  refine Acalls.go m5 rfl ?_
  rw [slots0_0]; unfold b5
  have fg : fillA [AV.int .i64 0, .int .i64 0, .int .i64 0, .int .i64 0, .int .i64 0] [(0, 1, I 2), (1, 1, I 8), (2, 1, I 6), (3, 1, I 8), (4, 1, I 3)] = some (gC awG) := by kernel_rfl
  have tg := gC_len awG
  have tg1 := gC_one awG
  have tg2 : [AV.int .i64 0, .int .i64 0, .int .i64 0, .int .i64 0, .int .i64 0].length = (gC awG).length := rfl
  have fs1 : fillA ([AV.int .u8 0, AV.int .i64 0, .int .i64 0, .int .i64 0, .int .i64 0, .int .i64 0] ++ List.replicate 32 (AV.int .u8 0) ++ [AV.bool false]) [(0, 1, .int .u8 1), (1, 37, .agg (rC (putR 2 5)))] = some (sC ⟨1, putR 2 5, false⟩) := by kernel_rfl
  have fs2 : fillA ([AV.int .u8 0, AV.int .i64 0, .int .i64 0, .int .i64 0, .int .i64 0, .int .i64 0] ++ List.replicate 32 (AV.int .u8 0) ++ [AV.bool false]) [(0, 1, .int .u8 0), (1, 37, .agg (rC (putR 2 6)))] = some (sC ⟨0, putR 2 6, false⟩) := by kernel_rfl
  have fs3 : fillA ([AV.int .u8 0, AV.int .i64 0, .int .i64 0, .int .i64 0, .int .i64 0, .int .i64 0] ++ List.replicate 32 (AV.int .u8 0) ++ [AV.bool false]) [(0, 1, .int .u8 1), (1, 37, .agg (rC (putR 2 8)))] = some (sC ⟨1, putR 2 8, false⟩) := by kernel_rfl
  have fs4 : fillA ([AV.int .u8 0, AV.int .i64 0, .int .i64 0, .int .i64 0, .int .i64 0, .int .i64 0] ++ List.replicate 32 (AV.int .u8 0) ++ [AV.bool false]) [(0, 1, .int .u8 1), (1, 37, .agg (rC (putR 1 9)))] = some (sC ⟨1, putR 1 9, false⟩) := by kernel_rfl
  have fs5 : fillA (zerosA ([AV.int .u8 0, AV.int .i64 0, .int .i64 0, .int .i64 0, .int .i64 0, .int .i64 0] ++ List.replicate 32 (AV.int .u8 0) ++ [AV.bool false]) 4) [(0, 39, .agg (sC ⟨1, putR 2 5, false⟩)), (39, 39, .agg (sC ⟨0, putR 2 6, false⟩)), (78, 39, .agg (sC ⟨1, putR 2 8, false⟩)), (117, 39, .agg (sC ⟨1, putR 1 9, false⟩))] = some (awL.flatMap sC) := by kernel_rfl
  simp (disch := first | omega | assumption | exact id rfl | (simp only [okw_wr]; assumption)) only [fg, RC, RO, RM, RT, AV.cells, Option.map_some, AV.one, AV.all1, i64_wrap, u64_wrap, u32_wrap, u8_wrap, Nat.zero_add, Nat.add_zero, Nat.reduceEqDiff, Nat.reduceLeDiff, Nat.reduceAdd, Nat.left_eq_add, Nat.add_eq_left, Nat.add_left_cancel_iff, reduceIte, eq_self, decide_true, decide_false, Bool.not_true, Bool.not_false, reduceCtorEq, List.getElem?_cons_zero, List.getElem?_cons_succ, List.set_cons_zero, List.set_cons_succ]
  iterate 4
    refine c_l14_put.mono ?_
    rintro _ Hq ⟨rfl, -⟩
    refine ⟨rfl, ?_⟩
    clear Hq
    simp (disch := first | omega | assumption | exact id rfl | (simp only [okw_wr]; assumption)) only [fs1, fs2, fs3, fs4, fs5, RC, RO, RM, RT, AV.cells, Option.map_some, AV.one, AV.all1, i64_wrap, u64_wrap, u32_wrap, u8_wrap, Nat.zero_add, Nat.add_zero, Nat.reduceEqDiff, Nat.reduceLeDiff, Nat.reduceAdd, Nat.left_eq_add, Nat.add_eq_left, Nat.add_left_cancel_iff, reduceIte, eq_self, decide_true, decide_false, Bool.not_true, Bool.not_false, reduceCtorEq, List.getElem?_cons_zero, List.getElem?_cons_succ, List.set_cons_zero, List.set_cons_succ]
  refine (c_r14_Lay awG_ok (Sl.ofCells (c := 4) (sl := 0) (e := 50) (ro := false) sC_len (by simp (disch := omega) only [upd_same]) rfl (by decide) (.inl rfl)) (by show H.n + 1 < H.n + 1 + 1; omega) (by decide) awL_ok).mono ?_
  rintro _ H1 ⟨p, rfl, d1, hp, f1⟩
  have q1 := f1.le
  simp (disch := first | omega | assumption | exact id rfl | (simp only [okw_wr]; assumption)) only [f1.old, RC, RO, RM, RT, AV.cells, Option.map_some, AV.one, AV.all1, i64_wrap, u64_wrap, u32_wrap, u8_wrap, Nat.zero_add, Nat.add_zero, Nat.reduceEqDiff, Nat.reduceLeDiff, Nat.reduceAdd, Nat.left_eq_add, Nat.add_eq_left, Nat.add_left_cancel_iff, reduceIte, eq_self, decide_true, decide_false, Bool.not_true, Bool.not_false, reduceCtorEq, List.getElem?_cons_zero, List.getElem?_cons_succ, List.set_cons_zero, List.set_cons_succ]
  refine (c_scan_AllL awG_ok d1 (by decide)).mono ?_
  rintro _ H2 ⟨w, rfl, o2, f2⟩
  rw [awSort] at o2
  have q2 := f2.n
  have l2 := o2.lt (by decide)
  have hl3 : ((awR.length : Nat) : Int) = 3 := rfl
  have x0 := o2.sl.ix (i := 0) (kd := .i64) (by decide)
  have x1 := o2.sl.ix (i := 1) (kd := .i64) (by decide)
  have x2 := o2.sl.ix (i := 2) (kd := .i64) (by decide)
  have y0 : c1 (H2.g (sb w)) (so w + (0 : Int).toNat * 38) = some (I 9) := (o2.sl.c0 f0 (by decide) (by decide)).trans (by kernel_rfl)
  have y1 : c1 (H2.g (sb w)) (so w + (1 : Int).toNat * 38) = some (I 1) := (o2.sl.c0 f0 (by decide) (by decide)).trans (by kernel_rfl)
  have y2 : c1 (H2.g (sb w)) (so w + (2 : Int).toNat * 38 + 3) = some (I 8) := (o2.sl.co f0 (by decide) (by decide)).trans (by kernel_rfl)
  simp (disch := first | omega | assumption | exact id rfl | (simp only [okw_wr]; assumption)) only [o2.sl.ln, hl3, x0, x1, x2, y0, y1, y2, RC, RO, RM, RT, AV.cells, Option.map_some, AV.one, AV.all1, i64_wrap, u64_wrap, u32_wrap, u8_wrap, Nat.zero_add, Nat.add_zero, Nat.reduceEqDiff, Nat.reduceLeDiff, Nat.reduceAdd, Nat.left_eq_add, Nat.add_eq_left, Nat.add_left_cancel_iff, reduceIte, eq_self, decide_true, decide_false, Bool.not_true, Bool.not_false, reduceCtorEq, List.getElem?_cons_zero, List.getElem?_cons_succ, List.set_cons_zero, List.set_cons_succ]
  refine (c_scan_Chain o2.sl (by omega) (by decide) (by omega)).mono ?_
  rintro v3 H3 ⟨o3, f3⟩
  have q3 := f3.n
  have hl2 : (((chainF awR 4).length : Nat) : Int) = 2 := by rw [awChain.1]; rfl
  simp (disch := first | omega | assumption | exact id rfl | (simp only [okw_wr]; assumption)) only [o3.sl.ln, hl2, RC, RO, RM, RT, AV.cells, Option.map_some, AV.one, AV.all1, i64_wrap, u64_wrap, u32_wrap, u8_wrap, Nat.zero_add, Nat.add_zero, Nat.reduceEqDiff, Nat.reduceLeDiff, Nat.reduceAdd, Nat.left_eq_add, Nat.add_eq_left, Nat.add_left_cancel_iff, reduceIte, eq_self, decide_true, decide_false, Bool.not_true, Bool.not_false, reduceCtorEq, List.getElem?_cons_zero, List.getElem?_cons_succ, List.set_cons_zero, List.set_cons_succ]
  refine (c_scan_Last (o2.sl.fr (f3.at (by omega))) (by omega) (by decide) (by omega)).mono ?_
  rintro _ H4 ⟨rfl, f4⟩
  have q4 := f4.n
  have e4 : (4 : Int) + ((chainF awR 4).length : Nat) = 6 := by rw [awChain.1]; rfl
  simp (disch := first | omega | assumption | exact id rfl | (simp only [okw_wr]; assumption)) only [e4, RC, RO, RM, RT, AV.cells, Option.map_some, AV.one, AV.all1, i64_wrap, u64_wrap, u32_wrap, u8_wrap, Nat.zero_add, Nat.add_zero, Nat.reduceEqDiff, Nat.reduceLeDiff, Nat.reduceAdd, Nat.left_eq_add, Nat.add_eq_left, Nat.add_left_cancel_iff, reduceIte, eq_self, decide_true, decide_false, Bool.not_true, Bool.not_false, reduceCtorEq, List.getElem?_cons_zero, List.getElem?_cons_succ, List.set_cons_zero, List.set_cons_succ]
  refine (c_scan_Last (o2.sl.fr ((f4.at (by omega)).trans (f3.at (by omega)))) (by omega) (by decide) (by omega)).mono ?_
  rintro _ H5 ⟨rfl, f5⟩
  have q5 := f5.n
  have e5 : (6 : Int) + ((chainF awR 6).length : Nat) = 6 := by rw [awChain.2]; rfl
  simp (disch := first | omega | assumption | exact id rfl | (simp only [okw_wr]; assumption)) only [e5, RC, RO, RM, RT, AV.cells, Option.map_some, AV.one, AV.all1, i64_wrap, u64_wrap, u32_wrap, u8_wrap, Nat.zero_add, Nat.add_zero, Nat.reduceEqDiff, Nat.reduceLeDiff, Nat.reduceAdd, Nat.left_eq_add, Nat.add_eq_left, Nat.add_left_cancel_iff, reduceIte, eq_self, decide_true, decide_false, Bool.not_true, Bool.not_false, reduceCtorEq, List.getElem?_cons_zero, List.getElem?_cons_succ, List.set_cons_zero, List.set_cons_succ]
  refine ⟨(by first | trivial | rfl), ?_⟩
  (refine ⟨by (try simp only []); omega, fun b hb hm => ?_⟩; simp (disch := first | omega | assumption) only [f5.at, f4.at, f3.at, f2.at, f1.old, upd_ne])
end Go.Eng
namespace Go.Eng
open Wr
set_option linter.unusedVariables false
set_option linter.unusedSimpArgs false
theorem little_ok {g : Geom} (h : little g = true) : GOk g := by
  unfold little at h
  simp only [Bool.and_eq_true, decide_eq_true_eq] at h
  obtain ⟨⟨⟨h1, h2⟩, h3⟩, h4⟩ := h
  obtain ⟨a1, a2, a3, a4, a5, a6, a7, a8, a9⟩ := (gright_iff g).mp h1
  have gb : GB g := ⟨a1, a2, by omega, a5, a6⟩
  have hb := blocks_rng gb
  have hp : 0 ≤ pages g := by unfold pages; omega
  exact ⟨a1, a2, by omega, a5, a6, a7, by omega, a9⟩
/-- the document's answer over what Lay has laid -/
theorem c_r14_AllL {p : DP} {g : Geom} {L : List S3} {ep sq : Int} {H : AH} (hg : GOk g) (h : DevAt H p (layD g L)) (hl : L.length ≤ 1000) :
    Acalls P0 S0 10 [dp p, .agg (gC g), I ep, I sq] H fun v H' => Own H' H.n 38 54 fC v (sortF (scanD (layD g L) ep sq (layD g L).zones.length)) ∧ Fr No H H' := by
  obtain ⟨dk, dg⟩ := layD_ok hg L
  have gc := hg.c; have gs := hg.s; have gz := hg.z; have gn := hg.n; have gm := hg.m
  have hdn := (layD_live g L).2
  have hi := dk.i
  have hz := dk.z
  generalize layD g L = d at *
  subst dg
  refine (c_r14_All h (by omega) hdn hz).mono ?_
  rintro v H' ⟨R, o, hs, hp, f⟩
  have hpl := (scanD_place (ep := ep) (sq := sq) hz (by omega) (by omega) (by omega) d.zones.length (Nat.le_refl _)).2.1
  rw [sortF_eq hpl hs hp]
  exact ⟨o, f⟩
/-- scan.All over what Lay has laid, armed -/
theorem c_scan_AllA {p : DP} {g : Geom} {L : List S3} {ep sq : Int} {H : AH} (hg : GOk g) (h : DevAt H p (darm (layD g L) 0)) (hl : L.length ≤ 1000) :
    Acalls P0 S0 8 [dp p, .agg (gC g), I ep, I sq] H fun v H' => v = .tup [.slc none 0 0 0, I 2] ∧ Fr No H H' := by
  obtain ⟨dk, dg⟩ := layD_ok hg L
  have gc := hg.c; have gs := hg.s; have gz := hg.z; have gn := hg.n; have gm := hg.m
  have hdn := (layD_live g L).2
  have hi := dk.i
  have hz := dk.z
  generalize layD g L = d at *
  subst dg
  have e : darm d 0 = { d with left := 0, down := true } := by unfold darm; rw [if_neg (by rw [hdn]; decide)]; rfl
  rw [e] at h
  have hlg := hz.legal (by omega) (by omega) (by omega)
  exact c_scan_AllD (d := { d with left := 0, down := true }) h (show d.illegal ≤ _ by omega) rfl (fun z hz => (hlg z hz).2.1)
set_option maxHeartbeats 4000000 in
theorem c_ScanAlls {g : Geom} {v : AV} {L : List S3} {ep sq : Int} {H : AH} (hs : Sl H.g 39 sC v L) (hv : sb v < H.n) (hr : ∀ s ∈ L, ROk s.r ∧ s.zone < 256) :
    Acalls P0 S0 3 [.agg (gC g), v, I ep, I sq] H fun r H' => r = .bool true := by
  refine Acalls.go m3 rfl ?_
  rw [slots0_4]; unfold b3
  simp (disch := first | omega | assumption | exact id rfl | (simp only [okw_wr]; assumption)) only [RC, RO, RM, RT, AV.cells, Option.map_some, AV.one, AV.all1, i64_wrap, u64_wrap, u32_wrap, u8_wrap, Nat.zero_add, Nat.add_zero, Nat.reduceEqDiff, Nat.reduceLeDiff, Nat.reduceAdd, Nat.left_eq_add, Nat.add_eq_left, Nat.add_left_cancel_iff, reduceIte, eq_self, decide_true, decide_false, Bool.not_true, Bool.not_false, reduceCtorEq, List.getElem?_cons_zero, List.getElem?_cons_succ, List.set_cons_zero, List.set_cons_succ]
  refine c_l14_awake.mono ?_
  rintro _ H1 ⟨rfl, f1⟩
  have q1 := f1.le
  simp (disch := first | omega | assumption | exact id rfl | (simp only [okw_wr]; assumption)) only [f1.old, RC, RO, RM, RT, AV.cells, Option.map_some, AV.one, AV.all1, i64_wrap, u64_wrap, u32_wrap, u8_wrap, Nat.zero_add, Nat.add_zero, Nat.reduceEqDiff, Nat.reduceLeDiff, Nat.reduceAdd, Nat.left_eq_add, Nat.add_eq_left, Nat.add_left_cancel_iff, reduceIte, eq_self, decide_true, decide_false, Bool.not_true, Bool.not_false, reduceCtorEq, List.getElem?_cons_zero, List.getElem?_cons_succ, List.set_cons_zero, List.set_cons_succ]
  refine (c_r14_Little (g := g)).mono ?_
  rintro _ H2 ⟨rfl, f2⟩
  have q2 := f2.n
  have hs2 : Sl H2.g 39 sC v L := hs.fr (by simp (disch := omega) only [f2.at, f1.old, upd_ne])
  generalize hlg : little g = lg
  (simp (disch := first | omega | assumption | exact id rfl | (simp only [okw_wr]; assumption)) only [f2.at, f1.old, hs2.ln, RC, RO, RM, RT, AV.cells, Option.map_some, AV.one, AV.all1, i64_wrap, u64_wrap, u32_wrap, u8_wrap, Nat.zero_add, Nat.add_zero, Nat.reduceEqDiff, Nat.reduceLeDiff, Nat.reduceAdd, Nat.left_eq_add, Nat.add_eq_left, Nat.add_left_cancel_iff, reduceIte, eq_self, decide_true, decide_false, Bool.not_true, Bool.not_false, reduceCtorEq, List.getElem?_cons_zero, List.getElem?_cons_succ, List.set_cons_zero, List.set_cons_succ]; repeat' (first | (refine Gs_split (fun hb => ?_) (fun hb => ?_) <;> (simp only [hb]; (try simp only [decide_eq_true_eq, decide_eq_false_iff_not, Bool.not_eq_true', Bool.not_eq_false', ne_eq, Decidable.not_not, not_true_eq_false] at hb); (try simp (disch := first | omega | assumption | exact id rfl | (simp only [okw_wr]; assumption)) only [f2.at, f1.old, hs2.ln, RC, RO, RM, RT, AV.cells, Option.map_some, AV.one, AV.all1, i64_wrap, u64_wrap, u32_wrap, u8_wrap, Nat.zero_add, Nat.add_zero, Nat.reduceEqDiff, Nat.reduceLeDiff, Nat.reduceAdd, Nat.left_eq_add, Nat.add_eq_left, Nat.add_left_cancel_iff, reduceIte, eq_self, decide_true, decide_false, Bool.not_true, Bool.not_false, reduceCtorEq, List.getElem?_cons_zero, List.getElem?_cons_succ, List.set_cons_zero, List.set_cons_succ]))) | (refine Is_split (fun hb => ?_) (fun hb => ?_) <;> (simp only [hb]; (try simp only [decide_eq_true_eq, decide_eq_false_iff_not, Bool.not_eq_true', Bool.not_eq_false', ne_eq, Decidable.not_not, not_true_eq_false] at hb); (try simp (disch := first | omega | assumption | exact id rfl | (simp only [okw_wr]; assumption)) only [f2.at, f1.old, hs2.ln, RC, RO, RM, RT, AV.cells, Option.map_some, AV.one, AV.all1, i64_wrap, u64_wrap, u32_wrap, u8_wrap, Nat.zero_add, Nat.add_zero, Nat.reduceEqDiff, Nat.reduceLeDiff, Nat.reduceAdd, Nat.left_eq_add, Nat.add_eq_left, Nat.add_left_cancel_iff, reduceIte, eq_self, decide_true, decide_false, Bool.not_true, Bool.not_false, reduceCtorEq, List.getElem?_cons_zero, List.getElem?_cons_succ, List.set_cons_zero, List.set_cons_succ]))) | (refine Dg_split (fun hb => ?_) (fun hb => ?_) <;> (simp only [hb]; (try simp only [decide_eq_true_eq, decide_eq_false_iff_not, Bool.not_eq_true', Bool.not_eq_false', ne_eq, Decidable.not_not, not_true_eq_false] at hb); (try simp (disch := first | omega | assumption | exact id rfl | (simp only [okw_wr]; assumption)) only [f2.at, f1.old, hs2.ln, RC, RO, RM, RT, AV.cells, Option.map_some, AV.one, AV.all1, i64_wrap, u64_wrap, u32_wrap, u8_wrap, Nat.zero_add, Nat.add_zero, Nat.reduceEqDiff, Nat.reduceLeDiff, Nat.reduceAdd, Nat.left_eq_add, Nat.add_eq_left, Nat.add_left_cancel_iff, reduceIte, eq_self, decide_true, decide_false, Bool.not_true, Bool.not_false, reduceCtorEq, List.getElem?_cons_zero, List.getElem?_cons_succ, List.set_cons_zero, List.set_cons_succ])))))
  · refine c_l14_awake.mono ?_
    rintro _ H3 ⟨rfl, f3⟩
    simp (disch := first | omega | assumption | exact id rfl | (simp only [okw_wr]; assumption)) only [RC, RO, RM, RT, AV.cells, Option.map_some, AV.one, AV.all1, i64_wrap, u64_wrap, u32_wrap, u8_wrap, Nat.zero_add, Nat.add_zero, Nat.reduceEqDiff, Nat.reduceLeDiff, Nat.reduceAdd, Nat.left_eq_add, Nat.add_eq_left, Nat.add_left_cancel_iff, reduceIte, eq_self, decide_true, decide_false, Bool.not_true, Bool.not_false, reduceCtorEq, List.getElem?_cons_zero, List.getElem?_cons_succ, List.set_cons_zero, List.set_cons_succ]
  · refine c_l14_awake.mono ?_
    rintro _ H3 ⟨rfl, f3⟩
    simp (disch := first | omega | assumption | exact id rfl | (simp only [okw_wr]; assumption)) only [RC, RO, RM, RT, AV.cells, Option.map_some, AV.one, AV.all1, i64_wrap, u64_wrap, u32_wrap, u8_wrap, Nat.zero_add, Nat.add_zero, Nat.reduceEqDiff, Nat.reduceLeDiff, Nat.reduceAdd, Nat.left_eq_add, Nat.add_eq_left, Nat.add_left_cancel_iff, reduceIte, eq_self, decide_true, decide_false, Bool.not_true, Bool.not_false, reduceCtorEq, List.getElem?_cons_zero, List.getElem?_cons_succ, List.set_cons_zero, List.set_cons_succ]
  · have hgk : GOk g := little_ok (hlg.trans (by assumption))
    refine (c_r14_Lay hgk hs2 (by omega) (by omega) hr).mono ?_
    rintro _ H3 ⟨p, rfl, d3, hp3, f3⟩
    have q3 := f3.n
    simp (disch := first | omega | assumption | exact id rfl | (simp only [okw_wr]; assumption)) only [f3.at, f2.at, f1.old, RC, RO, RM, RT, AV.cells, Option.map_some, AV.one, AV.all1, i64_wrap, u64_wrap, u32_wrap, u8_wrap, Nat.zero_add, Nat.add_zero, Nat.reduceEqDiff, Nat.reduceLeDiff, Nat.reduceAdd, Nat.left_eq_add, Nat.add_eq_left, Nat.add_left_cancel_iff, reduceIte, eq_self, decide_true, decide_false, Bool.not_true, Bool.not_false, reduceCtorEq, List.getElem?_cons_zero, List.getElem?_cons_succ, List.set_cons_zero, List.set_cons_succ]
    refine (c_scan_AllL hgk d3 (by omega)).mono ?_
    rintro _ H4 ⟨w, rfl, o4, f4⟩
    have q4 := f4.n
    have d4 := d3.frNo f4
    generalize hR : sortF (scanD (layD g L) ep sq (layD g L).zones.length) = R at o4
    have hRl : R.length < 1000000 := by
      obtain ⟨dk, dg⟩ := layD_ok hgk L
      have hz := dk.z
      have := scanD_len (ep := ep) (sq := sq) hz (by rw [dg]; have := hgk.n; have := hgk.m; omega) (layD g L).zones.length
      have hl := hz.l
      rw [dg] at hl
      have hzn : zones g ≤ 64 := hgk.z
      rw [← hR, sortF_len]; omega
    have hne : decide ((0 : Int) ≠ 0) = false := rfl
    simp (disch := first | omega | assumption | exact id rfl | (simp only [okw_wr]; assumption)) only [f4.at, f3.at, f2.at, f1.old, hne, RC, RO, RM, RT, AV.cells, Option.map_some, AV.one, AV.all1, i64_wrap, u64_wrap, u32_wrap, u8_wrap, Nat.zero_add, Nat.add_zero, Nat.reduceEqDiff, Nat.reduceLeDiff, Nat.reduceAdd, Nat.left_eq_add, Nat.add_eq_left, Nat.add_left_cancel_iff, reduceIte, eq_self, decide_true, decide_false, Bool.not_true, Bool.not_false, reduceCtorEq, List.getElem?_cons_zero, List.getElem?_cons_succ, List.set_cons_zero, List.set_cons_succ]
    refine (c_r14_AllL hgk d4 (by omega)).mono ?_
    rintro w5 H5 ⟨o5, f5⟩
    have q5 := f5.n
    rw [hR] at o5
    have d5 := d4.frNo f5
    simp (disch := first | omega | assumption | exact id rfl | (simp only [okw_wr]; assumption)) only [RC, RO, RM, RT, AV.cells, Option.map_some, AV.one, AV.all1, i64_wrap, u64_wrap, u32_wrap, u8_wrap, Nat.zero_add, Nat.add_zero, Nat.reduceEqDiff, Nat.reduceLeDiff, Nat.reduceAdd, Nat.left_eq_add, Nat.add_eq_left, Nat.add_left_cancel_iff, reduceIte, eq_self, decide_true, decide_false, Bool.not_true, Bool.not_false, reduceCtorEq, List.getElem?_cons_zero, List.getElem?_cons_succ, List.set_cons_zero, List.set_cons_succ]
    refine (c_r14_Same (o4.sl.fr (f5.at (o4.lt' (by omega)))) o5.sl (Nat.lt_of_lt_of_le (o4.lt' (by omega)) q5) (o5.lt' (by omega)) hRl).mono ?_
    rintro _ H6 ⟨rfl, f6⟩
    have q6 := f6.n
    have d6 := d5.frNo f6
    rw [decide_eq_true rfl]
    simp (disch := first | omega | assumption | exact id rfl | (simp only [okw_wr]; assumption)) only [RC, RO, RM, RT, AV.cells, Option.map_some, AV.one, AV.all1, i64_wrap, u64_wrap, u32_wrap, u8_wrap, Nat.zero_add, Nat.add_zero, Nat.reduceEqDiff, Nat.reduceLeDiff, Nat.reduceAdd, Nat.left_eq_add, Nat.add_eq_left, Nat.add_left_cancel_iff, reduceIte, eq_self, decide_true, decide_false, Bool.not_true, Bool.not_false, reduceCtorEq, List.getElem?_cons_zero, List.getElem?_cons_succ, List.set_cons_zero, List.set_cons_succ]
    refine (c_dev_Illegal d6).mono ?_
    rintro _ H7 ⟨rfl, f7⟩
    have q7 := f7.n
    have d7 := d6.frNo f7
    simp (disch := first | omega | assumption | exact id rfl | (simp only [okw_wr]; assumption)) only [RC, RO, RM, RT, AV.cells, Option.map_some, AV.one, AV.all1, i64_wrap, u64_wrap, u32_wrap, u8_wrap, Nat.zero_add, Nat.add_zero, Nat.reduceEqDiff, Nat.reduceLeDiff, Nat.reduceAdd, Nat.left_eq_add, Nat.add_eq_left, Nat.add_left_cancel_iff, reduceIte, eq_self, decide_true, decide_false, Bool.not_true, Bool.not_false, reduceCtorEq, List.getElem?_cons_zero, List.getElem?_cons_succ, List.set_cons_zero, List.set_cons_succ]
    refine (c_dev_Arm d7 (by omega)).mono ?_
    rintro _ H8 s8
    have q8 := s8.fr.n
    have g8 : H8.g H.n = .cells (gC g) 23 false := by
      rw [s8.fr.same _ (by omega) (fun hm => by have := hp3 _ (.inl hm); omega)]
      simp (disch := omega) only [f7.at, f6.at, f5.at, f4.at, f3.at, f2.at, f1.old, upd_same]
    simp (disch := first | omega | assumption | exact id rfl | (simp only [okw_wr]; assumption)) only [g8, RC, RO, RM, RT, AV.cells, Option.map_some, AV.one, AV.all1, i64_wrap, u64_wrap, u32_wrap, u8_wrap, Nat.zero_add, Nat.add_zero, Nat.reduceEqDiff, Nat.reduceLeDiff, Nat.reduceAdd, Nat.left_eq_add, Nat.add_eq_left, Nat.add_left_cancel_iff, reduceIte, eq_self, decide_true, decide_false, Bool.not_true, Bool.not_false, reduceCtorEq, List.getElem?_cons_zero, List.getElem?_cons_succ, List.set_cons_zero, List.set_cons_succ]
    refine (c_scan_AllA hgk s8.at' (by omega)).mono ?_
    rintro _ H9 ⟨rfl, f9⟩
    have d9 := s8.at'.frNo f9
    have hz0 : decide (((0 : Nat) : Int) = 0) = true := rfl
    simp (disch := first | omega | assumption | exact id rfl | (simp only [okw_wr]; assumption)) only [hz0, RC, RO, RM, RT, AV.cells, Option.map_some, AV.one, AV.all1, i64_wrap, u64_wrap, u32_wrap, u8_wrap, Nat.zero_add, Nat.add_zero, Nat.reduceEqDiff, Nat.reduceLeDiff, Nat.reduceAdd, Nat.left_eq_add, Nat.add_eq_left, Nat.add_left_cancel_iff, reduceIte, eq_self, decide_true, decide_false, Bool.not_true, Bool.not_false, reduceCtorEq, List.getElem?_cons_zero, List.getElem?_cons_succ, List.set_cons_zero, List.set_cons_succ]
    refine (c_dev_Illegal d9).mono ?_
    rintro _ H10 ⟨rfl, f10⟩
    have hil : (darm (layD g L) 0).illegal = (layD g L).illegal := by unfold darm; split <;> rfl
    simp (disch := first | omega | assumption | exact id rfl | (simp only [okw_wr]; assumption)) only [hil, RC, RO, RM, RT, AV.cells, Option.map_some, AV.one, AV.all1, i64_wrap, u64_wrap, u32_wrap, u8_wrap, Nat.zero_add, Nat.add_zero, Nat.reduceEqDiff, Nat.reduceLeDiff, Nat.reduceAdd, Nat.left_eq_add, Nat.add_eq_left, Nat.add_left_cancel_iff, reduceIte, eq_self, decide_true, decide_false, Bool.not_true, Bool.not_false, reduceCtorEq, List.getElem?_cons_zero, List.getElem?_cons_succ, List.set_cons_zero, List.set_cons_succ]
end Go.Eng
