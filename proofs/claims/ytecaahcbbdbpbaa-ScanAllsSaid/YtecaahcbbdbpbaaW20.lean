/-
  R10: Walks of windrowref14.All.
  R9: Walks of windrowref14.Lay.
-/
import Derived.Test.YtecaahcbbdbpbaaW19
namespace Go.Eng
open Wr
set_option linter.unusedVariables false
set_option linter.unusedSimpArgs false
def layAt (d : Dev) (s : S3) : At := ⟨d.g.conv + (s.zone : Int) % d.g.seq, (zat d.zones (d.g.conv + (s.zone : Int) % d.g.seq)).point⟩
def layPage (s : S3) : Page := if s.junk then Bytes.zero 64 else refLay s.r
def layS (d : Dev) (s : S3) : Dev := (dwrite d (layAt d s) (layPage s)).1
def layD (g : Geom) (l : List S3) : Dev := l.foldl layS (dnew g)
theorem dcount_g (d : Dev) : (dcount d).g = d.g ∧ (dcount d).zones = d.zones ∧ (dcount d).illegal = d.illegal ∧ (dcount d).cached = d.cached ∧ (dcount d).now = d.now := by
  unfold dcount; split <;> exact ⟨rfl, rfl, rfl, rfl, rfl⟩
theorem zwrite_ok {g : Geom} {L : List Zone} {a : At} (h : ZOk g L) (hg : GOk g) : ZOk g (zwrite g L a).1 := by
  unfold zwrite
  split
  · exact h
  · rename_i ht
    have ht : there g a = true := by simpa using ht
    obtain ⟨z1, z2, z3, z4⟩ := there_zone hg ht
    have hl := h.l
    simp only []
    split
    · exact h
    · rename_i h4
      split
      · exact h
      · split
        · exact h
        · rename_i hp
          split
          · exact h
          · have hz : g.conv ≤ a.zone := by
              apply Classical.byContradiction
              intro hc
              have := h.c a.zone.toNat (by omega) (by omega)
              rw [show ((a.zone.toNat : Nat) : Int) = a.zone by omega] at this
              rw [this] at h4; exact h4 rfl
            have hsz : sectors g a.zone = g.size := by unfold sectors; rw [if_neg (by omega), if_neg (by omega), if_neg (by omega)]
            refine ⟨by simp [zput, hl], ?_, ?_⟩
            · intro z hz1 hz2
              have hne : a.zone.toNat ≠ z := by omega
              have := h.c z (by simpa [zput] using hz1) hz2
              rw [← this]; unfold zat zput
              rw [List.getD_eq_getElem?_getD, List.getElem?_set, if_neg (by simpa using hne), List.getD_eq_getElem?_getD]
            · intro z hz1 hz2
              have hz1' : z < L.length := by simpa [zput] using hz1
              by_cases he : a.zone.toNat = z
              · have e : zat (zput L a.zone ⟨if (zat L a.zone).point + 1 = g.size then 3 else 1, (zat L a.zone).point + 1⟩) z = ⟨if (zat L a.zone).point + 1 = g.size then 3 else 1, (zat L a.zone).point + 1⟩ := by
                  unfold zat zput
                  rw [List.getD_eq_getElem?_getD, List.getElem?_set, if_pos (by simpa using he), if_pos (by omega)]; rfl
                rw [e]
                refine ⟨?_, ?_, ?_⟩
                · simp only []; split <;> omega
                · simp only []; omega
                · simp only []; omega
              · have := h.s z hz1' hz2
                have e : zat (zput L a.zone ⟨if (zat L a.zone).point + 1 = g.size then 3 else 1, (zat L a.zone).point + 1⟩) z = zat L z := by
                  unfold zat zput
                  rw [List.getD_eq_getElem?_getD, List.getElem?_set, if_neg (by simpa using he), List.getD_eq_getElem?_getD]
                rw [e]; exact this
theorem znew_ok {g : Geom} (h : GOk g) : ZOk g (znew g) := by
  have h1 := h.c; have h2 := h.s; have h3 := h.n
  refine ⟨by simp [znew, zones]; omega, ?_, ?_⟩
  · intro z hz1 hz2
    unfold zat znew
    rw [List.getD_eq_getElem?_getD, List.getElem?_append_left (by simp; omega), Int.toNat_natCast, List.getElem?_replicate, if_pos (by omega)]; rfl
  · intro z hz1 hz2
    have hl : (znew g).length = g.conv.toNat + g.seq.toNat := by simp [znew]
    have : zat (znew g) z = ⟨0, 0⟩ := by
      unfold zat znew
      rw [List.getD_eq_getElem?_getD, List.getElem?_append_right (by simp; omega), Int.toNat_natCast, List.length_replicate, List.getElem?_replicate, if_pos (by omega)]; rfl
    rw [this]; exact ⟨by decide, by decide, by show (0 : Int) ≤ g.size; omega⟩
/-- a device that has been written to some times -/
structure DOk (d : Dev) (n : Nat) : Prop where
  z : ZOk d.g d.zones
  i : 0 ≤ d.illegal ∧ d.illegal ≤ n
  c : d.cached.length ≤ n
theorem DOk.write {d : Dev} {n : Nat} (h : DOk d n) (hg : GOk d.g) (a : At) (p : Page) : DOk (dwrite d a p).1 (n + 1) ∧ (dwrite d a p).1.g = d.g := by
  have hi := h.i; have hc := h.c
  unfold dwrite
  split
  · exact ⟨⟨h.z, ⟨hi.1, by show d.illegal ≤ ((n + 1 : Nat) : Int); omega⟩, by show d.cached.length ≤ n + 1; omega⟩, rfl⟩
  · split
    rename_i l e he
    have hz : ZOk d.g l := by have := zwrite_ok (a := a) h.z hg; rw [he] at this; exact this
    split
    · rename_i hne
      unfold dcheck; rw [if_pos hne]; exact ⟨⟨h.z, ⟨by show 0 ≤ d.illegal + 1; omega, by show d.illegal + 1 ≤ ((n + 1 : Nat) : Int); omega⟩, by show d.cached.length ≤ n + 1; omega⟩, rfl⟩
    · obtain ⟨e1, e2, e3, e4, e5⟩ := dcount_g { d with zones := l, now := mset d.now a p, cached := d.cached ++ [(a, p)] }
      refine ⟨⟨by rw [e1, e2]; exact hz, by rw [e3]; show 0 ≤ d.illegal ∧ d.illegal ≤ ((n + 1 : Nat) : Int); omega, ?_⟩, e1⟩
      rw [e4]; simp only [List.length_append, List.length_cons, List.length_nil]; omega
theorem DOk.new {g : Geom} (h : GOk g) : DOk (dnew g) 0 := ⟨znew_ok h, ⟨Int.le_refl _, Int.le_refl _⟩, Nat.le_refl _⟩
theorem layD_ok {g : Geom} (h : GOk g) : ∀ (l : List S3), DOk (layD g l) l.length ∧ (layD g l).g = g := by
  have : ∀ (l : List S3) (d : Dev) (n : Nat), DOk d n → d.g = g → DOk (l.foldl layS d) (n + l.length) ∧ (l.foldl layS d).g = g := by
    intro l
    induction l with
    | nil => intro d n h1 h2; exact ⟨h1, h2⟩
    | cons s l ih =>
      intro d n h1 h2
      obtain ⟨w1, w2⟩ := h1.write (by rw [h2]; exact h) (layAt d s) (layPage s)
      have := ih (layS d s) (n + 1) w1 (w2.trans h2)
      rw [List.length_cons, show n + (l.length + 1) = n + 1 + l.length by omega]; exact this
  intro l
  have := this l (dnew g) 0 (DOk.new h) rfl
  rw [Nat.zero_add] at this; exact this
theorem layD_snoc (g : Geom) (l : List S3) (s : S3) : layD g (l ++ [s]) = layS (layD g l) s := by unfold layD; rw [List.foldl_append]; rfl
theorem takeS_snoc {L : List S3} {i : Nat} (h : i < L.length) : L.take (i + 1) = L.take i ++ [L.getD i s30] := by
  rw [List.take_succ_eq_append_getElem h, List.getD_eq_getElem?_getD, List.getElem?_eq_getElem h]; rfl
set_option maxHeartbeats 2000000 in
theorem c_r14_Lay {g : Geom} {v : AV} {L : List S3} {H : AH} (hg : GOk g) (hs : Sl H.g 39 sC v L) (hv : sb v < H.n) (hl : L.length ≤ 1000) (hr : ∀ s ∈ L, ROk s.r ∧ s.zone < 256) :
    Acalls P0 S0 7 [.agg (gC g), v] H fun r H' => ∃ p, r = dp p ∧ DevAt H' p (layD g L) ∧ (∀ c, p.has c → H.n ≤ c) ∧ Fr No H H' := by
  have gc := hg.c; have gs := hg.s; have gz := hg.z; have gn := hg.n; have gm := hg.m
  refine Acalls.go m7 rfl ?_
  rw [slots0_2]; unfold b7
  simp (disch := first | omega | assumption | exact id rfl | (simp only [okw_wr]; assumption)) only [RC, RO, RM, RT, AV.cells, Option.map_some, AV.one, AV.all1, i64_wrap, u64_wrap, u32_wrap, u8_wrap, Nat.zero_add, Nat.add_zero, Nat.reduceEqDiff, Nat.reduceLeDiff, Nat.reduceAdd, Nat.left_eq_add, Nat.add_eq_left, Nat.add_left_cancel_iff, reduceIte, eq_self, decide_true, decide_false, Bool.not_true, Bool.not_false, reduceCtorEq, List.getElem?_cons_zero, List.getElem?_cons_succ, List.set_cons_zero, List.set_cons_succ]
  refine (c_dev_New hg (by show 0 < H.n + 1; omega)).mono ?_
  rintro _ H1 ⟨p, rfl, d1, hp, f1⟩
  dsimp only at hp
  have q1 := f1.le
  simp (disch := first | omega | assumption | exact id rfl | (simp only [okw_wr]; assumption)) only [RC, RO, RM, RT, AV.cells, Option.map_some, AV.one, AV.all1, i64_wrap, u64_wrap, u32_wrap, u8_wrap, Nat.zero_add, Nat.add_zero, Nat.reduceEqDiff, Nat.reduceLeDiff, Nat.reduceAdd, Nat.left_eq_add, Nat.add_eq_left, Nat.add_left_cancel_iff, reduceIte, eq_self, decide_true, decide_false, Bool.not_true, Bool.not_false, reduceCtorEq, List.getElem?_cons_zero, List.getElem?_cons_succ, List.set_cons_zero, List.set_cons_succ]
  refine Cs_loop (fun m T H' => ∃ i : Nat, m + i = L.length ∧ T 1 = v ∧ T 2 = .ptr (some (H.n, 0)) ∧ T 6 = I i ∧ (∃ p, T 5 = dp p ∧ DevAt H' p (layD g (L.take i)) ∧ (∀ c, p.has c → H.n + 1 ≤ c)) ∧ H.n + 1 ≤ H'.n ∧ (∀ b, b < H.n + 1 → H'.g b = H1.g b)) ⟨0, rfl, ?_⟩ ?_
  · simp (disch := omega) only [upd_ne, upd_same]
    exact ⟨(by first | trivial | rfl), (by first | trivial | rfl), rfl, ⟨p, rfl, d1, hp⟩, by omega, fun b hb => (by first | trivial | rfl)⟩
  · rintro m T H2 ⟨i, hm, t1, t2, t6, ⟨p2, t5, d2, hp2⟩, q2, k2⟩
    have kv : H2.g (sb v) = H.g (sb v) := by rw [k2 _ (by omega)]; simp (disch := omega) only [f1.old, upd_ne]
    have g2 : H2.g H.n = .cells (gC g) 23 false := by rw [k2 _ (by omega)]; simp (disch := omega) only [f1.old, upd_same]
    simp (disch := first | omega | assumption | exact id rfl | (simp only [okw_wr]; assumption)) only [t1, t2, t6, t5, hs.ln, RC, RO, RM, RT, AV.cells, Option.map_some, AV.one, AV.all1, i64_wrap, u64_wrap, u32_wrap, u8_wrap, Nat.zero_add, Nat.add_zero, Nat.reduceEqDiff, Nat.reduceLeDiff, Nat.reduceAdd, Nat.left_eq_add, Nat.add_eq_left, Nat.add_left_cancel_iff, reduceIte, eq_self, decide_true, decide_false, Bool.not_true, Bool.not_false, reduceCtorEq, List.getElem?_cons_zero, List.getElem?_cons_succ, List.set_cons_zero, List.set_cons_succ]
    refine Is_split (fun hb => ?_) (fun hb => ?_)
    · have hi := of_decide_eq_true hb
      simp only [hb]
      have hlt : L.getD (i : Int).toNat s30 ∈ L := by
        rw [Int.toNat_natCast, List.getD_eq_getElem?_getD, List.getElem?_eq_getElem (by omega)]; exact List.getElem_mem _
      obtain ⟨hro, hz8⟩ := hr _ hlt
      obtain ⟨dk, dg⟩ := layD_ok hg (L.take i)
      have hsn : layD g (L.take (i + 1)) = layS (layD g (L.take i)) (L.getD (i : Int).toNat s30) := by rw [takeS_snoc (by omega), layD_snoc, Int.toNat_natCast]
      have htl := List.length_take_le i L
      have c0 := hs.c0 s30 (i := i) (by omega) (by omega)
      have c38 := hs.co s30 (i := i) (o := 38) (by omega) (by omega)
      have cN1 := hs.cNp s30 (i := i) (o := 1) (n := 37) (by omega) (by omega)
      generalize hs3 : L.getD (i : Int).toNat s30 = s at *
      rw [sC_0] at c0
      rw [sC_38] at c38
      rw [sC_r] at cN1
      generalize hdd : layD g (L.take i) = d at *
      have hmod : ((s.zone : Int)).tmod g.seq = (s.zone : Int) % g.seq := Int.tmod_eq_emod_of_nonneg (by omega)
      have hm1 := Int.emod_nonneg (s.zone : Int) (show g.seq ≠ 0 by omega)
      have hm2 := Int.emod_lt_of_pos (s.zone : Int) (show 0 < g.seq by omega)
      have hla : layAt d s = ⟨g.conv + (s.zone : Int) % g.seq, (zat d.zones (g.conv + (s.zone : Int) % g.seq)).point⟩ := by unfold layAt; rw [dg]
      generalize hzz : (s.zone : Int) % g.seq = zz at *
      simp (disch := first | omega | assumption | exact id rfl | (simp only [okw_wr]; assumption)) only [t1, t2, t6, t5, g2, kv, c0, hs.ix, hmod, RC, RO, RM, RT, AV.cells, Option.map_some, AV.one, AV.all1, i64_wrap, u64_wrap, u32_wrap, u8_wrap, Nat.zero_add, Nat.add_zero, Nat.reduceEqDiff, Nat.reduceLeDiff, Nat.reduceAdd, Nat.left_eq_add, Nat.add_eq_left, Nat.add_left_cancel_iff, reduceIte, eq_self, decide_true, decide_false, Bool.not_true, Bool.not_false, reduceCtorEq, List.getElem?_cons_zero, List.getElem?_cons_succ, List.set_cons_zero, List.set_cons_succ]
      refine (c_dev_Zones d2).mono ?_
      rintro zs H3 ⟨o3, f3⟩
      have q3 := f3.n
      have hzl : d.zones.length = (zones g).toNat := by rw [d2.zl, dg]
      have hzn : (zones g).toNat = g.conv.toNat + g.seq.toNat := by unfold zones; omega
      have hge : decide (g.conv + zz ≥ (d.zones.length : Int)) = false := decide_eq_false (by rw [hzl, hzn]; omega)
      have g3 : H3.g H.n = .cells (gC g) 23 false := by rw [f3.at (by omega)]; exact g2
      have kv3 : H3.g (sb v) = H.g (sb v) := by rw [f3.at (by omega)]; exact kv
      have tz := bC_len (Bytes.zero 64)
      have tz1 := bC_one (Bytes.zero 64)
      have hlz := o3.lt (by omega)
      have hzero : bC (Bytes.zero 64) = List.replicate 64 (AV.int .u8 0) := by kernel_rfl
      have ixz := o3.sl.ix (i := g.conv + zz) (kd := .i64) (by omega)
      have cz1 := o3.sl.co ⟨0, 0⟩ (i := g.conv + zz) (o := 1) (by omega) (by omega)
      rw [show (zC (d.zones.getD (g.conv + zz).toNat ⟨0, 0⟩))[1]? = some (I (zat d.zones (g.conv + zz)).point) from rfl] at cz1
      have wadd : IntKind.i64.wrap ((i : Int) + 1) = ((i + 1 : Nat) : Int) := by rw [i64_wrap (by omega)]; rfl
      simp (disch := first | omega | assumption | exact id rfl | (simp only [okw_wr]; assumption)) only [o3.sl.ln, hge, kv3, c38, hs.ix, fill_nil, hzero, t1, t6, RC, RO, RM, RT, AV.cells, Option.map_some, AV.one, AV.all1, i64_wrap, u64_wrap, u32_wrap, u8_wrap, Nat.zero_add, Nat.add_zero, Nat.reduceEqDiff, Nat.reduceLeDiff, Nat.reduceAdd, Nat.left_eq_add, Nat.add_eq_left, Nat.add_left_cancel_iff, reduceIte, eq_self, decide_true, decide_false, Bool.not_true, Bool.not_false, reduceCtorEq, List.getElem?_cons_zero, List.getElem?_cons_succ, List.set_cons_zero, List.set_cons_succ]
      have hfa : fillA [AV.int .i64 0, .int .i64 0] [(0, 1, .int .i64 (g.conv + zz)), (1, 1, I (zat d.zones (g.conv + zz)).point)] = some (aC (layAt d s)) := by rw [hla]; rfl
      refine Is_split (fun hb2 => ?A) (fun hb2 => ?B)
      case' A =>
        have hj : s.junk = false := by simpa using hb2
        have hpg : layPage s = refLay s.r := by unfold layPage; rw [if_neg (by rw [hj]; decide)]
        have tr := bC_len (refLay s.r)
        have tr1 := bC_one (refLay s.r)
        have tr2 : (List.replicate 64 (AV.int .u8 0)).length = (bC (refLay s.r)).length := by rw [bC_len, List.length_replicate]
        simp only [hb2]
        simp (disch := first | omega | assumption | exact id rfl | (simp only [okw_wr]; assumption)) only [t1, t6, kv3, hs.ix, cN1, RC, RO, RM, RT, AV.cells, Option.map_some, AV.one, AV.all1, i64_wrap, u64_wrap, u32_wrap, u8_wrap, Nat.zero_add, Nat.add_zero, Nat.reduceEqDiff, Nat.reduceLeDiff, Nat.reduceAdd, Nat.left_eq_add, Nat.add_eq_left, Nat.add_left_cancel_iff, reduceIte, eq_self, decide_true, decide_false, Bool.not_true, Bool.not_false, reduceCtorEq, List.getElem?_cons_zero, List.getElem?_cons_succ, List.set_cons_zero, List.set_cons_succ]
        refine (c_r06_Lay hro).mono ?_
        rintro _ H4 ⟨rfl, f4⟩
        have q4 := f4.le
        generalize hpp : refLay s.r = pg at *
        simp (disch := first | omega | assumption | exact id rfl | (simp only [okw_wr]; assumption)) only [t1, t2, t6, t5, hfa, f4.old, o3.sl.ix, cz1, RC, RO, RM, RT, AV.cells, Option.map_some, AV.one, AV.all1, i64_wrap, u64_wrap, u32_wrap, u8_wrap, Nat.zero_add, Nat.add_zero, Nat.reduceEqDiff, Nat.reduceLeDiff, Nat.reduceAdd, Nat.left_eq_add, Nat.add_eq_left, Nat.add_left_cancel_iff, reduceIte, eq_self, decide_true, decide_false, Bool.not_true, Bool.not_false, reduceCtorEq, List.getElem?_cons_zero, List.getElem?_cons_succ, List.set_cons_zero, List.set_cons_succ]
        refine Acalls_cut fun H5 e5 => ?_
        have n5 : H5.n = H4.n := by rw [e5]
        have f5 : Fr No H2 H5 := by rw [e5]; (refine ⟨by (try simp only []); omega, fun b hb hm => ?_⟩; simp (disch := first | omega | assumption) only [f4.old, f3.at, upd_ne])
        have t5' : T 5 = dp p2 := t5
      case' B =>
        have hj : s.junk = true := by simpa using hb2
        have hpg : layPage s = Bytes.zero 64 := by unfold layPage; rw [if_pos hj]
        simp only [hb2]
        rw [← hzero]
        generalize hpp : Bytes.zero 64 = pg at *
        simp (disch := first | omega | assumption | exact id rfl | (simp only [okw_wr]; assumption)) only [t1, t2, t6, t5, hfa, o3.sl.ix, cz1, RC, RO, RM, RT, AV.cells, Option.map_some, AV.one, AV.all1, i64_wrap, u64_wrap, u32_wrap, u8_wrap, Nat.zero_add, Nat.add_zero, Nat.reduceEqDiff, Nat.reduceLeDiff, Nat.reduceAdd, Nat.left_eq_add, Nat.add_eq_left, Nat.add_left_cancel_iff, reduceIte, eq_self, decide_true, decide_false, Bool.not_true, Bool.not_false, reduceCtorEq, List.getElem?_cons_zero, List.getElem?_cons_succ, List.set_cons_zero, List.set_cons_succ]
        refine Acalls_cut fun H5 e5 => ?_
        have n5 : H5.n = H3.n + 1 := by rw [e5]
        have f5 : Fr No H2 H5 := by rw [e5]; (refine ⟨by (try simp only []); omega, fun b hb hm => ?_⟩; simp (disch := first | omega | assumption) only [f3.at, upd_ne])
        have q4 : H3.n + 1 ≤ H3.n + 1 := Nat.le_refl _
        have t5' : T 5 = dp p2 := t5
      all_goals
        have d5 := d2.frNo f5
        have hi5 := dk.i
        have hc5 := dk.c
        refine (c_dev_Write d5 (by omega) (by omega)).mono ?_
        rintro _ H6 ⟨p6, rfl, w6⟩
        have q5 := f5.n
        have q6 := w6.fr.n
        simp (disch := first | omega | assumption | exact id rfl | (simp only [okw_wr]; assumption)) only [t1, t2, t6, t5, wadd, RC, RO, RM, RT, AV.cells, Option.map_some, AV.one, AV.all1, i64_wrap, u64_wrap, u32_wrap, u8_wrap, Nat.zero_add, Nat.add_zero, Nat.reduceEqDiff, Nat.reduceLeDiff, Nat.reduceAdd, Nat.left_eq_add, Nat.add_eq_left, Nat.add_left_cancel_iff, reduceIte, eq_self, decide_true, decide_false, Bool.not_true, Bool.not_false, reduceCtorEq, List.getElem?_cons_zero, List.getElem?_cons_succ, List.set_cons_zero, List.set_cons_succ]
        refine ⟨m - 1, by omega, i + 1, by omega, (by first | trivial | rfl), (by first | trivial | rfl), (by first | trivial | rfl), ⟨p6, ?_, ?_, ?_⟩, by omega, ?_⟩
        · show dp p2 = dp p6
          unfold dp; rw [w6.b]
        · rw [hsn]; unfold layS; rw [hpg]; exact w6.at'
        · intro c hc
          rcases hc with hc | hc
          · rcases w6.fm c hc with h | h
            · exact hp2 c (.inl h)
            · omega
          · rcases w6.fz with h | h | h
            · exact hp2 c (.inr (hc.trans h))
            · exact h.elim
            · omega
        · intro b hb
          rw [w6.fr.same b (by omega) (fun hm => ?_), f5.at (by omega), k2 b hb]
          have := hp2 b (.inl hm); omega
    · have hi : i = L.length := by have := of_decide_eq_false hb; omega
      simp only [hb]
      simp (disch := first | omega | assumption | exact id rfl | (simp only [okw_wr]; assumption)) only [t1, t2, t6, t5, RC, RO, RM, RT, AV.cells, Option.map_some, AV.one, AV.all1, i64_wrap, u64_wrap, u32_wrap, u8_wrap, Nat.zero_add, Nat.add_zero, Nat.reduceEqDiff, Nat.reduceLeDiff, Nat.reduceAdd, Nat.left_eq_add, Nat.add_eq_left, Nat.add_left_cancel_iff, reduceIte, eq_self, decide_true, decide_false, Bool.not_true, Bool.not_false, reduceCtorEq, List.getElem?_cons_zero, List.getElem?_cons_succ, List.set_cons_zero, List.set_cons_succ]
      refine ⟨p2, rfl, by rw [hi, List.take_length] at d2; exact d2, fun c hc => ?_, ?_⟩
      · have := hp2 c hc; omega
      · refine ⟨by omega, fun b hb _ => ?_⟩
        rw [k2 _ (by omega)]; simp (disch := omega) only [f1.old, upd_ne]
end Go.Eng
namespace Go.Eng
open Wr
set_option linter.unusedVariables false
set_option linter.unusedSimpArgs false
def f0 : Wr.Found := ⟨0, rec0⟩
/-- the order of what is found -/
def flt (a b : Wr.Found) : Prop := a.r.seq < b.r.seq ∨ (a.r.seq = b.r.seq ∧ a.place < b.place)
theorem ins_get {L : List Wr.Found} {k : Nat} {y : Wr.Found} (h0 : 0 < k) (hk : k ≤ L.length) : (L.take k ++ y :: L.drop k).getD (k - 1) f0 = L.getD (k - 1) f0 := by
  rw [List.getD_eq_getElem?_getD, List.getElem?_append_left (by rw [List.length_take]; omega), List.getElem?_take, if_pos (by omega), List.getD_eq_getElem?_getD]
theorem ins_set {L : List Wr.Found} {k : Nat} {x y : Wr.Found} (hk : k ≤ L.length) : (L.take k ++ y :: L.drop k).set k x = L.take k ++ x :: L.drop k := by
  rw [List.set_append_right (s := L.take k) _ _ (by rw [List.length_take]; omega), List.length_take, show k - min k L.length = 0 by omega]; rfl
theorem ins_step {L : List Wr.Found} {k : Nat} {y : Wr.Found} (h0 : 0 < k) (hk : k ≤ L.length) : (L.take k ++ y :: L.drop k).set k (L.getD (k - 1) f0) = L.take (k - 1) ++ L.getD (k - 1) f0 :: L.drop (k - 1) := by
  rw [ins_set hk]
  obtain ⟨j, rfl⟩ : ∃ j, k = j + 1 := ⟨k - 1, by omega⟩
  have e : L.getD j f0 = L[j] := by rw [List.getD_eq_getElem?_getD, List.getElem?_eq_getElem (by omega)]; rfl
  rw [show j + 1 - 1 = j by omega, e, List.take_succ_eq_append_getElem (by omega), List.append_assoc, List.drop_eq_getElem_cons (i := j) (by omega)]; rfl
theorem ins_perm {L : List Wr.Found} {k : Nat} {x : Wr.Found} : (L.take k ++ x :: L.drop k).Perm (L ++ [x]) := by
  have h1 : (L.take k ++ x :: L.drop k).Perm (x :: (L.take k ++ L.drop k)) := List.perm_middle
  rw [List.take_append_drop] at h1
  exact h1.trans (List.perm_append_singleton x L).symm
theorem ins_sorted {L : List Wr.Found} {k : Nat} {x : Wr.Found} (hk : k ≤ L.length) (hs : L.Pairwise flt) (hp : ∀ y ∈ L, y.place < x.place) (h1 : ∀ y ∈ L.drop k, x.r.seq < y.r.seq) (h2 : k = 0 ∨ (L.getD (k - 1) f0).r.seq ≤ x.r.seq) :
    (L.take k ++ x :: L.drop k).Pairwise flt := by
  have hs' := hs
  rw [← List.take_append_drop k L, List.pairwise_append] at hs'
  obtain ⟨s1, s2, s3⟩ := hs'
  rw [List.pairwise_append]
  refine ⟨s1, List.pairwise_cons.mpr ⟨fun y hy => .inl (h1 y hy), s2⟩, ?_⟩
  intro a ha b hb
  rcases List.mem_cons.mp hb with rfl | hb
  · have hle : a.r.seq ≤ b.r.seq := by
      rcases h2 with h2 | h2
      · subst h2; simp at ha
      · obtain ⟨i, hi, rfl⟩ := List.getElem_of_mem ha
        rw [List.length_take] at hi
        rw [List.getElem_take]
        have e : L.getD (k - 1) f0 = L[k - 1]'(by omega) := by rw [List.getD_eq_getElem?_getD, List.getElem?_eq_getElem (by omega)]; rfl
        rw [e] at h2
        by_cases hik : i = k - 1
        · subst hik; exact h2
        · have := List.pairwise_iff_getElem.mp hs i (k - 1) (by omega) (by omega) (by omega)
          rcases this with h | h <;> omega
    have := hp a (List.mem_of_mem_take ha)
    unfold flt; omega
  · exact s3 a ha b hb
/-! where it is found -/
theorem scanAt_place {d : Dev} {ep sq : Int} {a : At} {y : Wr.Found} (h : y ∈ scanAt d ep sq a) : y.place = num d.g a := by
  unfold scanAt at h; split at h
  · simp at h; rw [h]
  · simp at h
theorem num_in {g : Geom} {z o : Int} (hz : g.conv ≤ z) (hz2 : z < zones g) (ho : 0 ≤ o) (ho2 : o < g.size) : num g ⟨z, o⟩ = (z - g.conv) * g.size + o + 1 := by
  unfold num; rw [if_neg (by show ¬ z < g.conv; omega), if_neg (by show ¬ z ≥ zones g; omega), if_neg (by show ¬ o < 0; omega), if_neg (by show ¬ o ≥ g.size; omega)]
theorem scanZ_place {d : Dev} {ep sq : Int} {z : Nat} (hz : d.g.conv ≤ (z : Int)) (hz2 : (z : Int) < zones d.g) : ∀ n : Nat, (n : Int) ≤ d.g.size → (∀ y ∈ scanZ d ep sq z n, (z - d.g.conv) * d.g.size < y.place ∧ y.place ≤ (z - d.g.conv) * d.g.size + n) ∧ (scanZ d ep sq z n).Pairwise fun a b => a.place < b.place
  | 0, _ => ⟨by simp [scanZ], by simp [scanZ]⟩
  | n + 1, h => by
    obtain ⟨i1, i2⟩ := scanZ_place (ep := ep) (sq := sq) hz hz2 n (by omega)
    have hn : ∀ y ∈ scanAt d ep sq ⟨z, n⟩, y.place = (z - d.g.conv) * d.g.size + n + 1 := fun y hy => by rw [scanAt_place hy, num_in hz hz2 (by omega) (by omega)]
    constructor
    · intro y hy
      rw [scanZ, List.mem_append] at hy
      rcases hy with hy | hy
      · have := i1 y hy; omega
      · have := hn y hy; omega
    · rw [scanZ, List.pairwise_append]
      refine ⟨i2, ?_, fun a ha b hb => ?_⟩
      · have := scanAt_len d ep sq ⟨z, n⟩
        rcases hl : scanAt d ep sq ⟨z, n⟩ with _ | ⟨q, l⟩
        · exact List.Pairwise.nil
        · rw [hl] at this
          have : l = [] := by cases l with | nil => rfl | cons => simp at this
          subst this; exact List.pairwise_singleton _ _
      · have := i1 a ha; have := hn b hb; omega
theorem scanD_place {d : Dev} {ep sq : Int} (hz : ZOk d.g d.zones) (hc : 0 ≤ d.g.conv) (hs : 0 ≤ d.g.size) (hn : 0 ≤ d.g.seq) : ∀ z : Nat, z ≤ d.zones.length → (∀ y ∈ scanD d ep sq z, d.g.conv < (z : Int) ∧ y.place ≤ (z - d.g.conv) * d.g.size) ∧ ((scanD d ep sq z).Pairwise fun a b => a.place < b.place) ∧ (scanD d ep sq z).length ≤ d.g.size.toNat * z
  | 0, _ => ⟨by simp [scanD], by simp [scanD], by simp [scanD]⟩
  | z + 1, h => by
    obtain ⟨i1, i2, i3⟩ := scanD_place (ep := ep) (sq := sq) hz hc hs hn z (by omega)
    have hl := hz.l
    have hzn : zones d.g = d.g.conv + d.g.seq := rfl
    by_cases hzc : (z : Int) < d.g.conv
    · have hp : zat d.zones z = ⟨4, 0⟩ := hz.c z (by omega) hzc
      have e : scanD d ep sq (z + 1) = scanD d ep sq z := by rw [scanD, hp]; simp [scanZ]
      rw [e]
      exact ⟨fun y hy => by have := i1 y hy; omega, i2, Nat.le_trans i3 (Nat.mul_le_mul_left _ (by omega))⟩
    · obtain ⟨p1, p2, p3⟩ := hz.s z (by omega) (by omega)
      obtain ⟨j1, j2⟩ := scanZ_place (ep := ep) (sq := sq) (d := d) (z := z) (by omega) (by omega) (zat d.zones z).point.toNat (by omega)
      have hm : (((z + 1 : Nat) : Int) - d.g.conv) * d.g.size = (z - d.g.conv) * d.g.size + d.g.size := by
        rw [show ((z + 1 : Nat) : Int) - d.g.conv = (z - d.g.conv) + 1 by omega, Int.add_mul, Int.one_mul]
      refine ⟨?_, ?_, ?_⟩
      · intro y hy
        rw [scanD, List.mem_append] at hy
        rcases hy with hy | hy
        · have := i1 y hy; omega
        · have := j1 y hy; omega
      · rw [scanD, List.pairwise_append]
        refine ⟨i2, j2, fun a ha b hb => ?_⟩
        have := i1 a ha; have := j1 b hb; omega
      · rw [scanD, List.length_append]
        have := scanZ_len d ep sq z (zat d.zones z).point.toNat
        rw [Nat.mul_add, Nat.mul_one]; omega
theorem scanDZ_place {d : Dev} {ep sq : Int} (hz : ZOk d.g d.zones) (hc : 0 ≤ d.g.conv) (hs : 0 ≤ d.g.size) (hn : 0 ≤ d.g.seq) {z o : Nat} (h : z < d.zones.length) (ho : (o : Int) < (zat d.zones z).point) :
    ∀ y ∈ scanD d ep sq z ++ scanZ d ep sq z o, y.place < num d.g ⟨z, o⟩ := by
  have hl := hz.l
  have hzn : zones d.g = d.g.conv + d.g.seq := rfl
  by_cases hzc : (z : Int) < d.g.conv
  · have hp : zat d.zones z = ⟨4, 0⟩ := hz.c z (by omega) hzc
    rw [hp] at ho; simp at ho; omega
  · obtain ⟨p1, p2, p3⟩ := hz.s z (by omega) (by omega)
    obtain ⟨i1, i2, i3⟩ := scanD_place (ep := ep) (sq := sq) hz hc hs hn z (by omega)
    obtain ⟨j1, j2⟩ := scanZ_place (ep := ep) (sq := sq) (d := d) (z := z) (by omega) (by omega) o (by omega)
    rw [num_in (by omega) (by omega) (by omega) (by omega)]
    intro y hy
    rcases List.mem_append.mp hy with hy | hy
    · have := i1 y hy; omega
    · have := j1 y hy; omega
theorem ZOk.legal {d : Dev} (h : ZOk d.g d.zones) (hc : 0 ≤ d.g.conv) (hn : 0 ≤ d.g.seq) (hs : 0 ≤ d.g.size ∧ d.g.size ≤ 65536) : Legal d := by
  intro z hz
  have hl := h.l
  have hzn : zones d.g = d.g.conv + d.g.seq := rfl
  by_cases hzc : (z : Int) < d.g.conv
  · have hp : zat d.zones z = ⟨4, 0⟩ := h.c z (by omega) hzc
    rw [hp]; exact ⟨by decide, by decide, fun o ho => by simp at ho; omega⟩
  · obtain ⟨p1, p2, p3⟩ := h.s z (by omega) (by omega)
    refine ⟨p2, by omega, fun o ho => ?_⟩
    have ht : there d.g ⟨z, o⟩ = true := by
      unfold there sectors
      rw [if_neg (by show ¬ (z : Int) < 0; omega), if_neg (by show ¬ (z : Int) ≥ zones d.g; omega), if_neg (by show ¬ (z : Int) < d.g.conv; omega)]
      simp only [Bool.and_eq_true, decide_eq_true_eq]; omega
    unfold zread
    rw [if_neg (by rw [ht]; decide), if_neg (by show ¬ ((zat d.zones (z : Int)).state ≠ 4 ∧ (o : Int) ≥ (zat d.zones (z : Int)).point); omega)]
end Go.Eng
