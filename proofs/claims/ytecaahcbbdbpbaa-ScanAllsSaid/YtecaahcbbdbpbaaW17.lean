/-
  R5: Walks of windrowref06: high, Read.
  R4: Walks of windrowref02.Seal, windrowref06: low, Summed, high, Right.
-/
import Derived.Test.YtecaahcbbdbpbaaW16
import Derived.Test.YtecaahcbbdbpbaaW12
namespace Go.Eng
open Wr
set_option linter.unusedVariables false
set_option linter.unusedSimpArgs false
theorem app_nil {α : Type} {H : AH} {n lo k : Nat} {e : TypeId} {enc : α → List AV} {L : List α} {v : AV} (h : Own H lo k e enc v ([] ++ L)) : Own H lo k e enc v L := h
theorem c_r02_Seal {v : AV} {L : List Nat} {H : AH} (hs : Sl H.g 1 b8C v L) (hv : sb v < H.n) (hl : L.length ≤ 1000000) (hby : ∀ x ∈ L, x < 256) :
    Acalls P0 S0 39 [v] H fun r H' => Own H' H.n 1 5 b8C r (summed L) ∧ Fr No H H' := by
  refine Acalls.go m39 rfl ?_
  rw [slots0_1]; unfold b39
  simp (disch := first | omega | assumption | exact id rfl | (simp only [okw_wr]; assumption)) only [RC, RO, RM, RT, AV.cells, Option.map_some, AV.one, AV.all1, i64_wrap, u64_wrap, u32_wrap, u8_wrap, Nat.zero_add, Nat.add_zero, Nat.reduceEqDiff, Nat.reduceLeDiff, Nat.reduceAdd, Nat.left_eq_add, Nat.add_eq_left, Nat.add_left_cancel_iff, reduceIte, eq_self, decide_true, decide_false, Bool.not_true, Bool.not_false, reduceCtorEq, List.getElem?_cons_zero, List.getElem?_cons_succ, List.set_cons_zero, List.set_cons_succ]
  refine Os_app (lo := H.n) (L := ([] : List Nat)) (X := L) (Own.nil b8C_len b8C_one (Nat.le_refl _)) hs (by omega) (by simp only [List.length_nil]; omega) ?_
  intro w H1 o1 q1 k1 _
  have o1 : Own H1 H.n 1 5 b8C w L := o1
  have f1 : Fr No H H1 := ⟨q1, fun b hb _ => k1 b hb (.inr hb)⟩
  simp (disch := first | omega | assumption | exact id rfl | (simp only [okw_wr]; assumption)) only [RC, RO, RM, RT, AV.cells, Option.map_some, AV.one, AV.all1, i64_wrap, u64_wrap, u32_wrap, u8_wrap, Nat.zero_add, Nat.add_zero, Nat.reduceEqDiff, Nat.reduceLeDiff, Nat.reduceAdd, Nat.left_eq_add, Nat.add_eq_left, Nat.add_left_cancel_iff, reduceIte, eq_self, decide_true, decide_false, Bool.not_true, Bool.not_false, reduceCtorEq, List.getElem?_cons_zero, List.getElem?_cons_succ, List.set_cons_zero, List.set_cons_succ]
  refine (c_r02_Sum (hs.fr (f1.at hv)) (by omega) hl hby).mono ?_
  rintro _ H2 ⟨rfl, f2⟩
  rw [sum_more hby]
  have q2 := f2.n
  have hm := more_lt hby (show 0 < 4294967296 by omega)
  generalize hs0 : more 0 L = s at *
  simp (disch := first | omega | assumption | exact id rfl | (simp only [okw_wr]; assumption)) only [RC, RO, RM, RT, AV.cells, Option.map_some, AV.one, AV.all1, i64_wrap, u64_wrap, u32_wrap, u8_wrap, Nat.zero_add, Nat.add_zero, Nat.reduceEqDiff, Nat.reduceLeDiff, Nat.reduceAdd, Nat.left_eq_add, Nat.add_eq_left, Nat.add_left_cancel_iff, reduceIte, eq_self, decide_true, decide_false, Bool.not_true, Bool.not_false, reduceCtorEq, List.getElem?_cons_zero, List.getElem?_cons_succ, List.set_cons_zero, List.set_cons_succ]
  refine Cs_loop (fun m T H' => ∃ i : Nat, m + i = 4 ∧ T 5 = I i ∧ T 4 = .int .u32 (s / 256 ^ i : Nat) ∧ (∃ w, T 3 = w ∧ Own H' H.n 1 5 b8C w (L ++ le i s)) ∧ Fr No H H') ⟨0, rfl, ?_⟩ ?_
  · simp (disch := omega) only [upd_ne, upd_same]
    exact ⟨rfl, by simp, ⟨_, rfl, by simpa [le] using o1.fr q2 (fun b _ hb => f2.at hb)⟩, f1.trans f2⟩
  · rintro m T H3 ⟨i, hm3, t5, t4, ⟨w3, t3, o3⟩, f3⟩
    have q3 := f3.n
    have hd : s / 256 ^ i ≤ s := Nat.div_le_self _ _
    have hll := le_length i s
    simp (disch := first | omega | assumption | exact id rfl | (simp only [okw_wr]; assumption)) only [t5, t4, t3, RC, RO, RM, RT, AV.cells, Option.map_some, AV.one, AV.all1, i64_wrap, u64_wrap, u32_wrap, u8_wrap, Nat.zero_add, Nat.add_zero, Nat.reduceEqDiff, Nat.reduceLeDiff, Nat.reduceAdd, Nat.left_eq_add, Nat.add_eq_left, Nat.add_left_cancel_iff, reduceIte, eq_self, decide_true, decide_false, Bool.not_true, Bool.not_false, reduceCtorEq, List.getElem?_cons_zero, List.getElem?_cons_succ, List.set_cons_zero, List.set_cons_succ]
    refine Is_split (fun hb => ?_) (fun hb => ?_)
    · have hi := of_decide_eq_true hb
      simp only [hb]
      have hmm : s / 256 ^ i % 256 ≤ 255 := by omega
      simp (disch := first | omega | assumption | exact id rfl | (simp only [okw_wr]; assumption)) only [t5, t4, t3, tmod256, tdiv256, fill_8, RC, RO, RM, RT, AV.cells, Option.map_some, AV.one, AV.all1, i64_wrap, u64_wrap, u32_wrap, u8_wrap, Nat.zero_add, Nat.add_zero, Nat.reduceEqDiff, Nat.reduceLeDiff, Nat.reduceAdd, Nat.left_eq_add, Nat.add_eq_left, Nat.add_left_cancel_iff, reduceIte, eq_self, decide_true, decide_false, Bool.not_true, Bool.not_false, reduceCtorEq, List.getElem?_cons_zero, List.getElem?_cons_succ, List.set_cons_zero, List.set_cons_succ]
      refine Os_app (lo := H.n) (L := L ++ le i s) (X := [s / 256 ^ i % 256]) (o3.fr (by show H3.n ≤ H3.n + 1; omega) (fun b _ hb => by simp (disch := omega) only [upd_ne])) (Sl.ofCells (c := 1) (sl := 0) (e := 5) (ro := false) b8C_len (by simp (disch := omega) only [upd_same, List.flatMap_cons, List.flatMap_nil, List.append_nil]; rfl) rfl (by simp) (.inl rfl)) (by omega) (by simp only [List.length_cons, List.length_nil, List.length_append]; omega) ?_
      intro v' H6 o6 q6' k6' _
      have q6' : H3.n + 1 ≤ H6.n := q6'
      have hmq : s / 256 ^ i / 256 ≤ s := Nat.le_trans (Nat.div_le_self _ _) hd
      simp (disch := first | omega | assumption | exact id rfl | (simp only [okw_wr]; assumption)) only [t5, t4, t3, tdiv256, RC, RO, RM, RT, AV.cells, Option.map_some, AV.one, AV.all1, i64_wrap, u64_wrap, u32_wrap, u8_wrap, Nat.zero_add, Nat.add_zero, Nat.reduceEqDiff, Nat.reduceLeDiff, Nat.reduceAdd, Nat.left_eq_add, Nat.add_eq_left, Nat.add_left_cancel_iff, reduceIte, eq_self, decide_true, decide_false, Bool.not_true, Bool.not_false, reduceCtorEq, List.getElem?_cons_zero, List.getElem?_cons_succ, List.set_cons_zero, List.set_cons_succ]
      refine ⟨m - 1, by omega, i + 1, by omega, by rw [Int.natCast_succ], ?_, ⟨_, rfl, ?_⟩, show H.n ≤ H6.n by omega, ?_⟩
      · rw [Nat.pow_succ, ← Nat.div_div_eq_div_mul]; have hq : s / 256 ^ i / 256 ≤ 4294967295 := Nat.le_trans hmq (by omega)
        generalize s / 256 ^ i / 256 = q at hq ⊢
        rw [u32_wrap (by omega)]
      · rw [le_snoc, ← List.append_assoc]; exact o6
      · intro b hb1 _
        show H6.g b = H.g b
        rw [k6' b (by show b < H3.n + 1; omega) (.inr hb1)]
        simp (disch := omega) only [upd_ne, f3.at]
    · have hi := of_decide_eq_false hb
      simp only [hb]
      have : i = 4 := by omega
      subst this
      simp (disch := first | omega | assumption | exact id rfl | (simp only [okw_wr]; assumption)) only [t5, t4, t3, RC, RO, RM, RT, AV.cells, Option.map_some, AV.one, AV.all1, i64_wrap, u64_wrap, u32_wrap, u8_wrap, Nat.zero_add, Nat.add_zero, Nat.reduceEqDiff, Nat.reduceLeDiff, Nat.reduceAdd, Nat.left_eq_add, Nat.add_eq_left, Nat.add_left_cancel_iff, reduceIte, eq_self, decide_true, decide_false, Bool.not_true, Bool.not_false, reduceCtorEq, List.getElem?_cons_zero, List.getElem?_cons_succ, List.set_cons_zero, List.set_cons_succ]
      refine ⟨?_, f3⟩
      unfold summed; rw [hs0]; exact o3
def lowI : Nat → Int → Int
  | 0, n => n
  | k + 1, n => lowI k (n.tdiv 256)
def lowL : Nat → Int → List Nat
  | 0, _ => []
  | k + 1, n => u8 (n.tmod 256) :: lowL k (n.tdiv 256)
theorem lowI_succ : ∀ (k : Nat) (n : Int), lowI (k + 1) n = (lowI k n).tdiv 256
  | 0, n => rfl
  | k + 1, n => by rw [lowI, lowI_succ k]; rfl
theorem lowL_succ : ∀ (k : Nat) (n : Int), lowL (k + 1) n = lowL k n ++ [u8 ((lowI k n).tmod 256)]
  | 0, n => rfl
  | k + 1, n => by rw [lowL, lowL_succ k, lowL, List.cons_append]; rfl
theorem lowL_len : ∀ (k : Nat) (n : Int), (lowL k n).length = k
  | 0, _ => rfl
  | k + 1, n => by simp [lowL, lowL_len k]
theorem lowL_lt : ∀ (k : Nat) (n : Int), ∀ x ∈ lowL k n, x < 256
  | 0, _, x, h => by simp [lowL] at h
  | k + 1, n, x, h => by
    simp only [lowL, List.mem_cons] at h
    rcases h with rfl | h
    · unfold u8; omega
    · exact lowL_lt k _ x h
theorem tdiv_rng {n : Int} (h : -9223372036854775808 ≤ n ∧ n ≤ 9223372036854775807) : -9223372036854775808 ≤ n.tdiv 256 ∧ n.tdiv 256 ≤ 9223372036854775807 := by
  rcases Int.le_total 0 n with h0 | h0
  · rw [Int.tdiv_eq_ediv_of_nonneg h0]; omega
  · have : n.tdiv 256 = -((-n).tdiv 256) := by rw [Int.neg_tdiv]; omega
    rw [this, Int.tdiv_eq_ediv_of_nonneg (by omega)]; omega
theorem lowI_rng : ∀ (k : Nat) {n : Int}, -9223372036854775808 ≤ n ∧ n ≤ 9223372036854775807 → -9223372036854775808 ≤ lowI k n ∧ lowI k n ≤ 9223372036854775807
  | 0, n, h => h
  | k + 1, n, h => lowI_rng k (tdiv_rng h)
theorem c_r06_low {n c : Int} {H : AH} (h : 0 ≤ c ∧ c ≤ 8) (hn : -9223372036854775808 ≤ n ∧ n ≤ 9223372036854775807) :
    Acalls P0 S0 38 [I n, I c] H fun r H' => Own H' H.n 1 5 b8C r (lowL c.toNat n) ∧ Fr No H H' := by
  refine Acalls.go m38 rfl ?_
  rw [slots0_2]; unfold b38
  simp (disch := first | omega | assumption | exact id rfl | (simp only [okw_wr]; assumption)) only [RC, RO, RM, RT, AV.cells, Option.map_some, AV.one, AV.all1, i64_wrap, u64_wrap, u32_wrap, u8_wrap, Nat.zero_add, Nat.add_zero, Nat.reduceEqDiff, Nat.reduceLeDiff, Nat.reduceAdd, Nat.left_eq_add, Nat.add_eq_left, Nat.add_left_cancel_iff, reduceIte, eq_self, decide_true, decide_false, Bool.not_true, Bool.not_false, reduceCtorEq, List.getElem?_cons_zero, List.getElem?_cons_succ, List.set_cons_zero, List.set_cons_succ]
  refine Cs_loop (fun m T H' => ∃ i : Nat, m + i = c.toNat ∧ T 6 = I i ∧ T 1 = I c ∧ T 0 = I (lowI i n) ∧ (∃ w, T 5 = w ∧ Own H' H.n 1 5 b8C w (lowL i n)) ∧ Fr No H H') ⟨0, rfl, ?_⟩ ?_
  · simp (disch := omega) only [upd_ne, upd_same]
    exact ⟨rfl, (by first | trivial | rfl), rfl, ⟨_, rfl, Own.nil b8C_len b8C_one (Nat.le_refl _)⟩, Fr.refl _⟩
  · rintro m T H3 ⟨i, hm3, t6, t1, t0, ⟨w3, t5, o3⟩, f3⟩
    have q3 := f3.n
    have hll := lowL_len i n
    have hr := tdiv_rng (lowI_rng i hn)
    simp (disch := first | omega | assumption | exact id rfl | (simp only [okw_wr]; assumption)) only [t6, t1, t0, t5, RC, RO, RM, RT, AV.cells, Option.map_some, AV.one, AV.all1, i64_wrap, u64_wrap, u32_wrap, u8_wrap, Nat.zero_add, Nat.add_zero, Nat.reduceEqDiff, Nat.reduceLeDiff, Nat.reduceAdd, Nat.left_eq_add, Nat.add_eq_left, Nat.add_left_cancel_iff, reduceIte, eq_self, decide_true, decide_false, Bool.not_true, Bool.not_false, reduceCtorEq, List.getElem?_cons_zero, List.getElem?_cons_succ, List.set_cons_zero, List.set_cons_succ]
    refine Is_split (fun hb => ?_) (fun hb => ?_)
    · have hi := of_decide_eq_true hb
      simp only [hb]
      simp (disch := first | omega | assumption | exact id rfl | (simp only [okw_wr]; assumption)) only [t6, t1, t0, t5, u8_wrap_u, fill_8, RC, RO, RM, RT, AV.cells, Option.map_some, AV.one, AV.all1, i64_wrap, u64_wrap, u32_wrap, u8_wrap, Nat.zero_add, Nat.add_zero, Nat.reduceEqDiff, Nat.reduceLeDiff, Nat.reduceAdd, Nat.left_eq_add, Nat.add_eq_left, Nat.add_left_cancel_iff, reduceIte, eq_self, decide_true, decide_false, Bool.not_true, Bool.not_false, reduceCtorEq, List.getElem?_cons_zero, List.getElem?_cons_succ, List.set_cons_zero, List.set_cons_succ]
      refine Os_app (lo := H.n) (L := lowL i n) (X := [u8 ((lowI i n).tmod 256)]) (o3.fr (by show H3.n ≤ H3.n + 1; omega) (fun b _ hb => by simp (disch := omega) only [upd_ne])) (Sl.ofCells (c := 1) (sl := 0) (e := 5) (ro := false) b8C_len (by simp (disch := omega) only [upd_same, List.flatMap_cons, List.flatMap_nil, List.append_nil]; rfl) rfl (by simp) (.inl rfl)) (by omega) (by simp only [List.length_cons, List.length_nil]; omega) ?_
      intro v' H6 o6 q6' k6' _
      have q6' : H3.n + 1 ≤ H6.n := q6'
      simp (disch := first | omega | assumption | exact id rfl | (simp only [okw_wr]; assumption)) only [t6, t1, t0, t5, RC, RO, RM, RT, AV.cells, Option.map_some, AV.one, AV.all1, i64_wrap, u64_wrap, u32_wrap, u8_wrap, Nat.zero_add, Nat.add_zero, Nat.reduceEqDiff, Nat.reduceLeDiff, Nat.reduceAdd, Nat.left_eq_add, Nat.add_eq_left, Nat.add_left_cancel_iff, reduceIte, eq_self, decide_true, decide_false, Bool.not_true, Bool.not_false, reduceCtorEq, List.getElem?_cons_zero, List.getElem?_cons_succ, List.set_cons_zero, List.set_cons_succ]
      refine ⟨m - 1, by omega, i + 1, by omega, by rw [Int.natCast_succ], (by first | trivial | rfl), by rw [lowI_succ], ⟨_, rfl, ?_⟩, show H.n ≤ H6.n by omega, ?_⟩
      · rw [lowL_succ]; exact o6
      · intro b hb1 _
        show H6.g b = H.g b
        rw [k6' b (by show b < H3.n + 1; omega) (.inr hb1)]
        simp (disch := omega) only [upd_ne, f3.at]
    · have hi := of_decide_eq_false hb
      simp only [hb]
      have : i = c.toNat := by omega
      subst this
      simp (disch := first | omega | assumption | exact id rfl | (simp only [okw_wr]; assumption)) only [t6, t1, t0, t5, RC, RO, RM, RT, AV.cells, Option.map_some, AV.one, AV.all1, i64_wrap, u64_wrap, u32_wrap, u8_wrap, Nat.zero_add, Nat.add_zero, Nat.reduceEqDiff, Nat.reduceLeDiff, Nat.reduceAdd, Nat.left_eq_add, Nat.add_eq_left, Nat.add_left_cancel_iff, reduceIte, eq_self, decide_true, decide_false, Bool.not_true, Bool.not_false, reduceCtorEq, List.getElem?_cons_zero, List.getElem?_cons_succ, List.set_cons_zero, List.set_cons_succ]
      exact ⟨o3, f3⟩
theorem ofLe_le : ∀ (l : List Nat), (∀ x ∈ l, x < 256) → le l.length (ofLe l) = l
  | [], _ => rfl
  | a :: l, h => by
    have ha := h a List.mem_cons_self
    have e1 : (a + 256 * ofLe l) % 256 = a := by omega
    have e2 : (a + 256 * ofLe l) / 256 = ofLe l := by omega
    simp only [List.length_cons, le, ofLe, e1, e2, ofLe_le l (fun x hx => h x (List.mem_cons_of_mem _ hx))]
theorem le_ofLe : ∀ (n x : Nat), x < 256 ^ n → ofLe (le n x) = x
  | 0, x, h => by simp [le, ofLe]; simp at h; omega
  | n + 1, x, h => by
    simp only [le, ofLe, le_ofLe n (x / 256) (by rw [Nat.pow_succ] at h; omega)]; omega
theorem page_ixP {b : Nat} {i : Int} (h : 0 ≤ i ∧ i < 64) : aixP 64 1 (.ptr (some (b, 0))) (I i) = some (.ptr (some (b, i.toNat * 1))) := by
  rw [q_ixP h, Nat.zero_add]
theorem page_at {p : Page} {i : Int} (h : 0 ≤ i ∧ i < 64) : (bC p)[i.toNat * 1]? = some (B8 (p.l.getD i.toNat 0)) := by
  rw [Nat.mul_one]; exact bC_at p (by omega)
/-- are the last four bytes the sum of those ahead? -/
theorem summed_right {p : Page} : crcRight p.l = true ↔ le 4 (more 0 (p.l.take 60)) = p.l.drop 60 := by
  unfold crcRight
  rw [show p.l.length - 4 = 60 by rw [p.len]]
  have hb : ∀ x ∈ p.l.take 60, x < 256 := fun x hx => p.lt x (List.mem_of_mem_take hx)
  have hd : ∀ x ∈ p.l.drop 60, x < 256 := fun x hx => p.lt x (List.mem_of_mem_drop hx)
  have hm := more_lt hb (show 0 < 4294967296 by omega)
  have hl : (p.l.drop 60).length = 4 := by rw [List.length_drop, p.len]
  rw [decide_eq_true_eq]
  constructor
  · intro h; rw [h, ← hl, ofLe_le _ hd]
  · intro h; rw [← h, le_ofLe 4 _ (by omega)]
theorem c_r06_Summed {p : Page} {H : AH} : Acalls P0 S0 54 [.agg (bC p)] H fun r H' => r = .bool (crcRight p.l) ∧ Fr No H H' := by
  refine Acalls.go m54 rfl ?_
  rw [slots0_1]; unfold b54
  simp (disch := first | omega | assumption | exact id rfl | (simp only [okw_wr]; assumption)) only [RC, RO, RM, RT, AV.cells, Option.map_some, AV.one, AV.all1, i64_wrap, u64_wrap, u32_wrap, u8_wrap, Nat.zero_add, Nat.add_zero, Nat.reduceEqDiff, Nat.reduceLeDiff, Nat.reduceAdd, Nat.left_eq_add, Nat.add_eq_left, Nat.add_left_cancel_iff, reduceIte, eq_self, decide_true, decide_false, Bool.not_true, Bool.not_false, reduceCtorEq, List.getElem?_cons_zero, List.getElem?_cons_succ, List.set_cons_zero, List.set_cons_succ]
  refine Cs_loop (fun m T H' => ∃ i : Nat, m + i = 60 ∧ T 1 = .ptr (some (H.n, 0)) ∧ T 4 = I i ∧ (∃ w, T 3 = w ∧ Own H' (H.n + 1) 1 5 b8C w (p.l.take i)) ∧ H'.g H.n = .cells (bC p) 61 false ∧ Fr No H H') ⟨0, rfl, ?_⟩ ?_
  · simp (disch := omega) only [upd_ne, upd_same]
    exact ⟨(by first | trivial | rfl), rfl, ⟨_, rfl, Own.nil b8C_len b8C_one (Nat.le_refl _)⟩, (by first | trivial | rfl), by (refine ⟨by (try simp only []); omega, fun b hb hm => ?_⟩; simp (disch := first | omega | assumption) only [upd_ne])⟩
  · rintro m T H3 ⟨i, hm3, t1, t4, ⟨w3, t3, o3⟩, g3, f3⟩
    have q3 := o3.hlo
    have hll := List.length_take_le i p.l
    simp (disch := first | omega | assumption | exact id rfl | (simp only [okw_wr]; assumption)) only [t1, t4, t3, RC, RO, RM, RT, AV.cells, Option.map_some, AV.one, AV.all1, i64_wrap, u64_wrap, u32_wrap, u8_wrap, Nat.zero_add, Nat.add_zero, Nat.reduceEqDiff, Nat.reduceLeDiff, Nat.reduceAdd, Nat.left_eq_add, Nat.add_eq_left, Nat.add_left_cancel_iff, reduceIte, eq_self, decide_true, decide_false, Bool.not_true, Bool.not_false, reduceCtorEq, List.getElem?_cons_zero, List.getElem?_cons_succ, List.set_cons_zero, List.set_cons_succ]
    refine Is_split (fun hb => ?_) (fun hb => ?_)
    · have hi := of_decide_eq_true hb
      simp only [hb]
      simp (disch := first | omega | assumption | exact id rfl | (simp only [okw_wr]; assumption)) only [t1, t4, t3, page_ixP, g3, page_at, fill_8, RC, RO, RM, RT, AV.cells, Option.map_some, AV.one, AV.all1, i64_wrap, u64_wrap, u32_wrap, u8_wrap, Nat.zero_add, Nat.add_zero, Nat.reduceEqDiff, Nat.reduceLeDiff, Nat.reduceAdd, Nat.left_eq_add, Nat.add_eq_left, Nat.add_left_cancel_iff, reduceIte, eq_self, decide_true, decide_false, Bool.not_true, Bool.not_false, reduceCtorEq, List.getElem?_cons_zero, List.getElem?_cons_succ, List.set_cons_zero, List.set_cons_succ]
      refine Os_app (lo := H.n + 1) (L := p.l.take i) (X := [p.l.getD (i : Int).toNat 0]) (o3.fr (by show H3.n ≤ H3.n + 1; omega) (fun b _ hb => by simp (disch := omega) only [upd_ne])) (Sl.ofCells (c := 1) (sl := 0) (e := 5) (ro := false) b8C_len (by simp (disch := omega) only [upd_same, List.flatMap_cons, List.flatMap_nil, List.append_nil]; rfl) rfl (by simp) (.inl rfl)) (by omega) (by simp only [List.length_cons, List.length_nil]; omega) ?_
      intro v' H6 o6 q6' k6' _
      have q6' : H3.n + 1 ≤ H6.n := q6'
      simp (disch := first | omega | assumption | exact id rfl | (simp only [okw_wr]; assumption)) only [t1, t4, t3, RC, RO, RM, RT, AV.cells, Option.map_some, AV.one, AV.all1, i64_wrap, u64_wrap, u32_wrap, u8_wrap, Nat.zero_add, Nat.add_zero, Nat.reduceEqDiff, Nat.reduceLeDiff, Nat.reduceAdd, Nat.left_eq_add, Nat.add_eq_left, Nat.add_left_cancel_iff, reduceIte, eq_self, decide_true, decide_false, Bool.not_true, Bool.not_false, reduceCtorEq, List.getElem?_cons_zero, List.getElem?_cons_succ, List.set_cons_zero, List.set_cons_succ]
      refine ⟨m - 1, by omega, i + 1, by omega, (by first | trivial | rfl), by rw [Int.natCast_succ], ⟨_, rfl, ?_⟩, ?_, show H.n ≤ H6.n by omega, ?_⟩
      · rw [take_snoc (by rw [p.len]; omega)]; rw [Int.toNat_natCast] at o6; exact o6
      · show H6.g H.n = _
        rw [k6' _ (by show H.n < H3.n + 1; omega) (.inr (by omega))]
        simp (disch := omega) only [upd_ne, g3]
      · intro b hb1 _
        show H6.g b = H.g b
        rw [k6' b (by show b < H3.n + 1; omega) (.inr (by omega))]
        simp (disch := omega) only [upd_ne, f3.at]
    · have hi := of_decide_eq_false hb
      simp only [hb]
      have : i = 60 := by omega
      subst this
      have h60 : (p.l.take 60).length = 60 := by rw [List.length_take, p.len]; rfl
      have hby : ∀ x ∈ p.l.take 60, x < 256 := fun x hx => p.lt x (List.mem_of_mem_take hx)
      simp (disch := first | omega | assumption | exact id rfl | (simp only [okw_wr]; assumption)) only [t1, t4, t3, RC, RO, RM, RT, AV.cells, Option.map_some, AV.one, AV.all1, i64_wrap, u64_wrap, u32_wrap, u8_wrap, Nat.zero_add, Nat.add_zero, Nat.reduceEqDiff, Nat.reduceLeDiff, Nat.reduceAdd, Nat.left_eq_add, Nat.add_eq_left, Nat.add_left_cancel_iff, reduceIte, eq_self, decide_true, decide_false, Bool.not_true, Bool.not_false, reduceCtorEq, List.getElem?_cons_zero, List.getElem?_cons_succ, List.set_cons_zero, List.set_cons_succ]
      refine (c_r02_Seal o3.sl (o3.lt' (by omega)) (by omega) hby).mono ?_
      rintro s H4 ⟨o4, f4⟩
      have q4 := f4.n
      have g4 : H4.g H.n = .cells (bC p) 61 false := by rw [f4.at (by omega)]; exact g3
      have hsl : (summed (p.l.take 60)).length = 64 := by simp [summed, h60, le_length]
      have hpr := @summed_right p
      have ls := o4.lt' (by omega)
      generalize hcr : crcRight p.l = cr at hpr ⊢
      simp (disch := first | omega | assumption | exact id rfl | (simp only [okw_wr]; assumption)) only [t1, RC, RO, RM, RT, AV.cells, Option.map_some, AV.one, AV.all1, i64_wrap, u64_wrap, u32_wrap, u8_wrap, Nat.zero_add, Nat.add_zero, Nat.reduceEqDiff, Nat.reduceLeDiff, Nat.reduceAdd, Nat.left_eq_add, Nat.add_eq_left, Nat.add_left_cancel_iff, reduceIte, eq_self, decide_true, decide_false, Bool.not_true, Bool.not_false, reduceCtorEq, List.getElem?_cons_zero, List.getElem?_cons_succ, List.set_cons_zero, List.set_cons_succ]
      refine Cs_loop (fun m T H' => ∃ i : Nat, 60 ≤ i ∧ m + i = 64 ∧ T 1 = .ptr (some (H.n, 0)) ∧ T 5 = I i ∧ T 3 = s ∧ (∀ j, 60 ≤ j → j < i → (summed (p.l.take 60)).getD j 0 = p.l.getD j 0) ∧ Fr No H4 H') ⟨60, Nat.le_refl _, rfl, ?_⟩ ?_
      · simp (disch := omega) only [upd_ne, upd_same, t1]
        exact ⟨(by first | trivial | rfl), rfl, (by first | trivial | rfl), fun j h1 h2 => by omega, Fr.refl _⟩
      · rintro m T H5 ⟨j, hj, hm5, k1, k5, k3, hall, f5⟩
        (simp (disch := first | omega | assumption | exact id rfl | (simp only [okw_wr]; assumption)) only [k1, k5, k3, page_ixP, g4, page_at, f5.at, o4.sl.ix, o4.sl.c0 0, RC, RO, RM, RT, AV.cells, Option.map_some, AV.one, AV.all1, i64_wrap, u64_wrap, u32_wrap, u8_wrap, Nat.zero_add, Nat.add_zero, Nat.reduceEqDiff, Nat.reduceLeDiff, Nat.reduceAdd, Nat.left_eq_add, Nat.add_eq_left, Nat.add_left_cancel_iff, reduceIte, eq_self, decide_true, decide_false, Bool.not_true, Bool.not_false, reduceCtorEq, List.getElem?_cons_zero, List.getElem?_cons_succ, List.set_cons_zero, List.set_cons_succ]; repeat' (first | (refine Gs_split (fun hb => ?_) (fun hb => ?_) <;> (simp only [hb]; (try simp only [decide_eq_true_eq, decide_eq_false_iff_not, Bool.not_eq_true', Bool.not_eq_false', ne_eq, Decidable.not_not, not_true_eq_false] at hb); (try simp (disch := first | omega | assumption | exact id rfl | (simp only [okw_wr]; assumption)) only [k1, k5, k3, page_ixP, g4, page_at, f5.at, o4.sl.ix, o4.sl.c0 0, RC, RO, RM, RT, AV.cells, Option.map_some, AV.one, AV.all1, i64_wrap, u64_wrap, u32_wrap, u8_wrap, Nat.zero_add, Nat.add_zero, Nat.reduceEqDiff, Nat.reduceLeDiff, Nat.reduceAdd, Nat.left_eq_add, Nat.add_eq_left, Nat.add_left_cancel_iff, reduceIte, eq_self, decide_true, decide_false, Bool.not_true, Bool.not_false, reduceCtorEq, List.getElem?_cons_zero, List.getElem?_cons_succ, List.set_cons_zero, List.set_cons_succ]))) | (refine Is_split (fun hb => ?_) (fun hb => ?_) <;> (simp only [hb]; (try simp only [decide_eq_true_eq, decide_eq_false_iff_not, Bool.not_eq_true', Bool.not_eq_false', ne_eq, Decidable.not_not, not_true_eq_false] at hb); (try simp (disch := first | omega | assumption | exact id rfl | (simp only [okw_wr]; assumption)) only [k1, k5, k3, page_ixP, g4, page_at, f5.at, o4.sl.ix, o4.sl.c0 0, RC, RO, RM, RT, AV.cells, Option.map_some, AV.one, AV.all1, i64_wrap, u64_wrap, u32_wrap, u8_wrap, Nat.zero_add, Nat.add_zero, Nat.reduceEqDiff, Nat.reduceLeDiff, Nat.reduceAdd, Nat.left_eq_add, Nat.add_eq_left, Nat.add_left_cancel_iff, reduceIte, eq_self, decide_true, decide_false, Bool.not_true, Bool.not_false, reduceCtorEq, List.getElem?_cons_zero, List.getElem?_cons_succ, List.set_cons_zero, List.set_cons_succ]))) | (refine Dg_split (fun hb => ?_) (fun hb => ?_) <;> (simp only [hb]; (try simp only [decide_eq_true_eq, decide_eq_false_iff_not, Bool.not_eq_true', Bool.not_eq_false', ne_eq, Decidable.not_not, not_true_eq_false] at hb); (try simp (disch := first | omega | assumption | exact id rfl | (simp only [okw_wr]; assumption)) only [k1, k5, k3, page_ixP, g4, page_at, f5.at, o4.sl.ix, o4.sl.c0 0, RC, RO, RM, RT, AV.cells, Option.map_some, AV.one, AV.all1, i64_wrap, u64_wrap, u32_wrap, u8_wrap, Nat.zero_add, Nat.add_zero, Nat.reduceEqDiff, Nat.reduceLeDiff, Nat.reduceAdd, Nat.left_eq_add, Nat.add_eq_left, Nat.add_left_cancel_iff, reduceIte, eq_self, decide_true, decide_false, Bool.not_true, Bool.not_false, reduceCtorEq, List.getElem?_cons_zero, List.getElem?_cons_succ, List.set_cons_zero, List.set_cons_succ])))))
        · refine ⟨?_, (f3.trans f4).trans f5⟩
          have : ¬ le 4 (more 0 (p.l.take 60)) = p.l.drop 60 := by
            intro he
            apply hb
            have e : summed (p.l.take 60) = p.l := by unfold summed; rw [he, List.take_append_drop]
            rw [e]
          cases cr
          · rfl
          · exact absurd (hpr.mp rfl) this
        · refine ⟨m - 1, by omega, j + 1, by omega, by omega, (by first | trivial | rfl), by rw [Int.natCast_succ], (by first | trivial | rfl), ?_, f5⟩
          intro x h1 h2
          by_cases hx : x = j
          · subst hx; rw [Int.toNat_natCast] at hb; exact_mod_cast hb
          · exact hall x h1 (by omega)
        · refine ⟨?_, (f3.trans f4).trans f5⟩
          have hj2 : j = 64 := by omega
          have : le 4 (more 0 (p.l.take 60)) = p.l.drop 60 := by
            apply List.ext_getElem?
            intro x
            by_cases hx : x < 4
            · have h1 := hall (60 + x) (by omega) (by omega)
              have e1 : (summed (p.l.take 60)).getD (60 + x) 0 = (le 4 (more 0 (p.l.take 60))).getD x 0 := by
                unfold summed
                rw [List.getD_eq_getElem?_getD, List.getElem?_append_right (by omega), h60, List.getD_eq_getElem?_getD]; congr 2; omega
              have e2 : p.l.getD (60 + x) 0 = (p.l.drop 60).getD x 0 := by
                rw [List.getD_eq_getElem?_getD, List.getD_eq_getElem?_getD, List.getElem?_drop]
              rw [e1, e2] at h1
              have l1 : x < (le 4 (more 0 (p.l.take 60))).length := by rw [le_length]; exact hx
              have l2 : x < (p.l.drop 60).length := by rw [List.length_drop, p.len]; omega
              rw [List.getD_eq_getElem?_getD, List.getD_eq_getElem?_getD, List.getElem?_eq_getElem l1, List.getElem?_eq_getElem l2] at h1
              rw [List.getElem?_eq_getElem l1, List.getElem?_eq_getElem l2]
              exact congrArg some h1
            · rw [List.getElem?_eq_none (by rw [le_length]; omega), List.getElem?_eq_none (by rw [List.length_drop, p.len]; omega)]
          rw [hpr.mpr this]
theorem recRight_iff (r : Rec) : recRight r = true ↔ 1 ≤ r.epoch ∧ r.epoch ≤ 1099511627776 ∧ 1 ≤ r.seq ∧ r.seq ≤ 1099511627776 ∧ ((r.kind = 1 ∧ 0 ≤ r.block ∧ r.block < 4096 ∧ r.count = 0) ∨ (r.kind = 2 ∧ 0 ≤ r.block ∧ r.block < 4096 ∧ r.count = 0 ∧ r.data = Bytes.zero 32) ∨ (r.kind = 3 ∧ (r.block = 0 ∨ r.block = 1) ∧ 0 ≤ r.count ∧ r.count ≤ 4096 ∧ r.data = Bytes.zero 32)) := by
  have hM : MaxNum = 1099511627776 := rfl
  unfold recRight
  simp only [Bool.and_eq_true, decide_eq_true_eq, hM, and_assoc]
  refine and_congr Iff.rfl (and_congr Iff.rfl (and_congr Iff.rfl (and_congr Iff.rfl ?_)))
  by_cases h1 : r.kind = 1
  · simp [h1, and_assoc]
  · by_cases h2 : r.kind = 2
    · simp [h2, and_assoc]
    · by_cases h3 : r.kind = 3
      · simp [h3, and_assoc]
      · simp [h1, h2, h3]
theorem c_r06_Right {r : Rec} {H : AH} : Acalls P0 S0 56 [.agg (rC r)] H fun v H' => v = .bool (recRight r) ∧ Fr No H H' := by
  refine Acalls.go m56 rfl ?_
  rw [slots0_1]; unfold b56
  generalize hr : recRight r = q
  (simp (disch := first | omega | assumption | exact id rfl | (simp only [okw_wr]; assumption)) only [rC_drop, fill_nil, z_data, b_neB eq_Data, RC, RO, RM, RT, AV.cells, Option.map_some, AV.one, AV.all1, i64_wrap, u64_wrap, u32_wrap, u8_wrap, Nat.zero_add, Nat.add_zero, Nat.reduceEqDiff, Nat.reduceLeDiff, Nat.reduceAdd, Nat.left_eq_add, Nat.add_eq_left, Nat.add_left_cancel_iff, reduceIte, eq_self, decide_true, decide_false, Bool.not_true, Bool.not_false, reduceCtorEq, List.getElem?_cons_zero, List.getElem?_cons_succ, List.set_cons_zero, List.set_cons_succ]; repeat' (first | (refine Gs_split (fun hb => ?_) (fun hb => ?_) <;> (simp only [hb]; (try simp only [decide_eq_true_eq, decide_eq_false_iff_not, Bool.not_eq_true', Bool.not_eq_false', ne_eq, Decidable.not_not, not_true_eq_false] at hb); (try simp (disch := first | omega | assumption | exact id rfl | (simp only [okw_wr]; assumption)) only [rC_drop, fill_nil, z_data, b_neB eq_Data, RC, RO, RM, RT, AV.cells, Option.map_some, AV.one, AV.all1, i64_wrap, u64_wrap, u32_wrap, u8_wrap, Nat.zero_add, Nat.add_zero, Nat.reduceEqDiff, Nat.reduceLeDiff, Nat.reduceAdd, Nat.left_eq_add, Nat.add_eq_left, Nat.add_left_cancel_iff, reduceIte, eq_self, decide_true, decide_false, Bool.not_true, Bool.not_false, reduceCtorEq, List.getElem?_cons_zero, List.getElem?_cons_succ, List.set_cons_zero, List.set_cons_succ]))) | (refine Is_split (fun hb => ?_) (fun hb => ?_) <;> (simp only [hb]; (try simp only [decide_eq_true_eq, decide_eq_false_iff_not, Bool.not_eq_true', Bool.not_eq_false', ne_eq, Decidable.not_not, not_true_eq_false] at hb); (try simp (disch := first | omega | assumption | exact id rfl | (simp only [okw_wr]; assumption)) only [rC_drop, fill_nil, z_data, b_neB eq_Data, RC, RO, RM, RT, AV.cells, Option.map_some, AV.one, AV.all1, i64_wrap, u64_wrap, u32_wrap, u8_wrap, Nat.zero_add, Nat.add_zero, Nat.reduceEqDiff, Nat.reduceLeDiff, Nat.reduceAdd, Nat.left_eq_add, Nat.add_eq_left, Nat.add_left_cancel_iff, reduceIte, eq_self, decide_true, decide_false, Bool.not_true, Bool.not_false, reduceCtorEq, List.getElem?_cons_zero, List.getElem?_cons_succ, List.set_cons_zero, List.set_cons_succ]))) | (refine Dg_split (fun hb => ?_) (fun hb => ?_) <;> (simp only [hb]; (try simp only [decide_eq_true_eq, decide_eq_false_iff_not, Bool.not_eq_true', Bool.not_eq_false', ne_eq, Decidable.not_not, not_true_eq_false] at hb); (try simp (disch := first | omega | assumption | exact id rfl | (simp only [okw_wr]; assumption)) only [rC_drop, fill_nil, z_data, b_neB eq_Data, RC, RO, RM, RT, AV.cells, Option.map_some, AV.one, AV.all1, i64_wrap, u64_wrap, u32_wrap, u8_wrap, Nat.zero_add, Nat.add_zero, Nat.reduceEqDiff, Nat.reduceLeDiff, Nat.reduceAdd, Nat.left_eq_add, Nat.add_eq_left, Nat.add_left_cancel_iff, reduceIte, eq_self, decide_true, decide_false, Bool.not_true, Bool.not_false, reduceCtorEq, List.getElem?_cons_zero, List.getElem?_cons_succ, List.set_cons_zero, List.set_cons_succ])))))
  all_goals refine ⟨?_, by (refine ⟨by (try simp only []); omega, fun b hb hm => ?_⟩; simp (disch := first | omega | assumption) only [upd_ne])⟩
  all_goals subst hr
  all_goals simp only [AV.bool.injEq]
  all_goals (rw [Bool.eq_iff_iff, recRight_iff])
  all_goals grind
end Go.Eng
namespace Go.Eng
open Wr
set_option linter.unusedVariables false
set_option linter.unusedSimpArgs false
theorem ofLe_cons_at {L : List Nat} {k : Nat} (h : k < L.length) (n : Nat) : ofLe ((L.drop k).take (n + 1)) = L.getD k 0 + 256 * ofLe ((L.drop (k + 1)).take n) := by
  rw [List.drop_eq_getElem_cons h, List.take_succ_cons, ofLe, List.getD_eq_getElem?_getD, List.getElem?_eq_getElem h]; rfl
theorem ofLe_ge {L : List Nat} : ∀ (j k n : Nat), k + j ≤ L.length → ofLe ((L.drop (k + j)).take n) ≤ ofLe ((L.drop k).take (n + j))
  | 0, k, n, h => by simp
  | j + 1, k, n, h => by
    have ih := ofLe_ge (L := L) j (k + 1) n (by omega)
    have e := ofLe_cons_at (L := L) (k := k) (by omega) (n + j)
    rw [show k + (j + 1) = k + 1 + j by omega, show n + (j + 1) = n + j + 1 by omega, e]; omega
theorem c_r06_high {p : Page} {o n : Int} {H : AH} (h : 1 ≤ n ∧ n ≤ 8 ∧ 0 ≤ o ∧ o + n ≤ 60) :
    Acalls P0 S0 55 [.agg (bC p), I o, I n] H fun v H' => v = I (number p.l o.toNat n.toNat) ∧ Fr No H H' := by
  refine Acalls.go m55 rfl ?_
  rw [slots0_3]; unfold b55
  generalize hnum : number p.l o.toNat n.toNat = q
  simp (disch := first | omega | assumption | exact id rfl | (simp only [okw_wr]; assumption)) only [RC, RO, RM, RT, AV.cells, Option.map_some, AV.one, AV.all1, i64_wrap, u64_wrap, u32_wrap, u8_wrap, Nat.zero_add, Nat.add_zero, Nat.reduceEqDiff, Nat.reduceLeDiff, Nat.reduceAdd, Nat.left_eq_add, Nat.add_eq_left, Nat.add_left_cancel_iff, reduceIte, eq_self, decide_true, decide_false, Bool.not_true, Bool.not_false, reduceCtorEq, List.getElem?_cons_zero, List.getElem?_cons_succ, List.set_cons_zero, List.set_cons_succ]
  refine Cs_loop (fun m T H' => ∃ k : Nat, m = k ∧ (k : Int) ≤ n ∧ T 3 = .ptr (some (H.n, 0)) ∧ T 1 = I o ∧ T 8 = I (o + k - 1) ∧ T 7 = I (ofLe ((p.l.drop (o.toNat + k)).take (n.toNat - k)) : Nat) ∧ ofLe ((p.l.drop (o.toNat + k)).take (n.toNat - k)) ≤ 1099511627776 ∧ H'.g H.n = .cells (bC p) 61 false ∧ Fr No H H') ⟨n.toNat, rfl, ?_⟩ ?_
  · simp (disch := omega) only [upd_ne, upd_same]
    refine ⟨by omega, (by first | trivial | rfl), (by first | trivial | rfl), ?_, ?_, ?_, (by first | trivial | rfl), by (refine ⟨by (try simp only []); omega, fun b hb hm => ?_⟩; simp (disch := first | omega | assumption) only [upd_ne])⟩
    · show AV.int .i64 (o + n - 1) = I (o + ((n.toNat : Nat) : Int) - 1); congr 1; omega
    · rw [Nat.sub_self, List.take_zero]; rfl
    · rw [Nat.sub_self, List.take_zero]; decide
  · rintro m T H2 ⟨k, rfl, hk, t3, t1, t8, t7, hle, g2, f2⟩
    have q2 := f2.n
    generalize hx : ofLe ((p.l.drop (o.toNat + m)).take (n.toNat - m)) = x at *
    have hg := getD_lt p.lt (o + (m : Int) - 1).toNat
    have hi : o ≤ o + (m : Int) - 1 → 0 ≤ o + (m : Int) - 1 ∧ o + (m : Int) - 1 < 64 := fun _ => by omega
    have step : o ≤ o + (m : Int) - 1 → ofLe ((p.l.drop (o.toNat + (m - 1))).take (n.toNat - (m - 1))) = p.l.getD (o + (m : Int) - 1).toNat 0 + 256 * x := fun h0 => by
      have e := ofLe_cons_at (L := p.l) (k := o.toNat + (m - 1)) (by rw [p.len]; omega) (n.toNat - m)
      rw [show n.toNat - (m - 1) = n.toNat - m + 1 by omega, e, show o.toNat + (m - 1) + 1 = o.toNat + m by omega, hx]
      congr 2; omega
    (simp (disch := first | omega | assumption | exact id rfl | (simp only [okw_wr]; assumption)) only [t3, t1, t8, t7, page_ixP, g2, page_at, RC, RO, RM, RT, AV.cells, Option.map_some, AV.one, AV.all1, i64_wrap, u64_wrap, u32_wrap, u8_wrap, Nat.zero_add, Nat.add_zero, Nat.reduceEqDiff, Nat.reduceLeDiff, Nat.reduceAdd, Nat.left_eq_add, Nat.add_eq_left, Nat.add_left_cancel_iff, reduceIte, eq_self, decide_true, decide_false, Bool.not_true, Bool.not_false, reduceCtorEq, List.getElem?_cons_zero, List.getElem?_cons_succ, List.set_cons_zero, List.set_cons_succ]; repeat' (first | (refine Gs_split (fun hb => ?_) (fun hb => ?_) <;> (simp only [hb]; (try simp only [decide_eq_true_eq, decide_eq_false_iff_not, Bool.not_eq_true', Bool.not_eq_false', ne_eq, Decidable.not_not, not_true_eq_false] at hb); (try simp (disch := first | omega | assumption | exact id rfl | (simp only [okw_wr]; assumption)) only [t3, t1, t8, t7, page_ixP, g2, page_at, RC, RO, RM, RT, AV.cells, Option.map_some, AV.one, AV.all1, i64_wrap, u64_wrap, u32_wrap, u8_wrap, Nat.zero_add, Nat.add_zero, Nat.reduceEqDiff, Nat.reduceLeDiff, Nat.reduceAdd, Nat.left_eq_add, Nat.add_eq_left, Nat.add_left_cancel_iff, reduceIte, eq_self, decide_true, decide_false, Bool.not_true, Bool.not_false, reduceCtorEq, List.getElem?_cons_zero, List.getElem?_cons_succ, List.set_cons_zero, List.set_cons_succ]))) | (refine Is_split (fun hb => ?_) (fun hb => ?_) <;> (simp only [hb]; (try simp only [decide_eq_true_eq, decide_eq_false_iff_not, Bool.not_eq_true', Bool.not_eq_false', ne_eq, Decidable.not_not, not_true_eq_false] at hb); (try simp (disch := first | omega | assumption | exact id rfl | (simp only [okw_wr]; assumption)) only [t3, t1, t8, t7, page_ixP, g2, page_at, RC, RO, RM, RT, AV.cells, Option.map_some, AV.one, AV.all1, i64_wrap, u64_wrap, u32_wrap, u8_wrap, Nat.zero_add, Nat.add_zero, Nat.reduceEqDiff, Nat.reduceLeDiff, Nat.reduceAdd, Nat.left_eq_add, Nat.add_eq_left, Nat.add_left_cancel_iff, reduceIte, eq_self, decide_true, decide_false, Bool.not_true, Bool.not_false, reduceCtorEq, List.getElem?_cons_zero, List.getElem?_cons_succ, List.set_cons_zero, List.set_cons_succ]))) | (refine Dg_split (fun hb => ?_) (fun hb => ?_) <;> (simp only [hb]; (try simp only [decide_eq_true_eq, decide_eq_false_iff_not, Bool.not_eq_true', Bool.not_eq_false', ne_eq, Decidable.not_not, not_true_eq_false] at hb); (try simp (disch := first | omega | assumption | exact id rfl | (simp only [okw_wr]; assumption)) only [t3, t1, t8, t7, page_ixP, g2, page_at, RC, RO, RM, RT, AV.cells, Option.map_some, AV.one, AV.all1, i64_wrap, u64_wrap, u32_wrap, u8_wrap, Nat.zero_add, Nat.add_zero, Nat.reduceEqDiff, Nat.reduceLeDiff, Nat.reduceAdd, Nat.left_eq_add, Nat.add_eq_left, Nat.add_left_cancel_iff, reduceIte, eq_self, decide_true, decide_false, Bool.not_true, Bool.not_false, reduceCtorEq, List.getElem?_cons_zero, List.getElem?_cons_succ, List.set_cons_zero, List.set_cons_succ])))))
    · refine ⟨?_, f2⟩
      have hs := step (by omega)
      have hge := ofLe_ge (L := p.l) (m - 1) o.toNat (n.toNat - (m - 1)) (by rw [p.len]; omega)
      rw [hs, show n.toNat - (m - 1) + (m - 1) = n.toNat by omega] at hge
      rw [← hnum]; unfold number at' MaxNum
      rw [if_pos (by omega)]
    · have hs := step (by omega)
      refine ⟨m - 1, by omega, m - 1, rfl, by omega, (by first | trivial | rfl), (by first | trivial | rfl), ?_, ?_, ?_, (by first | trivial | rfl), f2⟩
      · congr 1; omega
      · rw [hs]; congr 1; omega
      · rw [hs]; omega
    · refine ⟨?_, f2⟩
      have : m = 0 := by omega
      subst this
      rw [← hnum]; unfold number at' MaxNum
      rw [Nat.add_zero, Nat.sub_zero] at hx
      rw [hx, if_neg (by omega)]
/-- a record that is right, out of a page whose sum is: its page is that one if the last three bytes are noughts -/
theorem take_le {p : Page} {o n : Nat} (h : o + n ≤ 64) : le n (at' p.l o n) = (p.l.drop o).take n := by
  have hl : ((p.l.drop o).take n).length = n := by rw [List.length_take, List.length_drop, p.len]; omega
  have := ofLe_le ((p.l.drop o).take n) (fun x hx => p.lt x (List.mem_of_mem_drop (List.mem_of_mem_take hx)))
  rw [hl] at this; exact this
theorem num_le {p : Page} {o n : Nat} (h : o + n ≤ 64) (h0 : 0 ≤ number p.l o n) : le n (u64 (number p.l o n)) = (p.l.drop o).take n := by
  unfold number at h0 ⊢
  split at h0
  · omega
  · rename_i hh
    rw [if_neg hh]
    unfold MaxNum at hh
    rw [u64_nat (by omega), take_le h]
theorem u8_nat {x : Nat} (h : x < 256) : u8 (x : Int) = x := by unfold u8; omega
theorem recBytes_of {p : Page} (h : recRight (recOf p) = true) : recBytes (recOf p) = p.l.take 57 ++ [0, 0, 0] := by
  rw [recRight_iff] at h
  obtain ⟨h1, h2, h3, h4, h5⟩ := h
  have hb : 0 ≤ (recOf p).block := by rcases h5 with h | h | h <;> omega
  have hc : 0 ≤ (recOf p).count := by rcases h5 with h | h | h <;> omega
  have e0 : u8 (recOf p).kind = p.l.getD 0 0 := u8_nat (getD_lt p.lt 0)
  have e1 : le 8 (u64 (recOf p).epoch) = (p.l.drop 1).take 8 := num_le (by omega) (by show 0 ≤ number p.l 1 8; have : number p.l 1 8 = (recOf p).epoch := rfl; omega)
  have e2 : le 8 (u64 (recOf p).seq) = (p.l.drop 9).take 8 := num_le (by omega) (by show 0 ≤ number p.l 9 8; have : number p.l 9 8 = (recOf p).seq := rfl; omega)
  have e3 : le 4 (u64 (recOf p).block) = (p.l.drop 17).take 4 := num_le (by omega) hb
  have e4 : le 4 (u64 (recOf p).count) = (p.l.drop 21).take 4 := num_le (by omega) hc
  have e5 : (recOf p).data.l = (p.l.drop 25).take 32 := rfl
  unfold recBytes
  rw [e0, e1, e2, e3, e4, e5]
  have hl := p.len
  have hhd : p.l.take 1 = [p.l.getD 0 0] := by rw [take_snoc (i := 0) (by omega)]; rfl
  have c : ∀ a b : Nat, p.l.take (a + b) = p.l.take a ++ (p.l.drop a).take b := fun a b => List.take_add
  rw [show 57 = 1 + 8 + 8 + 4 + 4 + 32 from rfl, c, c, c, c, c, hhd]
  simp
theorem read_eq {p : Page} (hs : crcRight p.l = true) (hr : recRight (recOf p) = true) : recLay (recOf p) = p ↔ p.l.getD 57 0 = 0 ∧ p.l.getD 58 0 = 0 ∧ p.l.getD 59 0 = 0 := by
  have hb := recBytes_of hr
  have hl := p.len
  have h60 : p.l.take 60 = p.l.take 57 ++ [p.l.getD 57 0, p.l.getD 58 0, p.l.getD 59 0] := by
    rw [take_snoc (i := 59) (by omega), take_snoc (i := 58) (by omega), take_snoc (i := 57) (by omega)]; simp
  constructor
  · intro h
    have h1 : summed (recBytes (recOf p)) = p.l := congrArg Bytes.l h
    have h2 : (summed (recBytes (recOf p))).take 60 = recBytes (recOf p) := by unfold summed; rw [List.take_left' (recBytes_length _)]
    rw [h1, hb, h60] at h2
    have := List.append_cancel_left h2
    simp only [List.cons.injEq, and_true] at this
    exact this
  · rintro ⟨h1, h2, h3⟩
    apply Bytes.ext
    show summed (recBytes (recOf p)) = p.l
    have h4 : recBytes (recOf p) = p.l.take 60 := by rw [hb, h60, h1, h2, h3]
    unfold summed
    rw [h4, summed_right.mp hs, List.take_append_drop]
end Go.Eng
