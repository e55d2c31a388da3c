/-
  R3: The sum, bit by bit, is the sum byte by byte.
  R2: Walks of windrowref02: the sum.
  R1: Walks of windrowref02: the sum, bit by bit.
-/
import Derived.Test.YtecaahcbbdbpbaaW12
namespace Go.Eng
open Wr
set_option linter.unusedVariables false
set_option linter.unusedSimpArgs false
theorem tmod2 {a : Nat} : (a : Int).tmod 2 = ((a % 2 : Nat) : Int) := by rw [Int.tmod_eq_emod_of_nonneg (by omega)]; rfl
theorem tdiv2 {a : Nat} : (a : Int).tdiv 2 = ((a / 2 : Nat) : Int) := by rw [Int.tdiv_eq_ediv_of_nonneg (by omega)]; rfl
theorem tmod256 {a : Nat} : (a : Int).tmod 256 = ((a % 256 : Nat) : Int) := by rw [Int.tmod_eq_emod_of_nonneg (by omega)]; rfl
theorem tdiv256 {a : Nat} : (a : Int).tdiv 256 = ((a / 256 : Nat) : Int) := by rw [Int.tdiv_eq_ediv_of_nonneg (by omega)]; rfl
/-- a bit -/
abbrev bt (x : Nat) : Bool := decide (((x % 2 : Nat) : Int) = 1)
def bitsN : Nat → Nat → List Bool
  | 0, _ => []
  | n + 1, x => bt x :: bitsN n (x / 2)
theorem bitsN_snoc : ∀ (n x : Nat), bitsN (n + 1) x = bitsN n x ++ [bt (x / 2 ^ n)]
  | 0, x => by simp [bitsN]
  | n + 1, x => by
    rw [bitsN, bitsN_snoc n (x / 2), bitsN, List.cons_append, Nat.div_div_eq_div_mul, Nat.pow_succ, Nat.mul_comm 2]
theorem bitsN_len : ∀ (n x : Nat), (bitsN n x).length = n
  | 0, _ => rfl
  | n + 1, x => by simp [bitsN, bitsN_len n]
def bitsL (L : List Nat) : List Bool := L.flatMap (bitsN 8)
theorem bitsL_len : ∀ L : List Nat, (bitsL L).length = 8 * L.length
  | [] => rfl
  | a :: L => by
    have := bitsL_len L
    unfold bitsL at this ⊢
    rw [List.flatMap_cons, List.length_append, this, bitsN_len, List.length_cons]; omega
theorem fill_b {b : Bool} : fillA (zerosA [AV.bool false] 1) [(0, 1, .bool b)] = some [.bool b] := _root_.id rfl
theorem fill_8 {x : Nat} : fillA (zerosA [AV.int .u8 0] 1) [(0, 1, B8 x)] = some [B8 x] := _root_.id rfl
theorem c_r02_bits {v : AV} {L : List Nat} {H : AH} (hs : Sl H.g 1 b8C v L) (hv : sb v < H.n) (hl : L.length ≤ 1000000) (hby : ∀ x ∈ L, x < 256) :
    Acalls P0 S0 79 [v] H fun r H' => Own H' H.n 1 4 bbC r (bitsL L) ∧ Fr No H H' := by
  refine Acalls.go m79 rfl ?_
  rw [slots0_1]; unfold b79
  simp (disch := first | omega | assumption | exact id rfl | (simp only [okw_wr]; assumption)) only [RC, RO, RM, RT, AV.cells, Option.map_some, AV.one, AV.all1, i64_wrap, u64_wrap, u32_wrap, u8_wrap, Nat.zero_add, Nat.add_zero, Nat.reduceEqDiff, Nat.reduceLeDiff, Nat.reduceAdd, Nat.left_eq_add, Nat.add_eq_left, Nat.add_left_cancel_iff, reduceIte, eq_self, decide_true, decide_false, Bool.not_true, Bool.not_false, reduceCtorEq, List.getElem?_cons_zero, List.getElem?_cons_succ, List.set_cons_zero, List.set_cons_succ]
  refine Cs_loop (fun m T H' => ∃ i : Nat, m + i = L.length ∧ T 0 = v ∧ T 4 = I i ∧ (∃ w, T 3 = w ∧ Own H' H.n 1 4 bbC w (bitsL (L.take i))) ∧ Fr No H H') ⟨0, rfl, ?_⟩ ?_
  · simp (disch := omega) only [upd_ne, upd_same]
    exact ⟨trivial, rfl, ⟨_, rfl, Own.nil bbC_len bbC_one (Nat.le_refl _)⟩, Fr.refl _⟩
  · rintro m T H2 ⟨i, hm, t0, t4, ⟨w, t3, ow⟩, f2⟩
    have q2 := f2.n
    have hg := getD_lt hby (i : Int).toNat
    simp (disch := first | omega | assumption | exact id rfl | (simp only [okw_wr]; assumption)) only [t0, t4, t3, hs.ln, RC, RO, RM, RT, AV.cells, Option.map_some, AV.one, AV.all1, i64_wrap, u64_wrap, u32_wrap, u8_wrap, Nat.zero_add, Nat.add_zero, Nat.reduceEqDiff, Nat.reduceLeDiff, Nat.reduceAdd, Nat.left_eq_add, Nat.add_eq_left, Nat.add_left_cancel_iff, reduceIte, eq_self, decide_true, decide_false, Bool.not_true, Bool.not_false, reduceCtorEq, List.getElem?_cons_zero, List.getElem?_cons_succ, List.set_cons_zero, List.set_cons_succ]
    refine Is_split (fun hb => ?_) (fun hb => ?_)
    · have hi := of_decide_eq_true hb
      simp only [hb]
      simp (disch := first | omega | assumption | exact id rfl | (simp only [okw_wr]; assumption)) only [t0, t4, t3, hs.ln, hs.ix, hs.c0 0, f2.at, RC, RO, RM, RT, AV.cells, Option.map_some, AV.one, AV.all1, i64_wrap, u64_wrap, u32_wrap, u8_wrap, Nat.zero_add, Nat.add_zero, Nat.reduceEqDiff, Nat.reduceLeDiff, Nat.reduceAdd, Nat.left_eq_add, Nat.add_eq_left, Nat.add_left_cancel_iff, reduceIte, eq_self, decide_true, decide_false, Bool.not_true, Bool.not_false, reduceCtorEq, List.getElem?_cons_zero, List.getElem?_cons_succ, List.set_cons_zero, List.set_cons_succ]
      generalize hx : L.getD (i : Int).toNat 0 = x at *
      have htk : L.take (i + 1) = L.take i ++ [x] := by rw [take_snoc (by omega), ← hx, Int.toNat_natCast]
      refine Cs_loop (fun m' T' H' => ∃ j : Nat, m' + j = 8 ∧ T' 0 = v ∧ T' 4 = I i ∧ T' 6 = I j ∧ T' 5 = I (x / 2 ^ j : Nat) ∧ (∃ w, T' 3 = w ∧ Own H' H.n 1 4 bbC w (bitsL (L.take i) ++ bitsN j x)) ∧ Fr No H H') ⟨0, rfl, ?_⟩ ?_
      · simp (disch := omega) only [upd_ne, upd_same, t0, t4, t3]
        exact ⟨(by first | trivial | rfl), (by first | trivial | rfl), rfl, by simp, ⟨_, rfl, by simpa [bitsN] using ow⟩, f2⟩
      · rintro m' T' H3 ⟨j, hj, k0, k4, k6, k5, ⟨w3, k3, o3⟩, f3⟩
        have q3 := f3.n
        have hlen : (bitsL (L.take i)).length ≤ 8000000 := by rw [bitsL_len, List.length_take]; omega
        have hlen2 := bitsN_len j x
        have hxs : x / 2 ^ j ≤ x := Nat.div_le_self _ _
        simp (disch := first | omega | assumption | exact id rfl | (simp only [okw_wr]; assumption)) only [k0, k4, k6, k5, k3, tmod2, tdiv2, RC, RO, RM, RT, AV.cells, Option.map_some, AV.one, AV.all1, i64_wrap, u64_wrap, u32_wrap, u8_wrap, Nat.zero_add, Nat.add_zero, Nat.reduceEqDiff, Nat.reduceLeDiff, Nat.reduceAdd, Nat.left_eq_add, Nat.add_eq_left, Nat.add_left_cancel_iff, reduceIte, eq_self, decide_true, decide_false, Bool.not_true, Bool.not_false, reduceCtorEq, List.getElem?_cons_zero, List.getElem?_cons_succ, List.set_cons_zero, List.set_cons_succ]
        refine Is_split (fun hb2 => ?_) (fun hb2 => ?_)
        · have hjj := of_decide_eq_true hb2
          simp only [hb2]
          simp (disch := first | omega | assumption | exact id rfl | (simp only [okw_wr]; assumption)) only [k0, k4, k6, k5, k3, tmod2, tdiv2, fill_b, RC, RO, RM, RT, AV.cells, Option.map_some, AV.one, AV.all1, i64_wrap, u64_wrap, u32_wrap, u8_wrap, Nat.zero_add, Nat.add_zero, Nat.reduceEqDiff, Nat.reduceLeDiff, Nat.reduceAdd, Nat.left_eq_add, Nat.add_eq_left, Nat.add_left_cancel_iff, reduceIte, eq_self, decide_true, decide_false, Bool.not_true, Bool.not_false, reduceCtorEq, List.getElem?_cons_zero, List.getElem?_cons_succ, List.set_cons_zero, List.set_cons_succ]
          refine Os_app (lo := H.n) (L := bitsL (L.take i) ++ bitsN j x) (X := [bt (x / 2 ^ j)]) (o3.fr (by show H3.n ≤ H3.n + 1; omega) (fun b _ hb => by simp (disch := omega) only [upd_ne])) (Sl.ofCells (c := 1) (sl := 0) (e := 4) (ro := false) bbC_len (by simp (disch := omega) only [upd_same, List.flatMap_cons, List.flatMap_nil, List.append_nil]; rfl) rfl (by simp) (.inl rfl)) (by omega) (by simp only [List.length_cons, List.length_nil, List.length_append]; omega) ?_
          intro v' H6 o6 q6' k6' _
          have q6' : H3.n + 1 ≤ H6.n := q6'
          simp (disch := first | omega | assumption | exact id rfl | (simp only [okw_wr]; assumption)) only [k0, k4, k6, k5, k3, tmod2, tdiv2, RC, RO, RM, RT, AV.cells, Option.map_some, AV.one, AV.all1, i64_wrap, u64_wrap, u32_wrap, u8_wrap, Nat.zero_add, Nat.add_zero, Nat.reduceEqDiff, Nat.reduceLeDiff, Nat.reduceAdd, Nat.left_eq_add, Nat.add_eq_left, Nat.add_left_cancel_iff, reduceIte, eq_self, decide_true, decide_false, Bool.not_true, Bool.not_false, reduceCtorEq, List.getElem?_cons_zero, List.getElem?_cons_succ, List.set_cons_zero, List.set_cons_succ]
          refine ⟨m' - 1, by omega, j + 1, by omega, (by first | trivial | rfl), (by first | trivial | rfl), by rw [Int.natCast_succ], ?_, ⟨_, rfl, ?_⟩, show H.n ≤ H6.n by omega, ?_⟩
          · rw [Nat.pow_succ, ← Nat.div_div_eq_div_mul, i64_wrap]; have := Nat.div_le_self (x / 2 ^ j) 2; omega
          · rw [bitsN_snoc, ← List.append_assoc]; exact o6
          · intro b hb1 _
            show H6.g b = H.g b
            rw [k6' b (by show b < H3.n + 1; omega) (.inr hb1)]
            simp (disch := omega) only [upd_ne, f3.at]
        · have hjj := of_decide_eq_false hb2
          simp only [hb2]
          have : j = 8 := by omega
          subst this
          simp (disch := first | omega | assumption | exact id rfl | (simp only [okw_wr]; assumption)) only [k0, k4, k6, k5, k3, RC, RO, RM, RT, AV.cells, Option.map_some, AV.one, AV.all1, i64_wrap, u64_wrap, u32_wrap, u8_wrap, Nat.zero_add, Nat.add_zero, Nat.reduceEqDiff, Nat.reduceLeDiff, Nat.reduceAdd, Nat.left_eq_add, Nat.add_eq_left, Nat.add_left_cancel_iff, reduceIte, eq_self, decide_true, decide_false, Bool.not_true, Bool.not_false, reduceCtorEq, List.getElem?_cons_zero, List.getElem?_cons_succ, List.set_cons_zero, List.set_cons_succ]
          refine ⟨m - 1, by omega, i + 1, by omega, (by first | trivial | rfl), by rw [Int.natCast_succ], ⟨_, rfl, ?_⟩, f3⟩
          have : bitsL (L.take (i + 1)) = bitsL (L.take i) ++ bitsN 8 x := by rw [htk]; simp [bitsL]
          rw [this]; exact o3
    · have hi := of_decide_eq_false hb
      simp only [hb]
      simp (disch := first | omega | assumption | exact id rfl | (simp only [okw_wr]; assumption)) only [t0, t4, t3, RC, RO, RM, RT, AV.cells, Option.map_some, AV.one, AV.all1, i64_wrap, u64_wrap, u32_wrap, u8_wrap, Nat.zero_add, Nat.add_zero, Nat.reduceEqDiff, Nat.reduceLeDiff, Nat.reduceAdd, Nat.left_eq_add, Nat.add_eq_left, Nat.add_left_cancel_iff, reduceIte, eq_self, decide_true, decide_false, Bool.not_true, Bool.not_false, reduceCtorEq, List.getElem?_cons_zero, List.getElem?_cons_succ, List.set_cons_zero, List.set_cons_succ]
      rw [List.take_of_length_le (by omega)] at ow
      exact ⟨ow, f2⟩
end Go.Eng
namespace Go.Eng
open Wr
set_option linter.unusedVariables false
set_option linter.unusedSimpArgs false
abbrev bbL (R : List Bool) : List AV := R.map AV.bool
theorem bb_at {R : List Bool} {i : Int} (h : 0 ≤ i ∧ i < R.length) : (bbL R)[i.toNat * 1]? = some (.bool (R.getD i.toNat false)) := by
  rw [Nat.mul_one, List.getElem?_map, List.getD_eq_getElem?_getD, List.getElem?_eq_getElem (by omega)]; rfl
theorem bb_set {R : List Bool} {i : Nat} {b : Bool} : (bbL R).set (i * 1) (.bool b) = bbL (R.set i b) := by
  simp [bbL, List.map_set]
theorem bb_ok {R : List Bool} {i : Int} {e : TypeId} (h : 0 ≤ i ∧ i < R.length) : okw (.cells (bbL R) e false) (i.toNat * 1) := ⟨_, _, rfl, by rw [List.length_map]; omega⟩
theorem wr1_c {cs : List AV} {e : TypeId} {ro : Bool} {o : Nat} {v : AV} : wr1 (.cells cs e ro) o v = .cells (cs.set o v) e ro := _root_.id rfl
def tiBool (P : Program) (t : TypeId) : Bool := match ti P t with | some i => (match i.desc with | .bool => true | _ => false) | none => false
theorem b_neB1 {P : Program} {t : TypeId} {a b : Bool} (h : tiBool P t = true) : abin P .neq t (.bool a) (.bool b) = some (.bool (a != b)) := by
  unfold tiBool at h
  cases hi : ti P t with
  | none => rw [hi] at h; cases h
  | some i =>
    rw [hi] at h
    simp only at h
    split at h
    · rename_i hd; simp [abin, aeql, hi, hd, bne]
    · cases h
theorem t_bool : tiBool P0 4 = true := by kernel_rfl
/-- one bit goes in -/
def polyL : List Bool := [true, true, true, false, true, true, false, true, true, false, true, true, true, false, false, false, true, false, false, false, false, false, true, true, false, false, true, false, false, false, false, false]
def shiftL (R : List Bool) (k : Nat) : List Bool := (R.drop 1).take k ++ R.drop k
def xorL (R : List Bool) (k : Nat) : List Bool := (List.range k).map (fun j => R.getD j false != polyL.getD (31 - j) false) ++ R.drop k
def stepL (R : List Bool) (b : Bool) : List Bool := if (R.getD 0 false != b) = true then xorL ((shiftL R 31).set 31 false) 32 else (shiftL R 31).set 31 false
def regL : List Bool → List Bool → List Bool
  | R, [] => R
  | R, b :: l => regL (stepL R b) l
def sumL : List Bool → Nat
  | [] => 0
  | b :: l => (if b then 0 else 1) + 2 * sumL l
theorem shiftL_len {R : List Bool} (h : R.length = 32) {k : Nat} (hk : k ≤ 31) : (shiftL R k).length = 32 := by simp [shiftL]; omega
theorem xorL_len {R : List Bool} (h : R.length = 32) {k : Nat} (hk : k ≤ 32) : (xorL R k).length = 32 := by simp [xorL]; omega
theorem stepL_len {R : List Bool} (h : R.length = 32) (b : Bool) : (stepL R b).length = 32 := by
  unfold stepL; split
  · exact xorL_len (by rw [List.length_set, shiftL_len h (by omega)]) (by omega)
  · rw [List.length_set, shiftL_len h (by omega)]
theorem regL_len : ∀ (l R : List Bool), R.length = 32 → (regL R l).length = 32
  | [], R, h => h
  | b :: l, R, h => regL_len l _ (stepL_len h b)
theorem regL_snoc : ∀ (l R : List Bool) (b : Bool), regL R (l ++ [b]) = stepL (regL R l) b
  | [], R, b => rfl
  | a :: l, R, b => regL_snoc l _ b
theorem shiftL_set {R : List Bool} (h : R.length = 32) {k : Nat} (hk : k < 31) : (shiftL R k).set k ((shiftL R k).getD (k + 1) false) = shiftL R (k + 1) := by
  unfold shiftL
  have hl : ((R.drop 1).take k).length = k := by rw [List.length_take, List.length_drop]; omega
  have e1 : ((R.drop 1).take k ++ R.drop k).getD (k + 1) false = R.getD (k + 1) false := by
    rw [List.getD_eq_getElem?_getD, List.getElem?_append_right (by omega), hl, List.getElem?_drop, List.getD_eq_getElem?_getD]; congr 2; omega
  rw [e1, List.set_append_right _ _ (by omega), hl, Nat.sub_self, List.drop_eq_getElem_cons (i := k) (by omega), List.set_cons_zero,
    List.take_succ_eq_append_getElem (by rw [List.length_drop]; omega), List.getElem_drop, List.append_assoc]
  congr 1
  rw [List.getD_eq_getElem?_getD, List.getElem?_eq_getElem (by omega)]
  simp [Nat.add_comm]
theorem xorL_set {R : List Bool} (h : R.length = 32) {k : Nat} (hk : k < 32) : (xorL R k).set k ((xorL R k).getD k false != polyL.getD (31 - k) false) = xorL R (k + 1) := by
  unfold xorL
  have hl : ((List.range k).map (fun j => R.getD j false != polyL.getD (31 - j) false)).length = k := by simp
  have e1 : ((List.range k).map (fun j => R.getD j false != polyL.getD (31 - j) false) ++ R.drop k).getD k false = R.getD k false := by
    rw [List.getD_eq_getElem?_getD, List.getElem?_append_right (by omega), hl, List.getElem?_drop, List.getD_eq_getElem?_getD]; congr 2; omega
  rw [e1, List.set_append_right _ _ (by omega), hl, Nat.sub_self, List.drop_eq_getElem_cons (i := k) (by omega), List.set_cons_zero, List.range_succ, List.map_append, List.append_assoc]
  rfl
theorem fill_poly : fillA (List.replicate 32 (AV.bool false)) [(0, 1, .bool true), (1, 1, .bool true), (2, 1, .bool true), (3, 1, .bool false), (4, 1, .bool true), (5, 1, .bool true), (6, 1, .bool false), (7, 1, .bool true), (8, 1, .bool true), (9, 1, .bool false), (10, 1, .bool true), (11, 1, .bool true), (12, 1, .bool true), (13, 1, .bool false), (14, 1, .bool false), (15, 1, .bool false), (16, 1, .bool true), (17, 1, .bool false), (18, 1, .bool false), (19, 1, .bool false), (20, 1, .bool false), (21, 1, .bool false), (22, 1, .bool true), (23, 1, .bool true), (24, 1, .bool false), (25, 1, .bool false), (26, 1, .bool true), (27, 1, .bool false), (28, 1, .bool false), (29, 1, .bool false), (30, 1, .bool false), (31, 1, .bool false)] = some (bbL polyL) := by kernel_rfl
theorem rep_set {k : Nat} (hk : k < 32) : (List.replicate k true ++ List.replicate (32 - k) false).set k true = List.replicate (k + 1) true ++ List.replicate (32 - (k + 1)) false := by
  obtain ⟨m, hm⟩ : ∃ m, 32 - k = m + 1 := ⟨32 - k - 1, by omega⟩
  rw [hm, show 32 - (k + 1) = m by omega, List.set_append_right _ _ (by simp)]
  simp only [List.length_replicate, Nat.sub_self, List.replicate_succ, List.set_cons_zero]
  rw [← List.replicate_succ, List.replicate_succ' (n := k)]; simp
/-- the register's state in memory -/
structure Reg (H H' : AH) (R : List Bool) : Prop where
  p : H'.g H.n = .cells (bbL polyL) 132 false
  r : H'.g (H.n + 1) = .cells (bbL R) 132 false
  l : R.length = 32
  n : H.n + 1 + 1 ≤ H'.n
  f : Fr No H H'
theorem Reg.set {H H' : AH} {R : List Bool} (h : Reg H H' R) (k : Nat) (b : Bool) : Reg H ⟨upd H'.g (H.n + 1) (.cells (bbL (R.set k b)) 132 false), H'.n⟩ (R.set k b) :=
  ⟨(upd_ne _ _ (by omega)).trans h.p, upd_same _ _ _, by rw [List.length_set]; exact h.l, h.n, by
    have hf := h.f
    have hn := h.n
    refine ⟨by show H.n ≤ H'.n; omega, fun b hb _ => ?_⟩
    show upd _ _ _ _ = _
    rw [upd_ne _ _ (by omega), hf.at hb]⟩
theorem Reg.fr {H H' H'' : AH} {R : List Bool} (h : Reg H H' R) (f : Fr No H' H'') : Reg H H'' R :=
  ⟨(f.at (by have := h.n; omega)).trans h.p, (f.at (by have := h.n; omega)).trans h.r, h.l, by have := f.n; have := h.n; omega, h.f.trans f⟩
theorem sumL_lt : ∀ l : List Bool, sumL l < 2 ^ l.length
  | [] => by simp [sumL]
  | b :: l => by have := sumL_lt l; simp only [sumL, List.length_cons, Nat.pow_succ]; split <;> omega
theorem sumL_drop {R : List Bool} {k : Nat} (h : k < R.length) : sumL (R.drop k) = (if R.getD k false then 0 else 1) + 2 * sumL (R.drop (k + 1)) := by
  rw [List.drop_eq_getElem_cons h, sumL, List.getD_eq_getElem?_getD, List.getElem?_eq_getElem h]; rfl
set_option maxRecDepth 10000 in
set_option maxHeartbeats 2000000 in
theorem c_r02_Sum {v : AV} {L : List Nat} {H : AH} (hs : Sl H.g 1 b8C v L) (hv : sb v < H.n) (hl : L.length ≤ 1000000) (hby : ∀ x ∈ L, x < 256) :
    Acalls P0 S0 60 [v] H fun r H' => r = .int .u32 (sumL (regL (List.replicate 32 true) (bitsL L)) : Nat) ∧ Fr No H H' := by
  refine Acalls.go m60 rfl ?_
  rw [slots0_1]; unfold b60
  simp (disch := first | omega | assumption | exact id rfl | (simp only [okw_wr]; assumption)) only [fill_poly, RC, RO, RM, RT, AV.cells, Option.map_some, AV.one, AV.all1, i64_wrap, u64_wrap, u32_wrap, u8_wrap, Nat.zero_add, Nat.add_zero, Nat.reduceEqDiff, Nat.reduceLeDiff, Nat.reduceAdd, Nat.left_eq_add, Nat.add_eq_left, Nat.add_left_cancel_iff, reduceIte, eq_self, decide_true, decide_false, Bool.not_true, Bool.not_false, reduceCtorEq, List.getElem?_cons_zero, List.getElem?_cons_succ, List.set_cons_zero, List.set_cons_succ]
  refine Cs_loop (fun m T H' => ∃ k : Nat, m + k = 32 ∧ T 0 = v ∧ T 3 = .ptr (some (H.n, 0)) ∧ T 4 = .ptr (some (H.n + 1, 0)) ∧ T 5 = I k ∧ Reg H H' (List.replicate k true ++ List.replicate (32 - k) false)) ⟨0, rfl, ?_⟩ ?_
  · simp (disch := omega) only [upd_ne, upd_same]
    refine ⟨(by first | trivial | rfl), (by first | trivial | rfl), (by first | trivial | rfl), rfl, ⟨by simp (disch := omega) only [upd_ne, upd_same], by simp (disch := omega) only [upd_ne, upd_same]; simp [bbL], by simp, Nat.le_refl _, by (refine ⟨by (try simp only []); omega, fun b hb hm => ?_⟩; simp (disch := first | omega | assumption) only [upd_ne])⟩⟩
  · rintro m T H2 ⟨k, hm, t0, t3, t4, t5, rg⟩
    simp (disch := first | omega | assumption | exact id rfl | (simp only [okw_wr]; assumption)) only [t0, t3, t4, t5, RC, RO, RM, RT, AV.cells, Option.map_some, AV.one, AV.all1, i64_wrap, u64_wrap, u32_wrap, u8_wrap, Nat.zero_add, Nat.add_zero, Nat.reduceEqDiff, Nat.reduceLeDiff, Nat.reduceAdd, Nat.left_eq_add, Nat.add_eq_left, Nat.add_left_cancel_iff, reduceIte, eq_self, decide_true, decide_false, Bool.not_true, Bool.not_false, reduceCtorEq, List.getElem?_cons_zero, List.getElem?_cons_succ, List.set_cons_zero, List.set_cons_succ]
    refine Is_split (fun hb => ?_) (fun hb => ?_)
    · have hk := of_decide_eq_true hb
      simp only [hb]
      have ok := bb_ok (R := List.replicate k true ++ List.replicate (32 - k) false) (i := k) (e := 132) (by rw [rg.l]; omega)
      simp (disch := first | omega | assumption | exact id rfl | (simp only [okw_wr]; assumption)) only [t0, t3, t4, t5, q_ixP, rg.r, wr1_c, bb_set, RC, RO, RM, RT, AV.cells, Option.map_some, AV.one, AV.all1, i64_wrap, u64_wrap, u32_wrap, u8_wrap, Nat.zero_add, Nat.add_zero, Nat.reduceEqDiff, Nat.reduceLeDiff, Nat.reduceAdd, Nat.left_eq_add, Nat.add_eq_left, Nat.add_left_cancel_iff, reduceIte, eq_self, decide_true, decide_false, Bool.not_true, Bool.not_false, reduceCtorEq, List.getElem?_cons_zero, List.getElem?_cons_succ, List.set_cons_zero, List.set_cons_succ]
      refine ⟨m - 1, by omega, k + 1, by omega, (by first | trivial | rfl), (by first | trivial | rfl), (by first | trivial | rfl), by rw [Int.natCast_succ], ?_⟩
      have := rg.set k true
      rw [rep_set (by omega)] at this
      rw [Int.toNat_natCast, rep_set (by omega)]; exact this
    · have hk := of_decide_eq_false hb
      simp only [hb]
      have : k = 32 := by omega
      subst this
      simp (disch := first | omega | assumption | exact id rfl | (simp only [okw_wr]; assumption)) only [t0, t3, t4, t5, RC, RO, RM, RT, AV.cells, Option.map_some, AV.one, AV.all1, i64_wrap, u64_wrap, u32_wrap, u8_wrap, Nat.zero_add, Nat.add_zero, Nat.reduceEqDiff, Nat.reduceLeDiff, Nat.reduceAdd, Nat.left_eq_add, Nat.add_eq_left, Nat.add_left_cancel_iff, reduceIte, eq_self, decide_true, decide_false, Bool.not_true, Bool.not_false, reduceCtorEq, List.getElem?_cons_zero, List.getElem?_cons_succ, List.set_cons_zero, List.set_cons_succ]
      have hs2 := hs.fr (rg.f.at hv)
      refine (c_r02_bits hs2 (by have := rg.n; omega) hl hby).mono ?_
      rintro w H3 ⟨o3, f3⟩
      have rg3 := rg.fr f3
      simp only [Nat.sub_self, List.replicate_zero, List.append_nil] at rg3
      have q3 := f3.n
      have hbl := bitsL_len L
      simp (disch := first | omega | assumption | exact id rfl | (simp only [okw_wr]; assumption)) only [t0, t3, t4, t5, RC, RO, RM, RT, AV.cells, Option.map_some, AV.one, AV.all1, i64_wrap, u64_wrap, u32_wrap, u8_wrap, Nat.zero_add, Nat.add_zero, Nat.reduceEqDiff, Nat.reduceLeDiff, Nat.reduceAdd, Nat.left_eq_add, Nat.add_eq_left, Nat.add_left_cancel_iff, reduceIte, eq_self, decide_true, decide_false, Bool.not_true, Bool.not_false, reduceCtorEq, List.getElem?_cons_zero, List.getElem?_cons_succ, List.set_cons_zero, List.set_cons_succ]
      have hn2 := rg.n
      clear rg
      refine Cs_loop (fun m T H' => ∃ j : Nat, m + j = (bitsL L).length ∧ T 6 = w ∧ T 3 = .ptr (some (H.n, 0)) ∧ T 4 = .ptr (some (H.n + 1, 0)) ∧ T 7 = I j ∧ Reg H H' (regL (List.replicate 32 true) ((bitsL L).take j)) ∧ H3.n ≤ H'.n ∧ H'.g (sb w) = H3.g (sb w)) ⟨0, rfl, ?_⟩ ?_
      · simp (disch := omega) only [upd_ne, upd_same, t0, t3, t4, t5]
        exact ⟨(by first | trivial | rfl), (by first | trivial | rfl), (by first | trivial | rfl), rfl, rg3, Nat.le_refl _, (by first | trivial | rfl)⟩
      · rintro m T H4 ⟨j, hm, t6, t3, t4, t7, rg, q4, kw⟩
        have ow := o3.sl.fr kw
        generalize hR : regL (List.replicate 32 true) ((bitsL L).take j) = R at *
        simp (disch := first | omega | assumption | exact id rfl | (simp only [okw_wr]; assumption)) only [t6, t3, t4, t7, ow.ln, RC, RO, RM, RT, AV.cells, Option.map_some, AV.one, AV.all1, i64_wrap, u64_wrap, u32_wrap, u8_wrap, Nat.zero_add, Nat.add_zero, Nat.reduceEqDiff, Nat.reduceLeDiff, Nat.reduceAdd, Nat.left_eq_add, Nat.add_eq_left, Nat.add_left_cancel_iff, reduceIte, eq_self, decide_true, decide_false, Bool.not_true, Bool.not_false, reduceCtorEq, List.getElem?_cons_zero, List.getElem?_cons_succ, List.set_cons_zero, List.set_cons_succ]
        refine Is_split (fun hb => ?_) (fun hb => ?_)
        · have hj := of_decide_eq_true hb
          simp only [hb]
          have hi0 : 0 ≤ (0 : Int) ∧ (0 : Int) < R.length := by rw [rg.l]; omega
          have b0 := bb_at (R := R) (i := 0) hi0
          have hlw := o3.lt (by omega)
          have hq4 := rg.n
          have hj0 : ((0 : Int).toNat * 1) = 0 := rfl
          rw [hj0] at b0
          have ix0 : aixP 32 1 (.ptr (some (H.n + 1, 0))) (I 0) = some (.ptr (some (H.n + 1, 0))) := rfl
          simp (disch := first | omega | assumption | exact id rfl | (simp only [okw_wr]; assumption)) only [t6, t3, t4, t7, ow.ln, ix0, rg.r, b0, ow.ix, ow.c0 false, b_neB1 t_bool, RC, RO, RM, RT, AV.cells, Option.map_some, AV.one, AV.all1, i64_wrap, u64_wrap, u32_wrap, u8_wrap, Nat.zero_add, Nat.add_zero, Nat.reduceEqDiff, Nat.reduceLeDiff, Nat.reduceAdd, Nat.left_eq_add, Nat.add_eq_left, Nat.add_left_cancel_iff, reduceIte, eq_self, decide_true, decide_false, Bool.not_true, Bool.not_false, reduceCtorEq, List.getElem?_cons_zero, List.getElem?_cons_succ, List.set_cons_zero, List.set_cons_succ]
          generalize hob : (R.getD (Int.toNat 0) false != (bitsL L).getD (j : Int).toNat false) = ob
          refine Cs_loop (fun m T H' => ∃ k : Nat, m + k = 31 ∧ T 6 = w ∧ T 3 = .ptr (some (H.n, 0)) ∧ T 4 = .ptr (some (H.n + 1, 0)) ∧ T 7 = I j ∧ T 8 = .bool ob ∧ T 9 = I k ∧ Reg H H' (shiftL R k) ∧ H3.n ≤ H'.n ∧ H'.g (sb w) = H3.g (sb w)) ⟨0, rfl, ?_⟩ ?_
          · simp (disch := omega) only [upd_ne, upd_same, t6, t3, t4, t7]
            exact ⟨(by first | trivial | rfl), (by first | trivial | rfl), (by first | trivial | rfl), (by first | trivial | rfl), (by first | trivial | rfl), rfl, by simpa [shiftL] using rg, q4, kw⟩
          · rintro m2 T H5 ⟨k, hm2, k6, k3, k4, k7, k8, k9, rg5, q5, kw5⟩
            simp (disch := first | omega | assumption | exact id rfl | (simp only [okw_wr]; assumption)) only [k6, k3, k4, k7, k8, k9, RC, RO, RM, RT, AV.cells, Option.map_some, AV.one, AV.all1, i64_wrap, u64_wrap, u32_wrap, u8_wrap, Nat.zero_add, Nat.add_zero, Nat.reduceEqDiff, Nat.reduceLeDiff, Nat.reduceAdd, Nat.left_eq_add, Nat.add_eq_left, Nat.add_left_cancel_iff, reduceIte, eq_self, decide_true, decide_false, Bool.not_true, Bool.not_false, reduceCtorEq, List.getElem?_cons_zero, List.getElem?_cons_succ, List.set_cons_zero, List.set_cons_succ]
            refine Is_split (fun hb2 => ?_) (fun hb2 => ?_)
            · have hk := of_decide_eq_true hb2
              simp only [hb2]
              have hi : 0 ≤ (k : Int) ∧ (k : Int) < (shiftL R k).length := by rw [rg5.l]; omega
              have hi1 : 0 ≤ (k : Int) + 1 ∧ (k : Int) + 1 < (shiftL R k).length := by rw [rg5.l]; omega
              have ok := bb_ok (e := 132) hi
              have b1 := bb_at hi1
              have hq5 := rg5.n
              simp (disch := first | omega | assumption | exact id rfl | (simp only [okw_wr]; assumption)) only [k6, k3, k4, k7, k8, k9, q_ixP, rg5.r, b1, wr1_c, bb_set, RC, RO, RM, RT, AV.cells, Option.map_some, AV.one, AV.all1, i64_wrap, u64_wrap, u32_wrap, u8_wrap, Nat.zero_add, Nat.add_zero, Nat.reduceEqDiff, Nat.reduceLeDiff, Nat.reduceAdd, Nat.left_eq_add, Nat.add_eq_left, Nat.add_left_cancel_iff, reduceIte, eq_self, decide_true, decide_false, Bool.not_true, Bool.not_false, reduceCtorEq, List.getElem?_cons_zero, List.getElem?_cons_succ, List.set_cons_zero, List.set_cons_succ]
              have e : ((k : Int) + 1).toNat = k + 1 := by omega
              rw [e, Int.toNat_natCast, shiftL_set rg.l (by omega)]
              have rs := rg5.set k ((shiftL R k).getD (k + 1) false)
              rw [shiftL_set rg.l (by omega)] at rs
              refine ⟨m2 - 1, by omega, k + 1, by omega, (by first | trivial | rfl), (by first | trivial | rfl), (by first | trivial | rfl), (by first | trivial | rfl), (by first | trivial | rfl), by rw [Int.natCast_succ], rs, q5, ?_⟩
              first | exact kw5 | (rw [upd_ne _ _ (by omega)]; exact kw5)
            · have hk := of_decide_eq_false hb2
              simp only [hb2]
              have : k = 31 := by omega
              subst this
              have hi : 0 ≤ (31 : Int) ∧ (31 : Int) < (shiftL R 31).length := by rw [rg5.l]; omega
              have ok := bb_ok (e := 132) hi
              have hq5 := rg5.n
              have rs := rg5.set 31 false
              simp (disch := first | omega | assumption | exact id rfl | (simp only [okw_wr]; assumption)) only [k6, k3, k4, k7, k8, k9, q_ixP, rg5.r, wr1_c, bb_set, RC, RO, RM, RT, AV.cells, Option.map_some, AV.one, AV.all1, i64_wrap, u64_wrap, u32_wrap, u8_wrap, Nat.zero_add, Nat.add_zero, Nat.reduceEqDiff, Nat.reduceLeDiff, Nat.reduceAdd, Nat.left_eq_add, Nat.add_eq_left, Nat.add_left_cancel_iff, reduceIte, eq_self, decide_true, decide_false, Bool.not_true, Bool.not_false, reduceCtorEq, List.getElem?_cons_zero, List.getElem?_cons_succ, List.set_cons_zero, List.set_cons_succ]
              rw [show (31 : Int).toNat = 31 from rfl]
              generalize hR2 : (shiftL R 31).set 31 false = R2 at *
              refine Is_split (fun hb3 => ?_) (fun hb3 => ?_)
              · simp only [hb3]
                have hob3 : (R.getD 0 false != (bitsL L).getD j false) = true := by rw [← hb3, ← hob, Int.toNat_natCast]; rfl
                simp (disch := first | omega | assumption | exact id rfl | (simp only [okw_wr]; assumption)) only [k6, k3, k4, k7, k8, k9, RC, RO, RM, RT, AV.cells, Option.map_some, AV.one, AV.all1, i64_wrap, u64_wrap, u32_wrap, u8_wrap, Nat.zero_add, Nat.add_zero, Nat.reduceEqDiff, Nat.reduceLeDiff, Nat.reduceAdd, Nat.left_eq_add, Nat.add_eq_left, Nat.add_left_cancel_iff, reduceIte, eq_self, decide_true, decide_false, Bool.not_true, Bool.not_false, reduceCtorEq, List.getElem?_cons_zero, List.getElem?_cons_succ, List.set_cons_zero, List.set_cons_succ]
                refine Cs_loop (fun m T H' => ∃ x : Nat, m + x = 32 ∧ T 6 = w ∧ T 3 = .ptr (some (H.n, 0)) ∧ T 4 = .ptr (some (H.n + 1, 0)) ∧ T 7 = I j ∧ T 10 = I x ∧ Reg H H' (xorL R2 x) ∧ H3.n ≤ H'.n ∧ H'.g (sb w) = H3.g (sb w)) ⟨0, rfl, ?_⟩ ?_
                · simp (disch := omega) only [upd_ne, upd_same, k6, k3, k4, k7]
                  exact ⟨(by first | trivial | rfl), (by first | trivial | rfl), (by first | trivial | rfl), (by first | trivial | rfl), rfl, by simpa [xorL] using rs, q5, kw5⟩
                · rintro m3 T H6 ⟨x, hm3, l6, l3, l4, l7, l10, rg6, q6, kw6⟩
                  simp (disch := first | omega | assumption | exact id rfl | (simp only [okw_wr]; assumption)) only [l6, l3, l4, l7, l10, RC, RO, RM, RT, AV.cells, Option.map_some, AV.one, AV.all1, i64_wrap, u64_wrap, u32_wrap, u8_wrap, Nat.zero_add, Nat.add_zero, Nat.reduceEqDiff, Nat.reduceLeDiff, Nat.reduceAdd, Nat.left_eq_add, Nat.add_eq_left, Nat.add_left_cancel_iff, reduceIte, eq_self, decide_true, decide_false, Bool.not_true, Bool.not_false, reduceCtorEq, List.getElem?_cons_zero, List.getElem?_cons_succ, List.set_cons_zero, List.set_cons_succ]
                  refine Is_split (fun hb4 => ?_) (fun hb4 => ?_)
                  · have hk := of_decide_eq_true hb4
                    simp only [hb4]
                    have hi : 0 ≤ (x : Int) ∧ (x : Int) < (xorL R2 x).length := by rw [rg6.l]; omega
                    have hi1 : 0 ≤ 31 - (x : Int) ∧ 31 - (x : Int) < polyL.length := by rw [show polyL.length = 32 from rfl]; omega
                    have ok := bb_ok (e := 132) hi
                    have b1 := bb_at hi
                    have b2 := bb_at hi1
                    have hq6 := rg6.n
                    simp (disch := first | omega | assumption | exact id rfl | (simp only [okw_wr]; assumption)) only [l6, l3, l4, l7, l10, q_ixP, rg6.r, rg6.p, b1, b2, b_neB1 t_bool, wr1_c, bb_set, RC, RO, RM, RT, AV.cells, Option.map_some, AV.one, AV.all1, i64_wrap, u64_wrap, u32_wrap, u8_wrap, Nat.zero_add, Nat.add_zero, Nat.reduceEqDiff, Nat.reduceLeDiff, Nat.reduceAdd, Nat.left_eq_add, Nat.add_eq_left, Nat.add_left_cancel_iff, reduceIte, eq_self, decide_true, decide_false, Bool.not_true, Bool.not_false, reduceCtorEq, List.getElem?_cons_zero, List.getElem?_cons_succ, List.set_cons_zero, List.set_cons_succ]
                    have e : (31 - (x : Int)).toNat = 31 - x := by omega
                    rw [e, Int.toNat_natCast, xorL_set rs.l (by omega)]
                    have rx := rg6.set x ((xorL R2 x).getD x false != polyL.getD (31 - x) false)
                    rw [xorL_set rs.l (by omega)] at rx
                    refine ⟨m3 - 1, by omega, x + 1, by omega, (by first | trivial | rfl), (by first | trivial | rfl), (by first | trivial | rfl), (by first | trivial | rfl), by rw [Int.natCast_succ], rx, q6, ?_⟩
                    first | exact kw6 | (rw [upd_ne _ _ (by omega)]; exact kw6)
                  · have hk := of_decide_eq_false hb4
                    simp only [hb4]
                    have : x = 32 := by omega
                    subst this
                    simp (disch := first | omega | assumption | exact id rfl | (simp only [okw_wr]; assumption)) only [l6, l3, l4, l7, l10, RC, RO, RM, RT, AV.cells, Option.map_some, AV.one, AV.all1, i64_wrap, u64_wrap, u32_wrap, u8_wrap, Nat.zero_add, Nat.add_zero, Nat.reduceEqDiff, Nat.reduceLeDiff, Nat.reduceAdd, Nat.left_eq_add, Nat.add_eq_left, Nat.add_left_cancel_iff, reduceIte, eq_self, decide_true, decide_false, Bool.not_true, Bool.not_false, reduceCtorEq, List.getElem?_cons_zero, List.getElem?_cons_succ, List.set_cons_zero, List.set_cons_succ]
                    refine ⟨m - 1, by omega, j + 1, by omega, (by first | trivial | rfl), (by first | trivial | rfl), (by first | trivial | rfl), by rw [Int.natCast_succ], ?_, q6, kw6⟩
                    have e : regL (List.replicate 32 true) ((bitsL L).take (j + 1)) = xorL R2 32 := by
                      rw [List.take_succ_eq_append_getElem (by omega), regL_snoc, hR]
                      unfold stepL
                      have : (bitsL L)[j] = (bitsL L).getD j false := by rw [List.getD_eq_getElem?_getD, List.getElem?_eq_getElem (by omega)]; rfl
                      rw [this, if_pos hob3, hR2]
                    rw [e]; exact rg6
              · simp only [hb3]
                have hob3 : ¬ (R.getD 0 false != (bitsL L).getD j false) = true := by
                  intro h
                  have : ob = true := by rw [← hob, ← h, Int.toNat_natCast]; rfl
                  rw [hb3] at this; cases this
                simp (disch := first | omega | assumption | exact id rfl | (simp only [okw_wr]; assumption)) only [k6, k3, k4, k7, k8, k9, RC, RO, RM, RT, AV.cells, Option.map_some, AV.one, AV.all1, i64_wrap, u64_wrap, u32_wrap, u8_wrap, Nat.zero_add, Nat.add_zero, Nat.reduceEqDiff, Nat.reduceLeDiff, Nat.reduceAdd, Nat.left_eq_add, Nat.add_eq_left, Nat.add_left_cancel_iff, reduceIte, eq_self, decide_true, decide_false, Bool.not_true, Bool.not_false, reduceCtorEq, List.getElem?_cons_zero, List.getElem?_cons_succ, List.set_cons_zero, List.set_cons_succ]
                refine ⟨m - 1, by omega, j + 1, by omega, (by first | trivial | rfl), (by first | trivial | rfl), (by first | trivial | rfl), by rw [Int.natCast_succ], ?_, q5, ?_⟩
                · have e : regL (List.replicate 32 true) ((bitsL L).take (j + 1)) = R2 := by
                    rw [List.take_succ_eq_append_getElem (by omega), regL_snoc, hR]
                    unfold stepL
                    have : (bitsL L)[j] = (bitsL L).getD j false := by rw [List.getD_eq_getElem?_getD, List.getElem?_eq_getElem (by omega)]; rfl
                    rw [this, if_neg hob3, hR2]
                  rw [e]; exact rs
                · first | exact kw5 | (rw [upd_ne _ _ (by omega)]; exact kw5)
        · have hj := of_decide_eq_false hb
          simp only [hb]
          have : j = (bitsL L).length := by omega
          subst this
          rw [List.take_length] at hR
          simp (disch := first | omega | assumption | exact id rfl | (simp only [okw_wr]; assumption)) only [t6, t3, t4, t7, RC, RO, RM, RT, AV.cells, Option.map_some, AV.one, AV.all1, i64_wrap, u64_wrap, u32_wrap, u8_wrap, Nat.zero_add, Nat.add_zero, Nat.reduceEqDiff, Nat.reduceLeDiff, Nat.reduceAdd, Nat.left_eq_add, Nat.add_eq_left, Nat.add_left_cancel_iff, reduceIte, eq_self, decide_true, decide_false, Bool.not_true, Bool.not_false, reduceCtorEq, List.getElem?_cons_zero, List.getElem?_cons_succ, List.set_cons_zero, List.set_cons_succ]
          refine Cs_loop (fun m T H' => ∃ k : Nat, m = k ∧ k ≤ 32 ∧ T 4 = .ptr (some (H.n + 1, 0)) ∧ T 12 = I ((k : Int) - 1) ∧ T 11 = .int .u32 (sumL (R.drop k) : Nat) ∧ Reg H H' R) ⟨32, rfl, Nat.le_refl _, ?_⟩ ?_
          · simp (disch := omega) only [upd_ne, upd_same, t4]
            refine ⟨(by first | trivial | rfl), rfl, ?_, rg⟩
            rw [List.drop_of_length_le (by rw [rg.l]; omega)]; rfl
          · rintro m T H5 ⟨k, rfl, hk, k4, k12, k11, rg5⟩
            have hsl := sumL_lt (R.drop m)
            have hdl : (R.drop m).length = 32 - m := by rw [List.length_drop, rg5.l]
            rw [hdl] at hsl
            simp (disch := first | omega | assumption | exact id rfl | (simp only [okw_wr]; assumption)) only [k4, k12, k11, RC, RO, RM, RT, AV.cells, Option.map_some, AV.one, AV.all1, i64_wrap, u64_wrap, u32_wrap, u8_wrap, Nat.zero_add, Nat.add_zero, Nat.reduceEqDiff, Nat.reduceLeDiff, Nat.reduceAdd, Nat.left_eq_add, Nat.add_eq_left, Nat.add_left_cancel_iff, reduceIte, eq_self, decide_true, decide_false, Bool.not_true, Bool.not_false, reduceCtorEq, List.getElem?_cons_zero, List.getElem?_cons_succ, List.set_cons_zero, List.set_cons_succ]
            refine Is_split (fun hb5 => ?_) (fun hb5 => ?_)
            · have hk5 := of_decide_eq_true hb5
              simp only [hb5]
              obtain ⟨j, rfl⟩ : ∃ j, m = j + 1 := ⟨m - 1, by omega⟩
              have hp : 2 ^ (32 - (j + 1)) ≤ 2 ^ 31 := Nat.pow_le_pow_right (by omega) (by omega)
              have e1 : ((j + 1 : Nat) : Int) - 1 = j := by omega
              rw [e1] at k12
              have hi : 0 ≤ (j : Int) ∧ (j : Int) < R.length := by rw [rg5.l]; omega
              have b1 := bb_at hi
              have hsd := sumL_drop (R := R) (k := j) (by rw [rg5.l]; omega)
              generalize hsx : sumL (R.drop (j + 1)) = sx at *
              (simp (disch := first | omega | assumption | exact id rfl | (simp only [okw_wr]; assumption)) only [e1, k4, k12, k11, q_ixP, rg5.r, b1, RC, RO, RM, RT, AV.cells, Option.map_some, AV.one, AV.all1, i64_wrap, u64_wrap, u32_wrap, u8_wrap, Nat.zero_add, Nat.add_zero, Nat.reduceEqDiff, Nat.reduceLeDiff, Nat.reduceAdd, Nat.left_eq_add, Nat.add_eq_left, Nat.add_left_cancel_iff, reduceIte, eq_self, decide_true, decide_false, Bool.not_true, Bool.not_false, reduceCtorEq, List.getElem?_cons_zero, List.getElem?_cons_succ, List.set_cons_zero, List.set_cons_succ]; repeat' (first | (refine Gs_split (fun hb => ?_) (fun hb => ?_) <;> (simp only [hb]; (try simp only [decide_eq_true_eq, decide_eq_false_iff_not, Bool.not_eq_true', Bool.not_eq_false', ne_eq, Decidable.not_not, not_true_eq_false] at hb); (try simp (disch := first | omega | assumption | exact id rfl | (simp only [okw_wr]; assumption)) only [e1, k4, k12, k11, q_ixP, rg5.r, b1, RC, RO, RM, RT, AV.cells, Option.map_some, AV.one, AV.all1, i64_wrap, u64_wrap, u32_wrap, u8_wrap, Nat.zero_add, Nat.add_zero, Nat.reduceEqDiff, Nat.reduceLeDiff, Nat.reduceAdd, Nat.left_eq_add, Nat.add_eq_left, Nat.add_left_cancel_iff, reduceIte, eq_self, decide_true, decide_false, Bool.not_true, Bool.not_false, reduceCtorEq, List.getElem?_cons_zero, List.getElem?_cons_succ, List.set_cons_zero, List.set_cons_succ]))) | (refine Is_split (fun hb => ?_) (fun hb => ?_) <;> (simp only [hb]; (try simp only [decide_eq_true_eq, decide_eq_false_iff_not, Bool.not_eq_true', Bool.not_eq_false', ne_eq, Decidable.not_not, not_true_eq_false] at hb); (try simp (disch := first | omega | assumption | exact id rfl | (simp only [okw_wr]; assumption)) only [e1, k4, k12, k11, q_ixP, rg5.r, b1, RC, RO, RM, RT, AV.cells, Option.map_some, AV.one, AV.all1, i64_wrap, u64_wrap, u32_wrap, u8_wrap, Nat.zero_add, Nat.add_zero, Nat.reduceEqDiff, Nat.reduceLeDiff, Nat.reduceAdd, Nat.left_eq_add, Nat.add_eq_left, Nat.add_left_cancel_iff, reduceIte, eq_self, decide_true, decide_false, Bool.not_true, Bool.not_false, reduceCtorEq, List.getElem?_cons_zero, List.getElem?_cons_succ, List.set_cons_zero, List.set_cons_succ]))) | (refine Dg_split (fun hb => ?_) (fun hb => ?_) <;> (simp only [hb]; (try simp only [decide_eq_true_eq, decide_eq_false_iff_not, Bool.not_eq_true', Bool.not_eq_false', ne_eq, Decidable.not_not, not_true_eq_false] at hb); (try simp (disch := first | omega | assumption | exact id rfl | (simp only [okw_wr]; assumption)) only [e1, k4, k12, k11, q_ixP, rg5.r, b1, RC, RO, RM, RT, AV.cells, Option.map_some, AV.one, AV.all1, i64_wrap, u64_wrap, u32_wrap, u8_wrap, Nat.zero_add, Nat.add_zero, Nat.reduceEqDiff, Nat.reduceLeDiff, Nat.reduceAdd, Nat.left_eq_add, Nat.add_eq_left, Nat.add_left_cancel_iff, reduceIte, eq_self, decide_true, decide_false, Bool.not_true, Bool.not_false, reduceCtorEq, List.getElem?_cons_zero, List.getElem?_cons_succ, List.set_cons_zero, List.set_cons_succ])))))
              · rw [Int.toNat_natCast] at hb
                refine ⟨j, by omega, j, rfl, by omega, (by first | trivial | rfl), by simp, ?_, rg5⟩
                rw [hsd, hb]; simp; omega
              · rw [Int.toNat_natCast] at hb
                refine ⟨j, by omega, j, rfl, by omega, (by first | trivial | rfl), by simp, ?_, rg5⟩
                rw [hsd, hb]; simp; omega
            · have hk5 := of_decide_eq_false hb5
              simp only [hb5]
              have : m = 0 := by omega
              subst this
              simp (disch := first | omega | assumption | exact id rfl | (simp only [okw_wr]; assumption)) only [k4, k12, k11, RC, RO, RM, RT, AV.cells, Option.map_some, AV.one, AV.all1, i64_wrap, u64_wrap, u32_wrap, u8_wrap, Nat.zero_add, Nat.add_zero, Nat.reduceEqDiff, Nat.reduceLeDiff, Nat.reduceAdd, Nat.left_eq_add, Nat.add_eq_left, Nat.add_left_cancel_iff, reduceIte, eq_self, decide_true, decide_false, Bool.not_true, Bool.not_false, reduceCtorEq, List.getElem?_cons_zero, List.getElem?_cons_succ, List.set_cons_zero, List.set_cons_succ]
              refine ⟨?_, rg5.f⟩
              rw [List.drop_zero, ← hR]
end Go.Eng
namespace Go.Eng
open Wr
set_option linter.unusedVariables false
set_option linter.unusedSimpArgs false
def valL : List Bool → Nat
  | [] => 0
  | b :: l => (if b then 1 else 0) + 2 * valL l
theorem valL_bit : ∀ (l : List Bool) (i : Nat), (valL l).testBit i = l.getD i false
  | [], i => by simp [valL]
  | b :: l, 0 => by
    rw [Nat.testBit_zero]; cases b <;> simp [valL] <;> omega
  | b :: l, i + 1 => by
    rw [Nat.testBit_succ]
    have : valL (b :: l) / 2 = valL l := by simp only [valL]; split <;> omega
    rw [this, valL_bit l i]; rfl
theorem sumL_val : ∀ l : List Bool, sumL l + valL l + 1 = 2 ^ l.length
  | [] => rfl
  | b :: l => by have := sumL_val l; simp only [sumL, valL, List.length_cons, Nat.pow_succ]; split <;> omega
theorem valL_snoc_f : ∀ l : List Bool, valL (l ++ [false]) = valL l
  | [] => rfl
  | b :: l => by simp only [List.cons_append, valL, valL_snoc_f l]
theorem shift_val {R : List Bool} (h : R.length = 32) : valL ((shiftL R 31).set 31 false) = valL R / 2 := by
  obtain ⟨b, l, rfl⟩ : ∃ b l, R = b :: l := by cases R with | nil => simp at h | cons b l => exact ⟨b, l, rfl⟩
  have hl : l.length = 31 := by simpa using h
  have e : (shiftL (b :: l) 31).set 31 false = l ++ [false] := by
    unfold shiftL
    obtain ⟨x, hx⟩ : ∃ x, (b :: l).drop 31 = [x] := by
      have : ((b :: l).drop 31).length = 1 := by simp [hl]
      match h : (b :: l).drop 31, this with
      | [x], _ => exact ⟨x, rfl⟩
    rw [hx, List.drop_one, List.tail_cons, List.take_of_length_le (by omega), List.set_append_right _ _ (by omega), hl]; rfl
  rw [e, valL_snoc_f]
  simp only [valL]; split <;> omega
theorem xor_val {R : List Bool} (h : R.length = 32) : valL (xorL R 32) = valL R ^^^ 3988292384 := by
  apply Nat.eq_of_testBit_eq
  intro i
  rw [Nat.testBit_xor, valL_bit, valL_bit]
  unfold xorL
  have hp : (3988292384 : Nat) = valL polyL.reverse := by decide
  rw [hp, valL_bit]
  by_cases hi : i < 32
  · rw [List.getD_eq_getElem?_getD, List.getElem?_append_left (by simpa using hi), List.getElem?_map, List.getElem?_range hi]
    simp only [Option.map_some, Option.getD_some]
    have : polyL.reverse.getD i false = polyL.getD (31 - i) false := by
      rw [List.getD_eq_getElem?_getD, List.getD_eq_getElem?_getD, List.getElem?_reverse (by simpa [polyL] using hi)]; rfl
    rw [this]
  · rw [List.getD_eq_getElem?_getD, List.getElem?_eq_none (by simp; omega), List.getD_eq_getElem?_getD, List.getElem?_eq_none (by omega), List.getD_eq_getElem?_getD, List.getElem?_eq_none (by simp [polyL]; omega)]; rfl
theorem step_val {R : List Bool} (h : R.length = 32) (b : Bool) : valL (stepL R b) = crcBit (valL R ^^^ (if b then 1 else 0)) := by
  obtain ⟨a, l, rfl⟩ : ∃ a l, R = a :: l := by cases R with | nil => simp at h | cons b l => exact ⟨b, l, rfl⟩
  have h0 : (a :: l).getD 0 false = a := rfl
  have hv : valL (a :: l) % 2 = if a then 1 else 0 := by simp only [valL]; split <;> omega
  have hx : (valL (a :: l) ^^^ (if b then 1 else 0)) / 2 = valL (a :: l) / 2 := by
    rw [Nat.xor_div_two]; cases b <;> simp
  have hm : (valL (a :: l) ^^^ (if b then 1 else 0)) % 2 = if (a != b) then 1 else 0 := by
    have := Nat.xor_mod_two_pow (a := valL (a :: l)) (b := if b then 1 else 0) (n := 1)
    rw [Nat.pow_one] at this
    rw [this, hv]; cases a <;> cases b <;> rfl
  unfold stepL crcBit
  rw [h0, hm, hx]
  have hs := shift_val h
  have hsl : ((shiftL (a :: l) 31).set 31 false).length = 32 := by rw [List.length_set, shiftL_len h (by omega)]
  by_cases hab : (a != b) = true
  · rw [if_pos hab, if_pos (by rw [if_pos hab]), xor_val hsl, hs]
  · rw [if_neg hab, if_neg (by rw [if_neg hab]; decide), hs]
theorem crcBit_xor (c x : Nat) : crcBit (c ^^^ x) = crcBit (c ^^^ (x % 2)) ^^^ (x / 2) := by
  have h1 : (c ^^^ x) % 2 = (c ^^^ (x % 2)) % 2 := by
    have e1 := Nat.xor_mod_two_pow (a := c) (b := x) (n := 1)
    have e2 := Nat.xor_mod_two_pow (a := c) (b := x % 2) (n := 1)
    rw [Nat.pow_one] at e1 e2
    rw [e1, e2, Nat.mod_mod]
  have h2 : (c ^^^ x) / 2 = (c ^^^ (x % 2)) / 2 ^^^ (x / 2) := by
    rw [Nat.xor_div_two, Nat.xor_div_two]
    have : x % 2 / 2 = 0 := by omega
    rw [this, Nat.xor_zero]
  unfold crcBit
  rw [h1, h2]
  split
  · rw [Nat.xor_assoc, Nat.xor_comm (x / 2), ← Nat.xor_assoc]
  · rfl
theorem bits_crc : ∀ (n c x : Nat), x < 2 ^ n → crcBits n (c ^^^ x) = (bitsN n x).foldl (fun c b => crcBit (c ^^^ (if b then 1 else 0))) c
  | 0, c, x, h => by
    have : x = 0 := by simpa using h
    subst this; simp [crcBits, bitsN]
  | n + 1, c, x, h => by
    rw [crcBits, crcBit_xor, bits_crc n _ (x / 2) (by rw [Nat.pow_succ] at h; omega), bitsN, List.foldl_cons]
    congr 2
    have : x % 2 = if bt x = true then 1 else 0 := by
      rcases Nat.mod_two_eq_zero_or_one x with e | e <;> simp [bt, e]
    rw [this]
theorem regL_val : ∀ (l R : List Bool), R.length = 32 → valL (regL R l) = l.foldl (fun c b => crcBit (c ^^^ (if b then 1 else 0))) (valL R)
  | [], R, h => rfl
  | b :: l, R, h => by rw [regL, regL_val l _ (stepL_len h b), List.foldl_cons, step_val h]
theorem bytes_crc : ∀ (L : List Nat) (c : Nat), (∀ x ∈ L, x < 256) → crcBytes L c = (bitsL L).foldl (fun c b => crcBit (c ^^^ (if b then 1 else 0))) c
  | [], c, _ => rfl
  | a :: L, c, h => by
    have e : bitsL (a :: L) = bitsN 8 a ++ bitsL L := rfl
    rw [crcBytes, e, List.foldl_append, bytes_crc L _ (fun x hx => h x (List.mem_cons_of_mem _ hx)), bits_crc 8 c a (h a List.mem_cons_self)]
theorem not_xor : ∀ (n v : Nat), v < 2 ^ n → (2 ^ n - 1) ^^^ v = 2 ^ n - 1 - v := by
  intro n v h
  apply Nat.eq_of_testBit_eq
  intro i
  have e : 2 ^ n - 1 - v = 2 ^ n - (v + 1) := by omega
  rw [Nat.testBit_xor, Nat.testBit_two_pow_sub_one, e, Nat.testBit_two_pow_sub_succ h]
  by_cases hi : i < n
  · simp [hi]
  · have : v.testBit i = false := Nat.testBit_lt_two_pow (Nat.lt_of_lt_of_le h (Nat.pow_le_pow_right (by omega) (by omega)))
    simp [hi, this]
theorem sum_more {L : List Nat} (h : ∀ x ∈ L, x < 256) : sumL (regL (List.replicate 32 true) (bitsL L)) = more 0 L := by
  have hl := regL_len (bitsL L) (List.replicate 32 true) (by simp)
  have hs := sumL_val (regL (List.replicate 32 true) (bitsL L))
  have hv := regL_val (bitsL L) (List.replicate 32 true) (by simp)
  have h1 : valL (List.replicate 32 true) = 4294967295 := by decide
  rw [h1] at hv
  have hb := bytes_crc L 4294967295 h
  rw [← hb] at hv
  have hlt := crcBytes_lt L h (c := 4294967295) (by omega)
  have hn := not_xor 32 (crcBytes L 4294967295) (by omega)
  rw [hl, hv] at hs
  unfold more
  rw [Nat.xor_zero]
  have e32 : (2 : Nat) ^ 32 - 1 = 4294967295 := by decide
  rw [e32] at hn
  rw [hn]; omega
end Go.Eng
