/-
  G6: Walks of rec: Read.
  G5: Walks of rec.
  G4: Walks of crc.
-/
import Derived.Test.YtecaahcbbdbpbaaW6
import Derived.Test.YtecaahcbbdbpbaaW11
namespace Go.Eng
open Wr
set_option linter.unusedVariables false
set_option linter.unusedSimpArgs false
theorem xor_lt32 {a b : Nat} (ha : a < 4294967296) (hb : b < 4294967296) : a ^^^ b < 4294967296 := Nat.xor_lt_two_pow (n := 32) ha hb
theorem crcBit_lt {c : Nat} (h : c < 4294967296) : crcBit c < 4294967296 := by
  unfold crcBit; split
  · exact xor_lt32 (by omega) (by omega)
  · omega
theorem crcBits_lt : ∀ (n : Nat) {c : Nat}, c < 4294967296 → crcBits n c < 4294967296
  | 0, c, h => h
  | n + 1, c, h => crcBits_lt n (crcBit_lt h)
theorem crcBits_succ : ∀ (n c : Nat), crcBits (n + 1) c = crcBit (crcBits n c)
  | 0, c => rfl
  | n + 1, c => by rw [crcBits, crcBits_succ n, crcBits]
theorem crcBytes_lt : ∀ (l : List Nat) {c : Nat}, (∀ x ∈ l, x < 256) → c < 4294967296 → crcBytes l c < 4294967296
  | [], c, _, h => h
  | b :: l, c, hl, h => crcBytes_lt l (fun x hx => hl x (List.mem_cons_of_mem _ hx)) (crcBits_lt 8 (xor_lt32 h (by have := hl b List.mem_cons_self; omega)))
theorem crcBytes_snoc : ∀ (l : List Nat) (b c : Nat), crcBytes (l ++ [b]) c = crcBits 8 (crcBytes l c ^^^ b)
  | [], b, c => rfl
  | a :: l, b, c => by simp only [List.cons_append, crcBytes, crcBytes_snoc l]
theorem take_snoc {L : List Nat} {i : Nat} (h : i < L.length) : L.take (i + 1) = L.take i ++ [L.getD i 0] := by
  rw [List.take_succ_eq_append_getElem h, List.getD_eq_getElem?_getD, List.getElem?_eq_getElem h]; rfl
theorem c_crc_More {v : AV} {L : List Nat} {s : Nat} {H : AH} (hs : Sl H.g 1 b8C v L) (hv : sb v < H.n) (hl : L.length ≤ 1000000) (hb : ∀ x ∈ L, x < 256) (hs4 : s < 4294967296) :
    Acalls P0 S0 81 [.int .u32 s, v] H fun r H' => r = .int .u32 (more s L : Nat) ∧ Fr No H H' := by
  refine Acalls.go m81 rfl ?_
  rw [slots0_2]; unfold b81
  simp (disch := first | omega | assumption | exact id rfl | (simp only [okw_wr]; assumption)) only [u_xor32, hs.ln, RC, RO, RM, RT, AV.cells, Option.map_some, AV.one, AV.all1, i64_wrap, u64_wrap, u32_wrap, u8_wrap, Nat.zero_add, Nat.add_zero, Nat.reduceEqDiff, Nat.reduceLeDiff, Nat.reduceAdd, Nat.left_eq_add, Nat.add_eq_left, Nat.add_left_cancel_iff, reduceIte, eq_self, decide_true, decide_false, Bool.not_true, Bool.not_false, reduceCtorEq, List.getElem?_cons_zero, List.getElem?_cons_succ, List.set_cons_zero, List.set_cons_succ]
  have hc0 : 4294967295 ^^^ s < 4294967296 := xor_lt32 (by omega) hs4
  refine Cs_loop (fun m T H' => ∃ i : Nat, m + i = L.length ∧ T 11 = v ∧ T 12 = I L.length ∧ T 13 = I i ∧ T 5 = .int .u32 (crcBytes (L.take i) (4294967295 ^^^ s) : Nat) ∧ Fr No H H') ⟨0, rfl, ?_⟩ ?_
  · simp (disch := omega) only [upd_ne, upd_same]
    exact ⟨trivial, trivial, rfl, rfl, Fr.refl _⟩
  · rintro m T H2 ⟨i, hn, h11, h12, h13, h5, f2⟩
    have hc := crcBytes_lt (L.take i) (fun x hx => hb x (List.mem_of_mem_take hx)) hc0
    have hg := getD_lt hb (i : Int).toNat
    simp (disch := first | omega | assumption | exact id rfl | (simp only [okw_wr]; assumption)) only [h11, h12, h13, h5, RC, RO, RM, RT, AV.cells, Option.map_some, AV.one, AV.all1, i64_wrap, u64_wrap, u32_wrap, u8_wrap, Nat.zero_add, Nat.add_zero, Nat.reduceEqDiff, Nat.reduceLeDiff, Nat.reduceAdd, Nat.left_eq_add, Nat.add_eq_left, Nat.add_left_cancel_iff, reduceIte, eq_self, decide_true, decide_false, Bool.not_true, Bool.not_false, reduceCtorEq, List.getElem?_cons_zero, List.getElem?_cons_succ, List.set_cons_zero, List.set_cons_succ]
    refine Is_split (fun hb1 => ?_) (fun hb1 => ?_)
    · simp only [hb1]
      have hb' := of_decide_eq_true hb1
      have hx := xor_lt32 hc (show L.getD (i : Int).toNat 0 < 4294967296 by omega)
      simp (disch := first | omega | assumption | exact id rfl | (simp only [okw_wr]; assumption)) only [h11, h12, h13, h5, f2.at, hs.ix, hs.c0 0, b_xor32, RC, RO, RM, RT, AV.cells, Option.map_some, AV.one, AV.all1, i64_wrap, u64_wrap, u32_wrap, u8_wrap, Nat.zero_add, Nat.add_zero, Nat.reduceEqDiff, Nat.reduceLeDiff, Nat.reduceAdd, Nat.left_eq_add, Nat.add_eq_left, Nat.add_left_cancel_iff, reduceIte, eq_self, decide_true, decide_false, Bool.not_true, Bool.not_false, reduceCtorEq, List.getElem?_cons_zero, List.getElem?_cons_succ, List.set_cons_zero, List.set_cons_succ]
      refine Cs_loop (fun m' T' H' => ∃ j : Nat, m' + j = 8 ∧ T' 11 = v ∧ T' 12 = I L.length ∧ T' 13 = I i ∧ T' 21 = I j ∧ T' 5 = .int .u32 (crcBits j (crcBytes (L.take i) (4294967295 ^^^ s) ^^^ L.getD (i : Int).toNat 0) : Nat) ∧ Fr No H H') ⟨0, rfl, ?_⟩ ?_
      · simp (disch := omega) only [upd_ne, upd_same, h11, h12, h13]
        exact ⟨trivial, trivial, trivial, rfl, rfl, f2⟩
      · rintro m' T' H3 ⟨j, hj, k11, k12, k13, k21, k5, f3⟩
        have hcj := crcBits_lt j hx
        generalize hcg : crcBits j (crcBytes (L.take i) (4294967295 ^^^ s) ^^^ L.getD (i : Int).toNat 0) = cj at hcj k5
        (simp (disch := first | omega | assumption | exact id rfl | (simp only [okw_wr]; assumption)) only [k11, k12, k13, k21, k5, b_and1, b_shr1, RC, RO, RM, RT, AV.cells, Option.map_some, AV.one, AV.all1, i64_wrap, u64_wrap, u32_wrap, u8_wrap, Nat.zero_add, Nat.add_zero, Nat.reduceEqDiff, Nat.reduceLeDiff, Nat.reduceAdd, Nat.left_eq_add, Nat.add_eq_left, Nat.add_left_cancel_iff, reduceIte, eq_self, decide_true, decide_false, Bool.not_true, Bool.not_false, reduceCtorEq, List.getElem?_cons_zero, List.getElem?_cons_succ, List.set_cons_zero, List.set_cons_succ]; repeat' (first | (refine Gs_split (fun hb => ?_) (fun hb => ?_) <;> (simp only [hb]; (try simp only [decide_eq_true_eq, decide_eq_false_iff_not, Bool.not_eq_true', Bool.not_eq_false', ne_eq, Decidable.not_not, not_true_eq_false] at hb); (try simp (disch := first | omega | assumption | exact id rfl | (simp only [okw_wr]; assumption)) only [k11, k12, k13, k21, k5, b_and1, b_shr1, RC, RO, RM, RT, AV.cells, Option.map_some, AV.one, AV.all1, i64_wrap, u64_wrap, u32_wrap, u8_wrap, Nat.zero_add, Nat.add_zero, Nat.reduceEqDiff, Nat.reduceLeDiff, Nat.reduceAdd, Nat.left_eq_add, Nat.add_eq_left, Nat.add_left_cancel_iff, reduceIte, eq_self, decide_true, decide_false, Bool.not_true, Bool.not_false, reduceCtorEq, List.getElem?_cons_zero, List.getElem?_cons_succ, List.set_cons_zero, List.set_cons_succ]))) | (refine Is_split (fun hb => ?_) (fun hb => ?_) <;> (simp only [hb]; (try simp only [decide_eq_true_eq, decide_eq_false_iff_not, Bool.not_eq_true', Bool.not_eq_false', ne_eq, Decidable.not_not, not_true_eq_false] at hb); (try simp (disch := first | omega | assumption | exact id rfl | (simp only [okw_wr]; assumption)) only [k11, k12, k13, k21, k5, b_and1, b_shr1, RC, RO, RM, RT, AV.cells, Option.map_some, AV.one, AV.all1, i64_wrap, u64_wrap, u32_wrap, u8_wrap, Nat.zero_add, Nat.add_zero, Nat.reduceEqDiff, Nat.reduceLeDiff, Nat.reduceAdd, Nat.left_eq_add, Nat.add_eq_left, Nat.add_left_cancel_iff, reduceIte, eq_self, decide_true, decide_false, Bool.not_true, Bool.not_false, reduceCtorEq, List.getElem?_cons_zero, List.getElem?_cons_succ, List.set_cons_zero, List.set_cons_succ]))) | (refine Dg_split (fun hb => ?_) (fun hb => ?_) <;> (simp only [hb]; (try simp only [decide_eq_true_eq, decide_eq_false_iff_not, Bool.not_eq_true', Bool.not_eq_false', ne_eq, Decidable.not_not, not_true_eq_false] at hb); (try simp (disch := first | omega | assumption | exact id rfl | (simp only [okw_wr]; assumption)) only [k11, k12, k13, k21, k5, b_and1, b_shr1, RC, RO, RM, RT, AV.cells, Option.map_some, AV.one, AV.all1, i64_wrap, u64_wrap, u32_wrap, u8_wrap, Nat.zero_add, Nat.add_zero, Nat.reduceEqDiff, Nat.reduceLeDiff, Nat.reduceAdd, Nat.left_eq_add, Nat.add_eq_left, Nat.add_left_cancel_iff, reduceIte, eq_self, decide_true, decide_false, Bool.not_true, Bool.not_false, reduceCtorEq, List.getElem?_cons_zero, List.getElem?_cons_succ, List.set_cons_zero, List.set_cons_succ])))))
        · have hxx := xor_lt32 (show cj / 2 < 4294967296 by omega) (show 3988292384 < 4294967296 by omega)
          have e : (3988292384 : Int) = ((3988292384 : Nat) : Int) := rfl
          rw [e]
          simp (disch := first | omega | assumption | exact id rfl | (simp only [okw_wr]; assumption)) only [k11, k12, k13, k21, k5, b_xor32, RC, RO, RM, RT, AV.cells, Option.map_some, AV.one, AV.all1, i64_wrap, u64_wrap, u32_wrap, u8_wrap, Nat.zero_add, Nat.add_zero, Nat.reduceEqDiff, Nat.reduceLeDiff, Nat.reduceAdd, Nat.left_eq_add, Nat.add_eq_left, Nat.add_left_cancel_iff, reduceIte, eq_self, decide_true, decide_false, Bool.not_true, Bool.not_false, reduceCtorEq, List.getElem?_cons_zero, List.getElem?_cons_succ, List.set_cons_zero, List.set_cons_succ]
          refine ⟨m' - 1, by omega, j + 1, by omega, trivial, trivial, trivial, by rw [Int.natCast_succ], ?_, f3⟩
          rw [crcBits_succ, hcg]; unfold crcBit; rw [if_pos (by omega)]
        · refine ⟨m' - 1, by omega, j + 1, by omega, trivial, trivial, trivial, by rw [Int.natCast_succ], ?_, f3⟩
          rw [crcBits_succ, hcg]; unfold crcBit; rw [if_neg (by omega)]
        · have : j = 8 := by omega
          subst this
          refine ⟨m - 1, by omega, i + 1, by omega, trivial, trivial, by rw [Int.natCast_succ], ?_, f3⟩
          rw [take_snoc (by omega), crcBytes_snoc, ← hcg, Int.toNat_natCast]
    · simp only [hb1]
      have hb' := of_decide_eq_false hb1
      simp (disch := first | omega | assumption | exact id rfl | (simp only [okw_wr]; assumption)) only [h5, u_xor32, RC, RO, RM, RT, AV.cells, Option.map_some, AV.one, AV.all1, i64_wrap, u64_wrap, u32_wrap, u8_wrap, Nat.zero_add, Nat.add_zero, Nat.reduceEqDiff, Nat.reduceLeDiff, Nat.reduceAdd, Nat.left_eq_add, Nat.add_eq_left, Nat.add_left_cancel_iff, reduceIte, eq_self, decide_true, decide_false, Bool.not_true, Bool.not_false, reduceCtorEq, List.getElem?_cons_zero, List.getElem?_cons_succ, List.set_cons_zero, List.set_cons_succ]
      refine ⟨?_, f2⟩
      rw [List.take_of_length_le (by omega)]; rfl
theorem more_lt {s : Nat} {l : List Nat} (h : ∀ x ∈ l, x < 256) (hs : s < 4294967296) : more s l < 4294967296 := xor_lt32 (by omega) (crcBytes_lt l h (xor_lt32 (by omega) hs))
theorem c_crc_Sum {v : AV} {L : List Nat} {H : AH} (hs : Sl H.g 1 b8C v L) (hv : sb v < H.n) (hl : L.length ≤ 1000000) (hb : ∀ x ∈ L, x < 256) :
    Acalls P0 S0 64 [v] H fun r H' => r = .int .u32 (more 0 L : Nat) ∧ Fr No H H' := by
  refine Acalls.go m64 rfl ?_
  rw [slots0_1]; unfold b64
  simp (disch := first | omega | assumption | exact id rfl | (simp only [okw_wr]; assumption)) only [RC, RO, RM, RT, AV.cells, Option.map_some, AV.one, AV.all1, i64_wrap, u64_wrap, u32_wrap, u8_wrap, Nat.zero_add, Nat.add_zero, Nat.reduceEqDiff, Nat.reduceLeDiff, Nat.reduceAdd, Nat.left_eq_add, Nat.add_eq_left, Nat.add_left_cancel_iff, reduceIte, eq_self, decide_true, decide_false, Bool.not_true, Bool.not_false, reduceCtorEq, List.getElem?_cons_zero, List.getElem?_cons_succ, List.set_cons_zero, List.set_cons_succ]
  refine (c_crc_More (s := 0) hs hv hl hb (by omega)).mono ?_
  rintro _ H1 ⟨rfl, f1⟩
  simp (disch := first | omega | assumption | exact id rfl | (simp only [okw_wr]; assumption)) only [RC, RO, RM, RT, AV.cells, Option.map_some, AV.one, AV.all1, i64_wrap, u64_wrap, u32_wrap, u8_wrap, Nat.zero_add, Nat.add_zero, Nat.reduceEqDiff, Nat.reduceLeDiff, Nat.reduceAdd, Nat.left_eq_add, Nat.add_eq_left, Nat.add_left_cancel_iff, reduceIte, eq_self, decide_true, decide_false, Bool.not_true, Bool.not_false, reduceCtorEq, List.getElem?_cons_zero, List.getElem?_cons_succ, List.set_cons_zero, List.set_cons_succ]
  exact ⟨trivial, f1⟩
theorem c_crc_Right {v : AV} {L : List Nat} {H : AH} (hs : Sl H.g 1 b8C v L) (hv : sb v < H.n) (hl : L.length ≤ 1000000) (hby : ∀ x ∈ L, x < 256) (h4 : 4 ≤ L.length) :
    Acalls P0 S0 45 [v] H fun r H' => r = .bool (crcRight L) ∧ Fr No H H' := by
  refine Acalls.go m45 rfl ?_
  rw [slots0_1]; unfold b45
  have hneg : decide ((L.length : Int) - 4 < 0) = false := decide_eq_false (by omega)
  simp (disch := first | omega | assumption | exact id rfl | (simp only [okw_wr]; assumption)) only [hs.ln, hneg, RC, RO, RM, RT, AV.cells, Option.map_some, AV.one, AV.all1, i64_wrap, u64_wrap, u32_wrap, u8_wrap, Nat.zero_add, Nat.add_zero, Nat.reduceEqDiff, Nat.reduceLeDiff, Nat.reduceAdd, Nat.left_eq_add, Nat.add_eq_left, Nat.add_left_cancel_iff, reduceIte, eq_self, decide_true, decide_false, Bool.not_true, Bool.not_false, reduceCtorEq, List.getElem?_cons_zero, List.getElem?_cons_succ, List.set_cons_zero, List.set_cons_succ]
  have e4 : L.length - 4 = ((L.length : Int) - 4).toNat := by omega
  refine Cs_loop (fun m T H' => ∃ i : Nat, m + i = 4 ∧ T 0 = v ∧ T 3 = I ((L.length : Int) - 4) ∧ T 11 = I i ∧ T 4 = .int .u32 (ofLe ((L.drop (L.length - 4)).take i) : Nat) ∧ Fr No H H') ⟨0, rfl, ?_⟩ ?_
  · simp (disch := omega) only [upd_ne, upd_same]
    exact ⟨trivial, trivial, rfl, rfl, Fr.refl _⟩
  · rintro m T H2 ⟨i, hn, h0, h3, h11, h4', f2⟩
    have hx := ofLe_lt ((L.drop (L.length - 4)).take i) (fun x hx => hby x (List.mem_of_mem_drop (List.mem_of_mem_take hx)))
    have hg := getD_lt hby ((L.length : Int) - 4 + (i : Int)).toNat
    have ho : ((L.length : Int) - 4 + (i : Int)).toNat = L.length - 4 + i := by omega
    (simp (disch := first | omega | assumption | exact id rfl | (simp only [okw_wr]; assumption)) only [h0, h3, h11, h4', f2.at, hs.ix, hs.c0 0, RC, RO, RM, RT, AV.cells, Option.map_some, AV.one, AV.all1, i64_wrap, u64_wrap, u32_wrap, u8_wrap, Nat.zero_add, Nat.add_zero, Nat.reduceEqDiff, Nat.reduceLeDiff, Nat.reduceAdd, Nat.left_eq_add, Nat.add_eq_left, Nat.add_left_cancel_iff, reduceIte, eq_self, decide_true, decide_false, Bool.not_true, Bool.not_false, reduceCtorEq, List.getElem?_cons_zero, List.getElem?_cons_succ, List.set_cons_zero, List.set_cons_succ]; repeat' (first | (refine Gs_split (fun hb => ?_) (fun hb => ?_) <;> (simp only [hb]; (try simp only [decide_eq_true_eq, decide_eq_false_iff_not, Bool.not_eq_true', Bool.not_eq_false', ne_eq, Decidable.not_not, not_true_eq_false] at hb); (try simp (disch := first | omega | assumption | exact id rfl | (simp only [okw_wr]; assumption)) only [h0, h3, h11, h4', f2.at, hs.ix, hs.c0 0, RC, RO, RM, RT, AV.cells, Option.map_some, AV.one, AV.all1, i64_wrap, u64_wrap, u32_wrap, u8_wrap, Nat.zero_add, Nat.add_zero, Nat.reduceEqDiff, Nat.reduceLeDiff, Nat.reduceAdd, Nat.left_eq_add, Nat.add_eq_left, Nat.add_left_cancel_iff, reduceIte, eq_self, decide_true, decide_false, Bool.not_true, Bool.not_false, reduceCtorEq, List.getElem?_cons_zero, List.getElem?_cons_succ, List.set_cons_zero, List.set_cons_succ]))) | (refine Is_split (fun hb => ?_) (fun hb => ?_) <;> (simp only [hb]; (try simp only [decide_eq_true_eq, decide_eq_false_iff_not, Bool.not_eq_true', Bool.not_eq_false', ne_eq, Decidable.not_not, not_true_eq_false] at hb); (try simp (disch := first | omega | assumption | exact id rfl | (simp only [okw_wr]; assumption)) only [h0, h3, h11, h4', f2.at, hs.ix, hs.c0 0, RC, RO, RM, RT, AV.cells, Option.map_some, AV.one, AV.all1, i64_wrap, u64_wrap, u32_wrap, u8_wrap, Nat.zero_add, Nat.add_zero, Nat.reduceEqDiff, Nat.reduceLeDiff, Nat.reduceAdd, Nat.left_eq_add, Nat.add_eq_left, Nat.add_left_cancel_iff, reduceIte, eq_self, decide_true, decide_false, Bool.not_true, Bool.not_false, reduceCtorEq, List.getElem?_cons_zero, List.getElem?_cons_succ, List.set_cons_zero, List.set_cons_succ]))) | (refine Dg_split (fun hb => ?_) (fun hb => ?_) <;> (simp only [hb]; (try simp only [decide_eq_true_eq, decide_eq_false_iff_not, Bool.not_eq_true', Bool.not_eq_false', ne_eq, Decidable.not_not, not_true_eq_false] at hb); (try simp (disch := first | omega | assumption | exact id rfl | (simp only [okw_wr]; assumption)) only [h0, h3, h11, h4', f2.at, hs.ix, hs.c0 0, RC, RO, RM, RT, AV.cells, Option.map_some, AV.one, AV.all1, i64_wrap, u64_wrap, u32_wrap, u8_wrap, Nat.zero_add, Nat.add_zero, Nat.reduceEqDiff, Nat.reduceLeDiff, Nat.reduceAdd, Nat.left_eq_add, Nat.add_eq_left, Nat.add_left_cancel_iff, reduceIte, eq_self, decide_true, decide_false, Bool.not_true, Bool.not_false, reduceCtorEq, List.getElem?_cons_zero, List.getElem?_cons_succ, List.set_cons_zero, List.set_cons_succ])))))
    · have hlen : ((L.drop (L.length - 4)).take i).length = i := by rw [List.length_take, List.length_drop]; omega
      rw [hlen] at hx
      simp (disch := first | omega | assumption | exact id rfl | (simp only [okw_wr]; assumption)) only [h0, h3, h11, h4', b_shl8_32, b_or8_32, RC, RO, RM, RT, AV.cells, Option.map_some, AV.one, AV.all1, i64_wrap, u64_wrap, u32_wrap, u8_wrap, Nat.zero_add, Nat.add_zero, Nat.reduceEqDiff, Nat.reduceLeDiff, Nat.reduceAdd, Nat.left_eq_add, Nat.add_eq_left, Nat.add_left_cancel_iff, reduceIte, eq_self, decide_true, decide_false, Bool.not_true, Bool.not_false, reduceCtorEq, List.getElem?_cons_zero, List.getElem?_cons_succ, List.set_cons_zero, List.set_cons_succ]
      refine ⟨m - 1, by omega, i + 1, by omega, trivial, trivial, by rw [Int.natCast_succ], ?_, f2⟩
      rw [take_drop_snoc (by omega), ofLe_snoc, hlen, ho]
    · have : i = 4 := by omega
      subst this
      obtain ⟨w, hw, sw, bw, _⟩ := (hs.fr (f2.at hv)).upto (m := (L.length : Int) - 4) (kd := .i64) (by omega)
      simp (disch := first | omega | assumption | exact id rfl | (simp only [okw_wr]; assumption)) only [hw, RC, RO, RM, RT, AV.cells, Option.map_some, AV.one, AV.all1, i64_wrap, u64_wrap, u32_wrap, u8_wrap, Nat.zero_add, Nat.add_zero, Nat.reduceEqDiff, Nat.reduceLeDiff, Nat.reduceAdd, Nat.left_eq_add, Nat.add_eq_left, Nat.add_left_cancel_iff, reduceIte, eq_self, decide_true, decide_false, Bool.not_true, Bool.not_false, reduceCtorEq, List.getElem?_cons_zero, List.getElem?_cons_succ, List.set_cons_zero, List.set_cons_succ]
      refine (c_crc_Sum sw (by rw [bw]; have := f2.n; omega) (by rw [List.length_take]; omega) (fun x hx => hby x (List.mem_of_mem_take hx))).mono ?_
      rintro _ H3 ⟨rfl, f3⟩
      simp (disch := first | omega | assumption | exact id rfl | (simp only [okw_wr]; assumption)) only [h4', RC, RO, RM, RT, AV.cells, Option.map_some, AV.one, AV.all1, i64_wrap, u64_wrap, u32_wrap, u8_wrap, Nat.zero_add, Nat.add_zero, Nat.reduceEqDiff, Nat.reduceLeDiff, Nat.reduceAdd, Nat.left_eq_add, Nat.add_eq_left, Nat.add_left_cancel_iff, reduceIte, eq_self, decide_true, decide_false, Bool.not_true, Bool.not_false, reduceCtorEq, List.getElem?_cons_zero, List.getElem?_cons_succ, List.set_cons_zero, List.set_cons_succ]
      refine ⟨?_, f2.trans f3⟩
      unfold crcRight
      rw [← e4, List.take_of_length_le (l := L.drop (L.length - 4)) (by rw [List.length_drop]; omega)]
      congr 2; apply propext; omega
end Go.Eng
namespace Go.Eng
open Wr
set_option linter.unusedVariables false
set_option linter.unusedSimpArgs false
theorem eq_Data : eqF P0 45 = some (List.replicate 32 .i) := by kernel_rfl
theorem eq_Page : eqF P0 61 = some (List.replicate 64 .i) := by kernel_rfl
theorem rC_drop {r : Rec} {e : TypeId} {ro : Bool} : cN (.cells (rC r) e ro) 5 32 = some (bC r.data) := by
  rw [cN_c (by rw [rC_len]; omega)]
  show some ((bC r.data).take 32) = _
  rw [List.take_of_length_le (by rw [bC_len]; omega)]
theorem c_rec_Right {r : Rec} {H : AH} : Acalls P0 S0 47 [.agg (rC r)] H fun v H' => v = .bool (recRight r) ∧ Fr No H H' := by
  refine Acalls.go m47 rfl ?_
  rw [slots0_1]; unfold b47
  (simp (disch := first | omega | assumption | exact id rfl | (simp only [okw_wr]; assumption)) only [rC_drop, fill_nil, z_data, b_eqB eq_Data, RC, RO, RM, RT, AV.cells, Option.map_some, AV.one, AV.all1, i64_wrap, u64_wrap, u32_wrap, u8_wrap, Nat.zero_add, Nat.add_zero, Nat.reduceEqDiff, Nat.reduceLeDiff, Nat.reduceAdd, Nat.left_eq_add, Nat.add_eq_left, Nat.add_left_cancel_iff, reduceIte, eq_self, decide_true, decide_false, Bool.not_true, Bool.not_false, reduceCtorEq, List.getElem?_cons_zero, List.getElem?_cons_succ, List.set_cons_zero, List.set_cons_succ]; repeat' (first | (refine Gs_split (fun hb => ?_) (fun hb => ?_) <;> (simp only [hb]; (try simp only [decide_eq_true_eq, decide_eq_false_iff_not, Bool.not_eq_true', Bool.not_eq_false', ne_eq, Decidable.not_not, not_true_eq_false] at hb); (try simp (disch := first | omega | assumption | exact id rfl | (simp only [okw_wr]; assumption)) only [rC_drop, fill_nil, z_data, b_eqB eq_Data, RC, RO, RM, RT, AV.cells, Option.map_some, AV.one, AV.all1, i64_wrap, u64_wrap, u32_wrap, u8_wrap, Nat.zero_add, Nat.add_zero, Nat.reduceEqDiff, Nat.reduceLeDiff, Nat.reduceAdd, Nat.left_eq_add, Nat.add_eq_left, Nat.add_left_cancel_iff, reduceIte, eq_self, decide_true, decide_false, Bool.not_true, Bool.not_false, reduceCtorEq, List.getElem?_cons_zero, List.getElem?_cons_succ, List.set_cons_zero, List.set_cons_succ]))) | (refine Is_split (fun hb => ?_) (fun hb => ?_) <;> (simp only [hb]; (try simp only [decide_eq_true_eq, decide_eq_false_iff_not, Bool.not_eq_true', Bool.not_eq_false', ne_eq, Decidable.not_not, not_true_eq_false] at hb); (try simp (disch := first | omega | assumption | exact id rfl | (simp only [okw_wr]; assumption)) only [rC_drop, fill_nil, z_data, b_eqB eq_Data, RC, RO, RM, RT, AV.cells, Option.map_some, AV.one, AV.all1, i64_wrap, u64_wrap, u32_wrap, u8_wrap, Nat.zero_add, Nat.add_zero, Nat.reduceEqDiff, Nat.reduceLeDiff, Nat.reduceAdd, Nat.left_eq_add, Nat.add_eq_left, Nat.add_left_cancel_iff, reduceIte, eq_self, decide_true, decide_false, Bool.not_true, Bool.not_false, reduceCtorEq, List.getElem?_cons_zero, List.getElem?_cons_succ, List.set_cons_zero, List.set_cons_succ]))) | (refine Dg_split (fun hb => ?_) (fun hb => ?_) <;> (simp only [hb]; (try simp only [decide_eq_true_eq, decide_eq_false_iff_not, Bool.not_eq_true', Bool.not_eq_false', ne_eq, Decidable.not_not, not_true_eq_false] at hb); (try simp (disch := first | omega | assumption | exact id rfl | (simp only [okw_wr]; assumption)) only [rC_drop, fill_nil, z_data, b_eqB eq_Data, RC, RO, RM, RT, AV.cells, Option.map_some, AV.one, AV.all1, i64_wrap, u64_wrap, u32_wrap, u8_wrap, Nat.zero_add, Nat.add_zero, Nat.reduceEqDiff, Nat.reduceLeDiff, Nat.reduceAdd, Nat.left_eq_add, Nat.add_eq_left, Nat.add_left_cancel_iff, reduceIte, eq_self, decide_true, decide_false, Bool.not_true, Bool.not_false, reduceCtorEq, List.getElem?_cons_zero, List.getElem?_cons_succ, List.set_cons_zero, List.set_cons_succ])))))
  all_goals refine ⟨?_, by (refine ⟨by (try simp only []); omega, fun b hb hm => ?_⟩; simp (disch := first | omega | assumption) only [upd_ne])⟩
  all_goals (simp [recRight, *]; try (simp only [MaxNum]; first | omega | (intros; omega) | (intros; simp [*]; done)))
theorem c_rec_number {p : Page} {b : Nat} {o n : Int} {e : TypeId} {ro : Bool} {H : AH} (hg : H.g b = .cells (bC p) e ro) (hb : b < H.n) (h : 1 ≤ n ∧ n ≤ 8 ∧ 0 ≤ o ∧ o + n ≤ 64) :
    Acalls P0 S0 46 [.ptr (some (b, 0)), I o, I n] H fun v H' => v = I (number p.l o.toNat n.toNat) ∧ Fr No H H' := by
  refine Acalls.go m46 rfl ?_
  rw [slots0_3]; unfold b46
  obtain ⟨w, hw, hwe⟩ : ∃ w, aslcA 64 1 (.ptr (some (b, 0))) none none none = some w ∧ w = .slc (some (b, 0)) 64 64 0 := ⟨_, aslcA_all, rfl⟩
  have sw : Sl H.g 1 b8C w p.l := by subst hwe; exact Sl.ofCells b8C_len (by rw [hg, bC_flat]) (by rw [p.len]) (by omega) (.inl rfl)
  have bw : sb w = b := by subst hwe; rfl
  simp (disch := first | omega | assumption | exact id rfl | (simp only [okw_wr]; assumption)) only [hw, RC, RO, RM, RT, AV.cells, Option.map_some, AV.one, AV.all1, i64_wrap, u64_wrap, u32_wrap, u8_wrap, Nat.zero_add, Nat.add_zero, Nat.reduceEqDiff, Nat.reduceLeDiff, Nat.reduceAdd, Nat.left_eq_add, Nat.add_eq_left, Nat.add_left_cancel_iff, reduceIte, eq_self, decide_true, decide_false, Bool.not_true, Bool.not_false, reduceCtorEq, List.getElem?_cons_zero, List.getElem?_cons_succ, List.set_cons_zero, List.set_cons_succ]
  refine (c_word_Get sw (by omega) (by rw [p.len]; omega) (by rw [p.len]; omega) p.lt).mono ?_
  rintro _ H1 ⟨rfl, f1⟩
  (simp (disch := first | omega | assumption | exact id rfl | (simp only [okw_wr]; assumption)) only [RC, RO, RM, RT, AV.cells, Option.map_some, AV.one, AV.all1, i64_wrap, u64_wrap, u32_wrap, u8_wrap, Nat.zero_add, Nat.add_zero, Nat.reduceEqDiff, Nat.reduceLeDiff, Nat.reduceAdd, Nat.left_eq_add, Nat.add_eq_left, Nat.add_left_cancel_iff, reduceIte, eq_self, decide_true, decide_false, Bool.not_true, Bool.not_false, reduceCtorEq, List.getElem?_cons_zero, List.getElem?_cons_succ, List.set_cons_zero, List.set_cons_succ]; repeat' (first | (refine Gs_split (fun hb => ?_) (fun hb => ?_) <;> (simp only [hb]; (try simp only [decide_eq_true_eq, decide_eq_false_iff_not, Bool.not_eq_true', Bool.not_eq_false', ne_eq, Decidable.not_not, not_true_eq_false] at hb); (try simp (disch := first | omega | assumption | exact id rfl | (simp only [okw_wr]; assumption)) only [RC, RO, RM, RT, AV.cells, Option.map_some, AV.one, AV.all1, i64_wrap, u64_wrap, u32_wrap, u8_wrap, Nat.zero_add, Nat.add_zero, Nat.reduceEqDiff, Nat.reduceLeDiff, Nat.reduceAdd, Nat.left_eq_add, Nat.add_eq_left, Nat.add_left_cancel_iff, reduceIte, eq_self, decide_true, decide_false, Bool.not_true, Bool.not_false, reduceCtorEq, List.getElem?_cons_zero, List.getElem?_cons_succ, List.set_cons_zero, List.set_cons_succ]))) | (refine Is_split (fun hb => ?_) (fun hb => ?_) <;> (simp only [hb]; (try simp only [decide_eq_true_eq, decide_eq_false_iff_not, Bool.not_eq_true', Bool.not_eq_false', ne_eq, Decidable.not_not, not_true_eq_false] at hb); (try simp (disch := first | omega | assumption | exact id rfl | (simp only [okw_wr]; assumption)) only [RC, RO, RM, RT, AV.cells, Option.map_some, AV.one, AV.all1, i64_wrap, u64_wrap, u32_wrap, u8_wrap, Nat.zero_add, Nat.add_zero, Nat.reduceEqDiff, Nat.reduceLeDiff, Nat.reduceAdd, Nat.left_eq_add, Nat.add_eq_left, Nat.add_left_cancel_iff, reduceIte, eq_self, decide_true, decide_false, Bool.not_true, Bool.not_false, reduceCtorEq, List.getElem?_cons_zero, List.getElem?_cons_succ, List.set_cons_zero, List.set_cons_succ]))) | (refine Dg_split (fun hb => ?_) (fun hb => ?_) <;> (simp only [hb]; (try simp only [decide_eq_true_eq, decide_eq_false_iff_not, Bool.not_eq_true', Bool.not_eq_false', ne_eq, Decidable.not_not, not_true_eq_false] at hb); (try simp (disch := first | omega | assumption | exact id rfl | (simp only [okw_wr]; assumption)) only [RC, RO, RM, RT, AV.cells, Option.map_some, AV.one, AV.all1, i64_wrap, u64_wrap, u32_wrap, u8_wrap, Nat.zero_add, Nat.add_zero, Nat.reduceEqDiff, Nat.reduceLeDiff, Nat.reduceAdd, Nat.left_eq_add, Nat.add_eq_left, Nat.add_left_cancel_iff, reduceIte, eq_self, decide_true, decide_false, Bool.not_true, Bool.not_false, reduceCtorEq, List.getElem?_cons_zero, List.getElem?_cons_succ, List.set_cons_zero, List.set_cons_succ])))))
  · refine ⟨?_, f1⟩
    unfold number MaxNum; rw [if_pos (by omega)]
  · refine ⟨?_, f1⟩
    unfold number MaxNum; rw [if_neg (by omega)]
theorem number_flat {l : List Nat} {o n : Nat} : (I (number l o n)).flatT = true := _root_.id rfl
theorem u64_wrap_u {x : Int} : IntKind.u64.wrap x = ((u64 x : Nat) : Int) := by rw [u64_wrap_mod]; unfold u64; omega
theorem u8_wrap_u {x : Int} : IntKind.u8.wrap x = ((u8 x : Nat) : Int) := by rw [u8_wrap_mod]; unfold u8; omega
theorem u64_lt {x : Int} : u64 x < 18446744073709551616 := by unfold u64; omega
theorem u64_nat {x : Nat} (h : x < 18446744073709551616) : u64 (x : Int) = x := by unfold u64; omega
theorem lays_app {A X : List Nat} {m o : Nat} (ho : o = A.length) (h : X.length ≤ m) : lays (A ++ List.replicate m 0) o X = A ++ X ++ List.replicate (m - X.length) 0 := by
  subst ho
  unfold lays
  rw [List.take_left', List.drop_append, List.drop_of_length_le (by omega)]
  · simp only [List.nil_append, List.drop_replicate]; congr 2; omega
  · rfl
theorem c_rec_Lay {r : Rec} {H : AH} : Acalls P0 S0 48 [.agg (rC r)] H fun v H' => v = .agg (bC (recLay r)) ∧ Fr No H H' := by
  refine Acalls.go m48 rfl ?_
  rw [slots0_1]; unfold b48
  simp (disch := first | omega | assumption | exact id rfl | (simp only [okw_wr]; assumption)) only [RC, RO, RM, RT, AV.cells, Option.map_some, AV.one, AV.all1, i64_wrap, u64_wrap, u32_wrap, u8_wrap, Nat.zero_add, Nat.add_zero, Nat.reduceEqDiff, Nat.reduceLeDiff, Nat.reduceAdd, Nat.left_eq_add, Nat.add_eq_left, Nat.add_left_cancel_iff, reduceIte, eq_self, decide_true, decide_false, Bool.not_true, Bool.not_false, reduceCtorEq, List.getElem?_cons_zero, List.getElem?_cons_succ, List.set_cons_zero, List.set_cons_succ]
  refine Ps_cut fun H3 e3 => ?_
  have g0 : H3.g H.n = .cells (rC r) 47 false := by rw [e3]; simp (disch := omega) only [upd_same, upd_ne]
  have g1 : H3.g (H.n + 1) = .cells (List.replicate 64 (.int .u8 0)) 61 false := by rw [e3]; simp (disch := omega) only [upd_same, upd_ne]
  have n3 : H3.n = H.n + 1 + 1 + 1 := by rw [e3]
  have fr3 : Fr No H H3 := by rw [e3]; (refine ⟨by (try simp only []); omega, fun b hb hm => ?_⟩; simp (disch := first | omega | assumption) only [upd_ne])
  obtain ⟨w, hw, hwe⟩ : ∃ w, aslcA 64 1 (.ptr (some (H.n + 1 + 1, 0))) none none none = some w ∧ w = .slc (some (H.n + 1 + 1, 0)) 64 64 0 := ⟨_, aslcA_all, rfl⟩
  have sbw : sb w = H.n + 1 + 1 := by subst hwe; rfl
  have o3 : Own H3 (H.n + 1 + 1) 1 61 b8C w (List.replicate 64 0) := by
    rw [e3, hwe]
    have := Own.mks (g := (upd (upd (upd H.g H.n (.cells (rC r) 47 false)) (H.n + 1) (.cells (List.replicate 64 (.int .u8 0)) 61 false)) (H.n + 1 + 1) (.cells (List.replicate 64 (.int .u8 0)) 61 false))) (m := H.n + 1 + 1 + 1) (lo := H.n + 1 + 1) (n := H.n + 1 + 1) (e := 61) (L := List.replicate 64 (0 : Nat)) (c := 64) b8C_len b8C_one (Nat.le_refl _) (Nat.lt_succ_self _) (by simp) (by simp) (by simp [b8C]) (upd_same _ _ _)
    simpa using this
  clear e3
  have s25 : aslcS 1 w (some (I 25)) none none = some (.slc (some (sb w, 25)) 39 39 0) := by subst hwe; rfl
  have ok3 := o3.okw0 (i := 0) (by simp) (by omega)
  have ix3 := o3.sl.ix (kd := .i64) (i := 0) (by simp)
  simp (disch := first | omega | assumption | exact id rfl | (simp only [okw_wr]; assumption)) only [hw, g0, ix3, u8_wrap_u, u64_wrap_u, RC, RO, RM, RT, AV.cells, Option.map_some, AV.one, AV.all1, i64_wrap, u64_wrap, u32_wrap, u8_wrap, Nat.zero_add, Nat.add_zero, Nat.reduceEqDiff, Nat.reduceLeDiff, Nat.reduceAdd, Nat.left_eq_add, Nat.add_eq_left, Nat.add_left_cancel_iff, reduceIte, eq_self, decide_true, decide_false, Bool.not_true, Bool.not_false, reduceCtorEq, List.getElem?_cons_zero, List.getElem?_cons_succ, List.set_cons_zero, List.set_cons_succ]
  refine Acalls_cut fun H4 e4 => ?_
  have o4 : Own H4 (H.n + 1 + 1) 1 61 b8C w ([u8 r.kind] ++ List.replicate 63 0) := by
    rw [e4]; exact o3.wr0 (i := 0) (by simp) (by omega) 0 (x := B8 (u8 r.kind)) (u8 r.kind) rfl
  have k4 : ∀ b, b < H.n + 1 + 1 → H4.g b = H3.g b := fun b hb => by rw [e4]; simp (disch := omega) only [upd_ne]
  have n4 : H4.n = H.n + 1 + 1 + 1 := by rw [e4]; exact n3
  clear e4
  refine (c_word_Put o4 (by simp) (by simp) u64_lt).mono ?_
  rintro _ H5 ⟨rfl, o5, f5⟩
  have q5 := f5.n
  rw [show (1 : Int).toNat = 1 from rfl, show (8 : Int).toNat = 8 from rfl, lays_app (by simp) (by rw [le_length]; omega)] at o5
  simp (disch := first | omega | assumption | exact id rfl | (simp only [okw_wr]; assumption)) only [k4, g0, f5.one, u64_wrap_u, RC, RO, RM, RT, AV.cells, Option.map_some, AV.one, AV.all1, i64_wrap, u64_wrap, u32_wrap, u8_wrap, Nat.zero_add, Nat.add_zero, Nat.reduceEqDiff, Nat.reduceLeDiff, Nat.reduceAdd, Nat.left_eq_add, Nat.add_eq_left, Nat.add_left_cancel_iff, reduceIte, eq_self, decide_true, decide_false, Bool.not_true, Bool.not_false, reduceCtorEq, List.getElem?_cons_zero, List.getElem?_cons_succ, List.set_cons_zero, List.set_cons_succ]
  refine (c_word_Put o5 (by simp [le_length]) (by simp [le_length]) u64_lt).mono ?_
  rintro _ H6 ⟨rfl, o6, f6⟩
  have q6 := f6.n
  rw [show (9 : Int).toNat = 9 from rfl, show (8 : Int).toNat = 8 from rfl, lays_app (by simp [le_length]) (by simp [le_length])] at o6
  simp (disch := first | omega | assumption | exact id rfl | (simp only [okw_wr]; assumption)) only [k4, g0, f5.one, f6.one, u64_wrap_u, RC, RO, RM, RT, AV.cells, Option.map_some, AV.one, AV.all1, i64_wrap, u64_wrap, u32_wrap, u8_wrap, Nat.zero_add, Nat.add_zero, Nat.reduceEqDiff, Nat.reduceLeDiff, Nat.reduceAdd, Nat.left_eq_add, Nat.add_eq_left, Nat.add_left_cancel_iff, reduceIte, eq_self, decide_true, decide_false, Bool.not_true, Bool.not_false, reduceCtorEq, List.getElem?_cons_zero, List.getElem?_cons_succ, List.set_cons_zero, List.set_cons_succ]
  refine (c_word_Put o6 (by simp [le_length]) (by simp [le_length]) u64_lt).mono ?_
  rintro _ H7 ⟨rfl, o7, f7⟩
  have q7 := f7.n
  rw [show (17 : Int).toNat = 17 from rfl, show (4 : Int).toNat = 4 from rfl, lays_app (by simp [le_length]) (by simp [le_length])] at o7
  simp (disch := first | omega | assumption | exact id rfl | (simp only [okw_wr]; assumption)) only [k4, g0, f5.one, f6.one, f7.one, u64_wrap_u, RC, RO, RM, RT, AV.cells, Option.map_some, AV.one, AV.all1, i64_wrap, u64_wrap, u32_wrap, u8_wrap, Nat.zero_add, Nat.add_zero, Nat.reduceEqDiff, Nat.reduceLeDiff, Nat.reduceAdd, Nat.left_eq_add, Nat.add_eq_left, Nat.add_left_cancel_iff, reduceIte, eq_self, decide_true, decide_false, Bool.not_true, Bool.not_false, reduceCtorEq, List.getElem?_cons_zero, List.getElem?_cons_succ, List.set_cons_zero, List.set_cons_succ]
  refine (c_word_Put o7 (by simp [le_length]) (by simp [le_length]) u64_lt).mono ?_
  rintro _ H8 ⟨rfl, o8, f8⟩
  have q8 := f8.n
  rw [show (21 : Int).toNat = 21 from rfl, show (4 : Int).toNat = 4 from rfl, lays_app (by simp [le_length]) (by simp [le_length])] at o8
  simp only [le_length] at o8
  have g8 : H8.g H.n = .cells (rC r) 47 false := by simp (disch := omega) only [k4, g0, f5.one, f6.one, f7.one, f8.one]
  have g81 : H8.g (H.n + 1) = .cells (List.replicate 64 (.int .u8 0)) 61 false := by simp (disch := omega) only [k4, g1, f5.one, f6.one, f7.one, f8.one]
  have sx : Sl H8.g 1 b8C (.slc (some (H.n, 5)) 32 32 0) r.data.l := by
    refine ⟨b8C_len, .inr ⟨32, 0, rC r, 47, false, by rw [r.data.len]; rfl, g8, by rw [rC_len, r.data.len]; show 5 + 32 * 1 ≤ 37; omega, ?_, by rw [r.data.len]; omega, .inl rfl⟩⟩
    rw [← bC_flat, r.data.len]
    show (bC r.data).take 32 = _
    rw [List.take_of_length_le (by rw [bC_len]; omega)]
  obtain ⟨hcp, o9⟩ := o8.cpy (o := 25) (n := 39) (c := 39) (s := 0) sx (by rw [r.data.len]; omega) (by simp [le_length]) (by omega)
  simp (disch := first | omega | assumption | exact id rfl | (simp only [okw_wr]; assumption)) only [k4, g0, f5.one, f6.one, f7.one, f8.one, s25, aslcA_o, hcp, RC, RO, RM, RT, AV.cells, Option.map_some, AV.one, AV.all1, i64_wrap, u64_wrap, u32_wrap, u8_wrap, Nat.zero_add, Nat.add_zero, Nat.reduceEqDiff, Nat.reduceLeDiff, Nat.reduceAdd, Nat.left_eq_add, Nat.add_eq_left, Nat.add_left_cancel_iff, reduceIte, eq_self, decide_true, decide_false, Bool.not_true, Bool.not_false, reduceCtorEq, List.getElem?_cons_zero, List.getElem?_cons_succ, List.set_cons_zero, List.set_cons_succ]
  refine Ps_cut fun H9 e9 => ?_
  have o9' : Own H9 (H.n + 1 + 1) 1 61 b8C w (recBytes r ++ List.replicate 4 0) := by
    rw [e9]
    have e : List.take 25 ([u8 r.kind] ++ le 8 (u64 r.epoch) ++ le 8 (u64 r.seq) ++ le 4 (u64 r.block) ++ le 4 (u64 r.count) ++ List.replicate (63 - 8 - 8 - 4 - 4) 0) ++ r.data.l ++ List.drop (25 + r.data.l.length) ([u8 r.kind] ++ le 8 (u64 r.epoch) ++ le 8 (u64 r.seq) ++ le 4 (u64 r.block) ++ le 4 (u64 r.count) ++ List.replicate (63 - 8 - 8 - 4 - 4) 0) = recBytes r ++ List.replicate 4 0 := by
      rw [List.take_left' (by simp [le_length]), List.drop_append, List.drop_of_length_le (by simp [le_length])]
      simp [recBytes, le_length, r.data.len, List.drop_replicate]
    rw [← e]; exact o9
  have k9 : ∀ b, b < H.n + 1 + 1 → H9.g b = H8.g b := fun b hb => by rw [e9]; simp (disch := omega) only [upd_ne]
  have n9 : H9.n = H8.n := by rw [e9]
  clear e9 o9 hcp
  obtain ⟨w60, hw60, s60, b60, _⟩ := o9'.sl.upto (m := 60) (kd := .i64) (by simp [recBytes_length])
  have e60 : (recBytes r ++ List.replicate 4 0).take (60 : Int).toNat = recBytes r := List.take_left' (recBytes_length r)
  rw [e60] at s60
  have lw := o9'.lt (by simp)
  simp (disch := first | omega | assumption | exact id rfl | (simp only [okw_wr]; assumption)) only [hw60, RC, RO, RM, RT, AV.cells, Option.map_some, AV.one, AV.all1, i64_wrap, u64_wrap, u32_wrap, u8_wrap, Nat.zero_add, Nat.add_zero, Nat.reduceEqDiff, Nat.reduceLeDiff, Nat.reduceAdd, Nat.left_eq_add, Nat.add_eq_left, Nat.add_left_cancel_iff, reduceIte, eq_self, decide_true, decide_false, Bool.not_true, Bool.not_false, reduceCtorEq, List.getElem?_cons_zero, List.getElem?_cons_succ, List.set_cons_zero, List.set_cons_succ]
  refine (c_crc_Sum s60 (by omega) (by rw [recBytes_length]; omega) (recBytes_lt r)).mono ?_
  rintro _ H10 ⟨rfl, f10⟩
  have q10 := f10.n
  have hm := more_lt (recBytes_lt r) (show 0 < 4294967296 by omega)
  simp (disch := first | omega | assumption | exact id rfl | (simp only [okw_wr]; assumption)) only [RC, RO, RM, RT, AV.cells, Option.map_some, AV.one, AV.all1, i64_wrap, u64_wrap, u32_wrap, u8_wrap, Nat.zero_add, Nat.add_zero, Nat.reduceEqDiff, Nat.reduceLeDiff, Nat.reduceAdd, Nat.left_eq_add, Nat.add_eq_left, Nat.add_left_cancel_iff, reduceIte, eq_self, decide_true, decide_false, Bool.not_true, Bool.not_false, reduceCtorEq, List.getElem?_cons_zero, List.getElem?_cons_succ, List.set_cons_zero, List.set_cons_succ]
  refine (c_word_Put (o9'.fr f10.n fun b _ hb => f10.at hb) (by simp [recBytes_length]) (by simp [recBytes_length]) (by omega)).mono ?_
  rintro _ H11 ⟨rfl, o11, f11⟩
  have q11 := f11.n
  rw [show (60 : Int).toNat = 60 from rfl, show (4 : Int).toNat = 4 from rfl, lays_app (by simp [recBytes_length]) (by simp [le_length])] at o11
  have g11 : H11.g (H.n + 1) = .cells (List.replicate 64 (.int .u8 0)) 61 false := by simp (disch := omega) only [f11.one, f10.at, k9, g81]
  have gw : cN (H11.g (H.n + 1 + 1)) 0 64 = some (bC (recLay r)) := by
    rcases o11.cells with ⟨h, _⟩ | ⟨c, sl, cs, h1, h2, h3, h4, h5, h6, h7, h8⟩
    · exact absurd (congrArg List.length h) (by simp [recBytes_length, le_length])
    · rw [hwe] at h1
      rw [sbw] at h4
      have hc : c = 64 := by injection h1; omega
      subst hc
      simp only [List.length_append, recBytes_length, le_length, List.length_replicate] at h7
      rw [h4, cN_all (by omega), bC_flat]
      rw [List.take_of_length_le (by omega)] at h7
      rw [h7]; simp [recLay, sealed, summed, le_length]
  have hl : (List.replicate 64 (AV.int .u8 0)).length = (bC (recLay r)).length := by rw [bC_len, List.length_replicate]
  have hl2 := bC_len (recLay r)
  have hl3 := bC_one (recLay r)
  simp (disch := first | omega | assumption | exact id rfl | (simp only [okw_wr]; assumption)) only [gw, g11, RC, RO, RM, RT, AV.cells, Option.map_some, AV.one, AV.all1, i64_wrap, u64_wrap, u32_wrap, u8_wrap, Nat.zero_add, Nat.add_zero, Nat.reduceEqDiff, Nat.reduceLeDiff, Nat.reduceAdd, Nat.left_eq_add, Nat.add_eq_left, Nat.add_left_cancel_iff, reduceIte, eq_self, decide_true, decide_false, Bool.not_true, Bool.not_false, reduceCtorEq, List.getElem?_cons_zero, List.getElem?_cons_succ, List.set_cons_zero, List.set_cons_succ]
  refine ⟨trivial, ?_⟩
  (refine ⟨by (try simp only []); omega, fun b hb hm => ?_⟩; simp (disch := first | omega | assumption) only [f11.one, f10.at, k9, f8.one, f7.one, f6.one, f5.one, k4, fr3.at, upd_ne])
end Go.Eng
namespace Go.Eng
open Wr
set_option linter.unusedVariables false
set_option linter.unusedSimpArgs false
theorem fill_rec {a b c d e : Int} : fillA (rC rec0) [(0, 1, I a), (1, 1, I b), (2, 1, I c), (3, 1, I d), (4, 1, I e)] = some (rC ⟨a, b, c, d, e, Bytes.zero 32⟩) := by
  simp only [rec0, rC, fillA, AV.cells, List.length_cons, List.length_nil]
  simp
theorem slcA_25 {b : Nat} : aslcA 64 1 (.ptr (some (b, 0))) (some (I 25)) none none = some (.slc (some (b, 25)) 39 39 0) := by
  simp [aslcA, abound]
theorem cpy_data {g : Nat → AB} {b b' : Nat} {r : Rec} {p : Page} {e e' : TypeId} {ro : Bool} (h1 : g b = .cells (rC r) e false) (h2 : g b' = .cells (bC p) e' ro) :
    acpy g 1 (.slc (some (b, 5)) 32 32 0) (.slc (some (b', 25)) 39 39 0) = some (.val (I 32) { ws := [(b, .cells (rC { r with data := sub32 p }) e false)] }) := by
  have hl : (bC p).length = 64 := bC_len p
  have hone : (((bC p).drop 25).take (32 * 1)).all AV.one = true := by
    simp only [List.all_eq_true]
    intro a ha
    exact List.all_eq_true.mp (bC_one p) a (List.mem_of_mem_drop (List.mem_of_mem_take ha))
  have hc : firstCellsA g 1 32 (.slc (some (b', 25)) 39 39 0) = some (((bC p).drop 25).take (32 * 1)) := by
    simp only [firstCellsA, cellsAt, h2]; rw [if_pos (by omega)]
  simp only [acpy, lenOfA]
  rw [show Nat.min 39 32 = 32 from rfl, hc]
  simp only [hone, Bool.true_eq_false, if_false, setCells, h1]
  have hl2 : (((bC p).drop 25).take (32 * 1)).length = 32 := by rw [List.length_take, List.length_drop, hl]; decide
  rw [hl2, rC_len, if_pos (by omega)]
  simp only [Option.map_some]
  have : (rC r).take 5 ++ ((bC p).drop 25).take (32 * 1) ++ (rC r).drop (5 + 32) = rC { r with data := sub32 p } := by
    have e1 : (rC r).take 5 = [I r.kind, I r.epoch, I r.seq, I r.block, I r.count] := rfl
    have e2 : (rC r).drop (5 + 32) = [] := List.drop_of_length_le (by rw [rC_len]; omega)
    rw [e1, e2, List.append_nil]
    simp only [rC, bC, sub32, List.map_take, List.map_drop]; rfl
  rw [this]; rfl
theorem ixp0 {b : Nat} : aixP 64 1 (.ptr (some (b, 0))) (.int .i64 0) = some (.ptr (some (b, 0))) := _root_.id rfl
theorem byte0 {p : Page} : (bC p)[0]? = some (B8 (p.l.getD 0 0)) := bC_at p (by omega)
theorem c_rec_Read {p : Page} {H : AH} : Acalls P0 S0 23 [.agg (bC p)] H fun v H' => v = .tup [.agg (rC (recRead p).1), I (recRead p).2] ∧ Fr No H H' := by
  refine Acalls.go m23 rfl ?_
  rw [slots0_1]; unfold b23
  simp (disch := first | omega | assumption | exact id rfl | (simp only [okw_wr]; assumption)) only [aslcA_all, z_rec, RC, RO, RM, RT, AV.cells, Option.map_some, AV.one, AV.all1, i64_wrap, u64_wrap, u32_wrap, u8_wrap, Nat.zero_add, Nat.add_zero, Nat.reduceEqDiff, Nat.reduceLeDiff, Nat.reduceAdd, Nat.left_eq_add, Nat.add_eq_left, Nat.add_left_cancel_iff, reduceIte, eq_self, decide_true, decide_false, Bool.not_true, Bool.not_false, reduceCtorEq, List.getElem?_cons_zero, List.getElem?_cons_succ, List.set_cons_zero, List.set_cons_succ]
  refine (c_crc_Right (L := p.l) (Sl.ofCells b8C_len (by simp (disch := omega) only [upd_same, upd_ne, bC_flat]; rfl) p.len.symm (by omega) (.inl rfl)) (by show H.n < H.n + 1 + 1; omega) (by rw [p.len]; omega) p.lt (by rw [p.len]; omega)).mono ?_
  rintro _ H1 ⟨rfl, f1⟩
  have q1 := f1.le
  have r0 := rC_len rec0
  have tp := bC_len p
  have r1 := rC_one rec0
  (simp (disch := first | omega | assumption | exact id rfl | (simp only [okw_wr]; assumption)) only [f1.old, fill_nil, z_rec, RC, RO, RM, RT, AV.cells, Option.map_some, AV.one, AV.all1, i64_wrap, u64_wrap, u32_wrap, u8_wrap, Nat.zero_add, Nat.add_zero, Nat.reduceEqDiff, Nat.reduceLeDiff, Nat.reduceAdd, Nat.left_eq_add, Nat.add_eq_left, Nat.add_left_cancel_iff, reduceIte, eq_self, decide_true, decide_false, Bool.not_true, Bool.not_false, reduceCtorEq, List.getElem?_cons_zero, List.getElem?_cons_succ, List.set_cons_zero, List.set_cons_succ]; repeat' (first | (refine Gs_split (fun hb => ?_) (fun hb => ?_) <;> (simp only [hb]; (try simp only [decide_eq_true_eq, decide_eq_false_iff_not, Bool.not_eq_true', Bool.not_eq_false', ne_eq, Decidable.not_not, not_true_eq_false] at hb); (try simp (disch := first | omega | assumption | exact id rfl | (simp only [okw_wr]; assumption)) only [f1.old, fill_nil, z_rec, RC, RO, RM, RT, AV.cells, Option.map_some, AV.one, AV.all1, i64_wrap, u64_wrap, u32_wrap, u8_wrap, Nat.zero_add, Nat.add_zero, Nat.reduceEqDiff, Nat.reduceLeDiff, Nat.reduceAdd, Nat.left_eq_add, Nat.add_eq_left, Nat.add_left_cancel_iff, reduceIte, eq_self, decide_true, decide_false, Bool.not_true, Bool.not_false, reduceCtorEq, List.getElem?_cons_zero, List.getElem?_cons_succ, List.set_cons_zero, List.set_cons_succ]))) | (refine Is_split (fun hb => ?_) (fun hb => ?_) <;> (simp only [hb]; (try simp only [decide_eq_true_eq, decide_eq_false_iff_not, Bool.not_eq_true', Bool.not_eq_false', ne_eq, Decidable.not_not, not_true_eq_false] at hb); (try simp (disch := first | omega | assumption | exact id rfl | (simp only [okw_wr]; assumption)) only [f1.old, fill_nil, z_rec, RC, RO, RM, RT, AV.cells, Option.map_some, AV.one, AV.all1, i64_wrap, u64_wrap, u32_wrap, u8_wrap, Nat.zero_add, Nat.add_zero, Nat.reduceEqDiff, Nat.reduceLeDiff, Nat.reduceAdd, Nat.left_eq_add, Nat.add_eq_left, Nat.add_left_cancel_iff, reduceIte, eq_self, decide_true, decide_false, Bool.not_true, Bool.not_false, reduceCtorEq, List.getElem?_cons_zero, List.getElem?_cons_succ, List.set_cons_zero, List.set_cons_succ]))) | (refine Dg_split (fun hb => ?_) (fun hb => ?_) <;> (simp only [hb]; (try simp only [decide_eq_true_eq, decide_eq_false_iff_not, Bool.not_eq_true', Bool.not_eq_false', ne_eq, Decidable.not_not, not_true_eq_false] at hb); (try simp (disch := first | omega | assumption | exact id rfl | (simp only [okw_wr]; assumption)) only [f1.old, fill_nil, z_rec, RC, RO, RM, RT, AV.cells, Option.map_some, AV.one, AV.all1, i64_wrap, u64_wrap, u32_wrap, u8_wrap, Nat.zero_add, Nat.add_zero, Nat.reduceEqDiff, Nat.reduceLeDiff, Nat.reduceAdd, Nat.left_eq_add, Nat.add_eq_left, Nat.add_left_cancel_iff, reduceIte, eq_self, decide_true, decide_false, Bool.not_true, Bool.not_false, reduceCtorEq, List.getElem?_cons_zero, List.getElem?_cons_succ, List.set_cons_zero, List.set_cons_succ])))))
  · refine ⟨?_, by (refine ⟨by (try simp only []); omega, fun b hb hm => ?_⟩; simp (disch := first | omega | assumption) only [f1.old, upd_ne])⟩
    unfold recRead; rw [if_pos (by simpa using hb)]; rfl
  · have hcr : crcRight p.l = true := by simpa using hb
    have hlt := getD_lt p.lt 0
    simp (disch := first | omega | assumption | exact id rfl | (simp only [okw_wr]; assumption)) only [f1.old, ixp0, byte0, Int.reduceToNat, RC, RO, RM, RT, AV.cells, Option.map_some, AV.one, AV.all1, i64_wrap, u64_wrap, u32_wrap, u8_wrap, Nat.zero_add, Nat.add_zero, Nat.reduceEqDiff, Nat.reduceLeDiff, Nat.reduceAdd, Nat.left_eq_add, Nat.add_eq_left, Nat.add_left_cancel_iff, reduceIte, eq_self, decide_true, decide_false, Bool.not_true, Bool.not_false, reduceCtorEq, List.getElem?_cons_zero, List.getElem?_cons_succ, List.set_cons_zero, List.set_cons_succ]
    have num := fun (o n : Int) (h : 1 ≤ n ∧ n ≤ 8 ∧ 0 ≤ o ∧ o + n ≤ 64) => c_rec_number (p := p) (b := H.n) (o := o) (n := n) (e := 61) (ro := true) (H := ⟨roAll (upd H1.g H1.n .dead), H1.n + 1⟩) (by simp (disch := omega) only [roAll_at, upd_ne, f1.old, upd_same]; rfl) (by show H.n < H1.n + 1; omega) h
    refine (num 1 8 (by omega)).mono ?_
    rintro _ Ha ⟨rfl, -⟩
    refine ⟨rfl, ?_⟩
    simp (disch := first | omega | assumption | exact id rfl | (simp only [okw_wr]; assumption)) only [f1.old, ixp0, byte0, Int.reduceToNat, RC, RO, RM, RT, AV.cells, Option.map_some, AV.one, AV.all1, i64_wrap, u64_wrap, u32_wrap, u8_wrap, Nat.zero_add, Nat.add_zero, Nat.reduceEqDiff, Nat.reduceLeDiff, Nat.reduceAdd, Nat.left_eq_add, Nat.add_eq_left, Nat.add_left_cancel_iff, reduceIte, eq_self, decide_true, decide_false, Bool.not_true, Bool.not_false, reduceCtorEq, List.getElem?_cons_zero, List.getElem?_cons_succ, List.set_cons_zero, List.set_cons_succ]
    refine (num 9 8 (by omega)).mono ?_
    rintro _ Hb ⟨rfl, -⟩
    refine ⟨rfl, ?_⟩
    simp (disch := first | omega | assumption | exact id rfl | (simp only [okw_wr]; assumption)) only [f1.old, ixp0, byte0, Int.reduceToNat, RC, RO, RM, RT, AV.cells, Option.map_some, AV.one, AV.all1, i64_wrap, u64_wrap, u32_wrap, u8_wrap, Nat.zero_add, Nat.add_zero, Nat.reduceEqDiff, Nat.reduceLeDiff, Nat.reduceAdd, Nat.left_eq_add, Nat.add_eq_left, Nat.add_left_cancel_iff, reduceIte, eq_self, decide_true, decide_false, Bool.not_true, Bool.not_false, reduceCtorEq, List.getElem?_cons_zero, List.getElem?_cons_succ, List.set_cons_zero, List.set_cons_succ]
    refine (num 17 4 (by omega)).mono ?_
    rintro _ Hc ⟨rfl, -⟩
    refine ⟨rfl, ?_⟩
    simp (disch := first | omega | assumption | exact id rfl | (simp only [okw_wr]; assumption)) only [f1.old, ixp0, byte0, Int.reduceToNat, RC, RO, RM, RT, AV.cells, Option.map_some, AV.one, AV.all1, i64_wrap, u64_wrap, u32_wrap, u8_wrap, Nat.zero_add, Nat.add_zero, Nat.reduceEqDiff, Nat.reduceLeDiff, Nat.reduceAdd, Nat.left_eq_add, Nat.add_eq_left, Nat.add_left_cancel_iff, reduceIte, eq_self, decide_true, decide_false, Bool.not_true, Bool.not_false, reduceCtorEq, List.getElem?_cons_zero, List.getElem?_cons_succ, List.set_cons_zero, List.set_cons_succ]
    refine (num 21 4 (by omega)).mono ?_
    rintro _ Hd ⟨rfl, -⟩
    refine ⟨rfl, ?_⟩
    have t0 := rC_len ⟨p.l.getD 0 0, number p.l 1 8, number p.l 9 8, number p.l 17 4, number p.l 21 4, Bytes.zero 32⟩
    have t1 := rC_one ⟨p.l.getD 0 0, number p.l 1 8, number p.l 9 8, number p.l 17 4, number p.l 21 4, Bytes.zero 32⟩
    have t2 : (rC rec0).length = (rC ⟨p.l.getD 0 0, number p.l 1 8, number p.l 9 8, number p.l 17 4, number p.l 21 4, Bytes.zero 32⟩).length := by rw [rC_len, rC_len]
    simp (disch := first | omega | assumption | exact id rfl | (simp only [okw_wr]; assumption)) only [f1.old, fill_rec, z_rec, aslcA_o, slcA_25, Int.reduceToNat, RC, RO, RM, RT, AV.cells, Option.map_some, AV.one, AV.all1, i64_wrap, u64_wrap, u32_wrap, u8_wrap, Nat.zero_add, Nat.add_zero, Nat.reduceEqDiff, Nat.reduceLeDiff, Nat.reduceAdd, Nat.left_eq_add, Nat.add_eq_left, Nat.add_left_cancel_iff, reduceIte, eq_self, decide_true, decide_false, Bool.not_true, Bool.not_false, reduceCtorEq, List.getElem?_cons_zero, List.getElem?_cons_succ, List.set_cons_zero, List.set_cons_succ]
    rw [cpy_data (p := p) (e' := 61) (ro := false) (upd_same _ _ _) (by simp (disch := omega) only [upd_ne, f1.old, upd_same])]
    simp (disch := first | omega | assumption | exact id rfl | (simp only [okw_wr]; assumption)) only [f1.old, RC, RO, RM, RT, AV.cells, Option.map_some, AV.one, AV.all1, i64_wrap, u64_wrap, u32_wrap, u8_wrap, Nat.zero_add, Nat.add_zero, Nat.reduceEqDiff, Nat.reduceLeDiff, Nat.reduceAdd, Nat.left_eq_add, Nat.add_eq_left, Nat.add_left_cancel_iff, reduceIte, eq_self, decide_true, decide_false, Bool.not_true, Bool.not_false, reduceCtorEq, List.getElem?_cons_zero, List.getElem?_cons_succ, List.set_cons_zero, List.set_cons_succ]
    have hr : (⟨p.l.getD 0 0, number p.l 1 8, number p.l 9 8, number p.l 17 4, number p.l 21 4, sub32 p⟩ : Rec) = recOf p := rfl
    rw [hr]
    have t3 := rC_len (recOf p)
    have t4 := rC_one (recOf p)
    have t5 : (rC rec0).length = (rC (recOf p)).length := by rw [rC_len, rC_len]
    simp (disch := first | omega | assumption | exact id rfl | (simp only [okw_wr]; assumption)) only [f1.old, RC, RO, RM, RT, AV.cells, Option.map_some, AV.one, AV.all1, i64_wrap, u64_wrap, u32_wrap, u8_wrap, Nat.zero_add, Nat.add_zero, Nat.reduceEqDiff, Nat.reduceLeDiff, Nat.reduceAdd, Nat.left_eq_add, Nat.add_eq_left, Nat.add_left_cancel_iff, reduceIte, eq_self, decide_true, decide_false, Bool.not_true, Bool.not_false, reduceCtorEq, List.getElem?_cons_zero, List.getElem?_cons_succ, List.set_cons_zero, List.set_cons_succ]
    refine (c_rec_Right (r := recOf p)).mono ?_
    rintro _ Ha ⟨rfl, -⟩
    refine ⟨rfl, ?_⟩
    (simp (disch := first | omega | assumption | exact id rfl | (simp only [okw_wr]; assumption)) only [f1.old, fill_nil, z_rec, RC, RO, RM, RT, AV.cells, Option.map_some, AV.one, AV.all1, i64_wrap, u64_wrap, u32_wrap, u8_wrap, Nat.zero_add, Nat.add_zero, Nat.reduceEqDiff, Nat.reduceLeDiff, Nat.reduceAdd, Nat.left_eq_add, Nat.add_eq_left, Nat.add_left_cancel_iff, reduceIte, eq_self, decide_true, decide_false, Bool.not_true, Bool.not_false, reduceCtorEq, List.getElem?_cons_zero, List.getElem?_cons_succ, List.set_cons_zero, List.set_cons_succ]; repeat' (first | (refine Gs_split (fun hb => ?_) (fun hb => ?_) <;> (simp only [hb]; (try simp only [decide_eq_true_eq, decide_eq_false_iff_not, Bool.not_eq_true', Bool.not_eq_false', ne_eq, Decidable.not_not, not_true_eq_false] at hb); (try simp (disch := first | omega | assumption | exact id rfl | (simp only [okw_wr]; assumption)) only [f1.old, fill_nil, z_rec, RC, RO, RM, RT, AV.cells, Option.map_some, AV.one, AV.all1, i64_wrap, u64_wrap, u32_wrap, u8_wrap, Nat.zero_add, Nat.add_zero, Nat.reduceEqDiff, Nat.reduceLeDiff, Nat.reduceAdd, Nat.left_eq_add, Nat.add_eq_left, Nat.add_left_cancel_iff, reduceIte, eq_self, decide_true, decide_false, Bool.not_true, Bool.not_false, reduceCtorEq, List.getElem?_cons_zero, List.getElem?_cons_succ, List.set_cons_zero, List.set_cons_succ]))) | (refine Is_split (fun hb => ?_) (fun hb => ?_) <;> (simp only [hb]; (try simp only [decide_eq_true_eq, decide_eq_false_iff_not, Bool.not_eq_true', Bool.not_eq_false', ne_eq, Decidable.not_not, not_true_eq_false] at hb); (try simp (disch := first | omega | assumption | exact id rfl | (simp only [okw_wr]; assumption)) only [f1.old, fill_nil, z_rec, RC, RO, RM, RT, AV.cells, Option.map_some, AV.one, AV.all1, i64_wrap, u64_wrap, u32_wrap, u8_wrap, Nat.zero_add, Nat.add_zero, Nat.reduceEqDiff, Nat.reduceLeDiff, Nat.reduceAdd, Nat.left_eq_add, Nat.add_eq_left, Nat.add_left_cancel_iff, reduceIte, eq_self, decide_true, decide_false, Bool.not_true, Bool.not_false, reduceCtorEq, List.getElem?_cons_zero, List.getElem?_cons_succ, List.set_cons_zero, List.set_cons_succ]))) | (refine Dg_split (fun hb => ?_) (fun hb => ?_) <;> (simp only [hb]; (try simp only [decide_eq_true_eq, decide_eq_false_iff_not, Bool.not_eq_true', Bool.not_eq_false', ne_eq, Decidable.not_not, not_true_eq_false] at hb); (try simp (disch := first | omega | assumption | exact id rfl | (simp only [okw_wr]; assumption)) only [f1.old, fill_nil, z_rec, RC, RO, RM, RT, AV.cells, Option.map_some, AV.one, AV.all1, i64_wrap, u64_wrap, u32_wrap, u8_wrap, Nat.zero_add, Nat.add_zero, Nat.reduceEqDiff, Nat.reduceLeDiff, Nat.reduceAdd, Nat.left_eq_add, Nat.add_eq_left, Nat.add_left_cancel_iff, reduceIte, eq_self, decide_true, decide_false, Bool.not_true, Bool.not_false, reduceCtorEq, List.getElem?_cons_zero, List.getElem?_cons_succ, List.set_cons_zero, List.set_cons_succ])))))
    · have hrr : recRight (recOf p) = false := by simpa using hb
      refine ⟨?_, by (refine ⟨by (try simp only []); omega, fun b hb hm => ?_⟩; simp (disch := first | omega | assumption) only [f1.old, upd_ne])⟩
      unfold recRead; rw [if_neg (by rw [hcr]; decide), if_pos (.inl hrr)]; rfl
    · have hrr : recRight (recOf p) = true := by simpa using hb
      refine (c_rec_Lay (r := recOf p)).mono ?_
      rintro _ H2 ⟨rfl, f2⟩
      have q2 := f2.le
      have k2 : ∀ b, b < H.n → H2.g b = H1.g b := fun b hb => by simp (disch := omega) only [f2.old, upd_ne]
      have k3 : H2.g (H.n + 1) = .cells (rC rec0) 47 false := by simp (disch := omega) only [f2.old, upd_ne, f1.old, upd_same]
      have k4 : H2.g H1.n = .cells (rC (recOf p)) 47 false := by simp (disch := omega) only [f2.old, upd_ne, upd_same]
      (simp (disch := first | omega | assumption | exact id rfl | (simp only [okw_wr]; assumption)) only [f1.old, k3, k4, b_neB eq_Page, fill_nil, z_rec, true_and, RC, RO, RM, RT, AV.cells, Option.map_some, AV.one, AV.all1, i64_wrap, u64_wrap, u32_wrap, u8_wrap, Nat.zero_add, Nat.add_zero, Nat.reduceEqDiff, Nat.reduceLeDiff, Nat.reduceAdd, Nat.left_eq_add, Nat.add_eq_left, Nat.add_left_cancel_iff, reduceIte, eq_self, decide_true, decide_false, Bool.not_true, Bool.not_false, reduceCtorEq, List.getElem?_cons_zero, List.getElem?_cons_succ, List.set_cons_zero, List.set_cons_succ]; repeat' (first | (refine Gs_split (fun hb => ?_) (fun hb => ?_) <;> (simp only [hb]; (try simp only [decide_eq_true_eq, decide_eq_false_iff_not, Bool.not_eq_true', Bool.not_eq_false', ne_eq, Decidable.not_not, not_true_eq_false] at hb); (try simp (disch := first | omega | assumption | exact id rfl | (simp only [okw_wr]; assumption)) only [f1.old, k3, k4, b_neB eq_Page, fill_nil, z_rec, true_and, RC, RO, RM, RT, AV.cells, Option.map_some, AV.one, AV.all1, i64_wrap, u64_wrap, u32_wrap, u8_wrap, Nat.zero_add, Nat.add_zero, Nat.reduceEqDiff, Nat.reduceLeDiff, Nat.reduceAdd, Nat.left_eq_add, Nat.add_eq_left, Nat.add_left_cancel_iff, reduceIte, eq_self, decide_true, decide_false, Bool.not_true, Bool.not_false, reduceCtorEq, List.getElem?_cons_zero, List.getElem?_cons_succ, List.set_cons_zero, List.set_cons_succ]))) | (refine Is_split (fun hb => ?_) (fun hb => ?_) <;> (simp only [hb]; (try simp only [decide_eq_true_eq, decide_eq_false_iff_not, Bool.not_eq_true', Bool.not_eq_false', ne_eq, Decidable.not_not, not_true_eq_false] at hb); (try simp (disch := first | omega | assumption | exact id rfl | (simp only [okw_wr]; assumption)) only [f1.old, k3, k4, b_neB eq_Page, fill_nil, z_rec, true_and, RC, RO, RM, RT, AV.cells, Option.map_some, AV.one, AV.all1, i64_wrap, u64_wrap, u32_wrap, u8_wrap, Nat.zero_add, Nat.add_zero, Nat.reduceEqDiff, Nat.reduceLeDiff, Nat.reduceAdd, Nat.left_eq_add, Nat.add_eq_left, Nat.add_left_cancel_iff, reduceIte, eq_self, decide_true, decide_false, Bool.not_true, Bool.not_false, reduceCtorEq, List.getElem?_cons_zero, List.getElem?_cons_succ, List.set_cons_zero, List.set_cons_succ]))) | (refine Dg_split (fun hb => ?_) (fun hb => ?_) <;> (simp only [hb]; (try simp only [decide_eq_true_eq, decide_eq_false_iff_not, Bool.not_eq_true', Bool.not_eq_false', ne_eq, Decidable.not_not, not_true_eq_false] at hb); (try simp (disch := first | omega | assumption | exact id rfl | (simp only [okw_wr]; assumption)) only [f1.old, k3, k4, b_neB eq_Page, fill_nil, z_rec, true_and, RC, RO, RM, RT, AV.cells, Option.map_some, AV.one, AV.all1, i64_wrap, u64_wrap, u32_wrap, u8_wrap, Nat.zero_add, Nat.add_zero, Nat.reduceEqDiff, Nat.reduceLeDiff, Nat.reduceAdd, Nat.left_eq_add, Nat.add_eq_left, Nat.add_left_cancel_iff, reduceIte, eq_self, decide_true, decide_false, Bool.not_true, Bool.not_false, reduceCtorEq, List.getElem?_cons_zero, List.getElem?_cons_succ, List.set_cons_zero, List.set_cons_succ])))))
      · refine ⟨?_, by (refine ⟨by (try simp only []); omega, fun b hb hm => ?_⟩; simp (disch := first | omega | assumption) only [k2, f1.old, upd_ne])⟩
        unfold recRead; rw [if_neg (by rw [hcr]; decide), if_pos (.inr hb)]; rfl
      · refine ⟨?_, by (refine ⟨by (try simp only []); omega, fun b hb hm => ?_⟩; simp (disch := first | omega | assumption) only [k2, f1.old, upd_ne])⟩
        unfold recRead; rw [if_neg (by rw [hcr]; decide), if_neg]
        rintro (h | h)
        · rw [hrr] at h; cases h
        · exact h hb
end Go.Eng
