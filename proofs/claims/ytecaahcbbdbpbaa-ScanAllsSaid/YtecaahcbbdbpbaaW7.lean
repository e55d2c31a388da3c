/-
  B2: The seat's program, and what is known of its functions beside their code.
  B1: What is known of some library functions: slices.SortFunc.
  A1: What values are in memory.
-/
import Derived.Test.YtecaahcbbdbpbaaW6
import Derived.Sort.Defs
import Derived.Lib.BitFns
import Derived.Test.YtecaahcbbdbpbaaProg
namespace Go.Eng
open Wr
set_option linter.unusedVariables false
set_option linter.defProp false
abbrev I (x : Int) : AV := .int .i64 x
abbrev B8 (x : Nat) : AV := .int .u8 x
theorem AV.all1 {p : AV → Bool} {l : List AV} {a : AV} : (a :: l).all p = (p a && l.all p) := _root_.id rfl

def iC (x : Int) : List AV := [I x]
def b8C (x : Nat) : List AV := [B8 x]
def bbC (x : Bool) : List AV := [.bool x]
def gC (g : Geom) : List AV := [I g.conv, I g.soft, I g.seq, I g.size, I g.opn]
def aC (a : At) : List AV := [I a.zone, I a.off]
def zC (z : Zone) : List AV := [I z.state, I z.point]
def bC {n : Nat} (b : Bytes n) : List AV := b.l.map B8
def nC {n : Nat} (b : Nums n) : List AV := b.l.map I
def rC (r : Rec) : List AV := I r.kind :: I r.epoch :: I r.seq :: I r.block :: I r.count :: bC r.data
def fC (f : Wr.Found) : List AV := I f.place :: rC f.r
def wC (w : At × Page) : List AV := I w.1.zone :: I w.1.off :: bC w.2

theorem bC_len {n : Nat} (b : Bytes n) : (bC b).length = n := by simp [bC, b.len]
theorem nC_len {n : Nat} (b : Nums n) : (nC b).length = n := by simp [nC, b.len]
theorem bC_one {n : Nat} (b : Bytes n) : (bC b).all AV.one = true := by simp [bC, AV.one]
theorem nC_one {n : Nat} (b : Nums n) : (nC b).all AV.one = true := by simp [nC, AV.one]
theorem iC_len (x : Int) : (iC x).length = 1 := _root_.id rfl
theorem b8C_len (x : Nat) : (b8C x).length = 1 := _root_.id rfl
theorem bbC_len (x : Bool) : (bbC x).length = 1 := _root_.id rfl
theorem gC_len (g : Geom) : (gC g).length = 5 := _root_.id rfl
theorem aC_len (a : At) : (aC a).length = 2 := _root_.id rfl
theorem zC_len (a : Zone) : (zC a).length = 2 := _root_.id rfl
theorem rC_len (r : Rec) : (rC r).length = 37 := by simp [rC, bC_len]
theorem fC_len (r : Wr.Found) : (fC r).length = 38 := by simp [fC, rC_len]
theorem wC_len (w : At × Page) : (wC w).length = 66 := by simp [wC, bC_len]
theorem iC_one (x : Int) : (iC x).all AV.one = true := _root_.id rfl
theorem b8C_one (x : Nat) : (b8C x).all AV.one = true := _root_.id rfl
theorem bbC_one (x : Bool) : (bbC x).all AV.one = true := _root_.id rfl
theorem gC_one (g : Geom) : (gC g).all AV.one = true := _root_.id rfl
theorem aC_one (a : At) : (aC a).all AV.one = true := _root_.id rfl
theorem zC_one (a : Zone) : (zC a).all AV.one = true := _root_.id rfl
theorem rC_one (r : Rec) : (rC r).all AV.one = true := by simpa [rC, AV.one] using bC_one r.data
theorem fC_one (r : Wr.Found) : (fC r).all AV.one = true := by simpa [fC, AV.one] using rC_one r.r
theorem wC_one (w : At × Page) : (wC w).all AV.one = true := by simpa [wC, AV.one] using bC_one w.2
theorem bC_at {n : Nat} (b : Bytes n) {i : Nat} (h : i < n) : (bC b)[i]? = some (B8 (b.l.getD i 0)) := by
  unfold bC; rw [List.getElem?_map, List.getElem?_eq_getElem (by rw [b.len]; exact h), List.getD_eq_getElem?_getD, List.getElem?_eq_getElem (by rw [b.len]; exact h)]; rfl
theorem nC_at {n : Nat} (b : Nums n) {i : Nat} (h : i < n) : (nC b)[i]? = some (I (b.l.getD i 0)) := by
  unfold nC; rw [List.getElem?_map, List.getElem?_eq_getElem (by rw [b.len]; exact h), List.getD_eq_getElem?_getD, List.getElem?_eq_getElem (by rw [b.len]; exact h)]; rfl

theorem iC_0 {x : Int} : (iC x)[0]? = some (I x) := _root_.id rfl
theorem b8C_0 {x : Nat} : (b8C x)[0]? = some (B8 x) := _root_.id rfl
theorem bbC_0 {x : Bool} : (bbC x)[0]? = some (.bool x) := _root_.id rfl
theorem gC_0 {g : Geom} : (gC g)[0]? = some (I g.conv) := _root_.id rfl
theorem gC_1 {g : Geom} : (gC g)[1]? = some (I g.soft) := _root_.id rfl
theorem gC_2 {g : Geom} : (gC g)[2]? = some (I g.seq) := _root_.id rfl
theorem gC_3 {g : Geom} : (gC g)[3]? = some (I g.size) := _root_.id rfl
theorem gC_4 {g : Geom} : (gC g)[4]? = some (I g.opn) := _root_.id rfl
theorem aC_0 {a : At} : (aC a)[0]? = some (I a.zone) := _root_.id rfl
theorem aC_1 {a : At} : (aC a)[1]? = some (I a.off) := _root_.id rfl
theorem zC_0 {a : Zone} : (zC a)[0]? = some (I a.state) := _root_.id rfl
theorem zC_1 {a : Zone} : (zC a)[1]? = some (I a.point) := _root_.id rfl
theorem rC_0 {a : Rec} : (rC a)[0]? = some (I a.kind) := _root_.id rfl
theorem rC_1 {a : Rec} : (rC a)[1]? = some (I a.epoch) := _root_.id rfl
theorem rC_2 {a : Rec} : (rC a)[2]? = some (I a.seq) := _root_.id rfl
theorem rC_3 {a : Rec} : (rC a)[3]? = some (I a.block) := _root_.id rfl
theorem rC_4 {a : Rec} : (rC a)[4]? = some (I a.count) := _root_.id rfl
theorem fC_0 {a : Wr.Found} : (fC a)[0]? = some (I a.place) := _root_.id rfl
theorem fC_1 {a : Wr.Found} : (fC a)[1]? = some (I a.r.kind) := _root_.id rfl
theorem fC_2 {a : Wr.Found} : (fC a)[2]? = some (I a.r.epoch) := _root_.id rfl
theorem fC_3 {a : Wr.Found} : (fC a)[3]? = some (I a.r.seq) := _root_.id rfl
theorem fC_4 {a : Wr.Found} : (fC a)[4]? = some (I a.r.block) := _root_.id rfl
theorem fC_5 {a : Wr.Found} : (fC a)[5]? = some (I a.r.count) := _root_.id rfl
theorem wC_0 {a : At × Page} : (wC a)[0]? = some (I a.1.zone) := _root_.id rfl
theorem wC_1 {a : At × Page} : (wC a)[1]? = some (I a.1.off) := _root_.id rfl
theorem bC_flat {n : Nat} (b : Bytes n) : bC b = b.l.flatMap b8C := by unfold bC b8C; generalize b.l = l; induction l with
  | nil => rfl
  | cons a l ih => simp [ih]
theorem nC_flat {n : Nat} (b : Nums n) : nC b = b.l.flatMap iC := by unfold nC iC; generalize b.l = l; induction l with
  | nil => rfl
  | cons a l ih => simp [ih]
theorem z_bytes (n : Nat) : List.replicate n (AV.int .u8 0) = bC (Bytes.zero n) := by simp [bC, Bytes.zero]
theorem z_page : List.replicate 64 (AV.int .u8 0) = bC (Bytes.zero 64) := z_bytes 64
theorem z_data : List.replicate 32 (AV.int .u8 0) = bC (Bytes.zero 32) := z_bytes 32
def rec0 : Rec := ⟨0, 0, 0, 0, 0, Bytes.zero 32⟩
theorem z_rec : [AV.int .i64 0, .int .i64 0, .int .i64 0, .int .i64 0, .int .i64 0] ++ List.replicate 32 (AV.int .u8 0) = rC rec0 := by rw [z_data]; rfl
theorem bC_fits {n : Nat} (b : Bytes n) : fits (List.replicate n .i) (bC b) = true := by
  have : bC b = (b.l.map fun x : Nat => (x : Int)).map (AV.int .u8) := by simp [bC]
  rw [this]; exact fits_ints (by simp [b.len])
theorem bC_eqs {n : Nat} (a b : Bytes n) : aeqs (bC a) (bC b) = some (decide (a = b)) := by
  have e : ∀ c : Bytes n, bC c = (c.l.map fun x : Nat => (x : Int)).map (AV.int .u8) := by intro c; simp [bC]
  rw [e, e, aeqs_ints (by simp [a.len, b.len])]
  congr 1
  apply decide_eq_decide.mpr
  constructor
  · intro h; exact Bytes.ext (by have h2 := congrArg (List.map Int.toNat) h; simpa [Function.comp_def] using h2)
  · rintro rfl; rfl
theorem nC_eqs {n : Nat} (a b : Nums n) : aeqs (nC a) (nC b) = some (decide (a = b)) := by
  unfold nC; rw [aeqs_ints (by simp [a.len, b.len])]
  congr 1
  apply decide_eq_decide.mpr
  constructor
  · intro h; exact Nums.ext h
  · rintro rfl; rfl
theorem b_eqB {P : Program} {t n : Nat} (h : eqF P t = some (List.replicate n .i)) {a b : Bytes n} : abin P .eql t (.agg (bC a)) (.agg (bC b)) = some (.bool (decide (a = b))) := by
  rw [b_eqA h (bC_fits a) (bC_fits b), bC_eqs]; rfl
theorem b_neB {P : Program} {t n : Nat} (h : eqF P t = some (List.replicate n .i)) {a b : Bytes n} : abin P .neq t (.agg (bC a)) (.agg (bC b)) = some (.bool (decide (a ≠ b))) := by
  rw [b_neA h (bC_fits a) (bC_fits b), bC_eqs]; simp
/-- memory -/
def RM := allAnd @q_ld1 <| allAnd @q_ldN <| allAnd @c1_c <| allAnd @cN_all <| allAnd @roAll_at <| allAnd @c1_ro <| allAnd @cN_ro <| allAnd @ro_ro <| allAnd @q_st1 <| allAnd @q_stN <| allAnd @st1_c <| allAnd @stN_all <| allAnd @sb_s <| allAnd @so_s <| allAnd @st1_ok <| allAnd @c1_wr_ne @c1_wr_same
/-- types -/
def RT := allAnd @gC_0 <| allAnd @gC_1 <| allAnd @gC_2 <| allAnd @gC_3 <| allAnd @gC_4 <| allAnd @gC_len <| allAnd @aC_0 <| allAnd @aC_1 <| allAnd @aC_len <| allAnd @zC_0 <| allAnd @zC_1 <| allAnd @zC_len <| allAnd @iC_0 <| allAnd @b8C_0 <| allAnd @bbC_0 <| allAnd @rC_0 <| allAnd @rC_1 <| allAnd @rC_2 <| allAnd @rC_3 <| allAnd @rC_4 <| allAnd @rC_len <| allAnd @fC_0 <| allAnd @fC_1 <| allAnd @fC_2 <| allAnd @fC_3 <| allAnd @fC_4 <| allAnd @fC_5 <| allAnd @fC_len <| allAnd @wC_0 <| allAnd @wC_1 <| allAnd @wC_len <| allAnd @bC_len <| allAnd @nC_len <| allAnd @gC_one <| allAnd @aC_one <| allAnd @zC_one <| allAnd @rC_one <| allAnd @fC_one <| allAnd @wC_one <| allAnd @bC_one @nC_one
end Go.Eng
namespace Go.Eng
open Wr
set_option linter.unusedVariables false
def cmpI (a b : Int) : Int := if a < b then -1 else if a > b then 1 else 0
def cfF (x y : Wr.Found) : Int := if cmpI x.r.seq y.r.seq ≠ 0 then cmpI x.r.seq y.r.seq else cmpI x.place y.place
instance : Inhabited Wr.Found := ⟨⟨0, rec0⟩⟩
/-- sorted as Go's library sorts -/
def sortF (L : List Wr.Found) : List Wr.Found := (Go.Sort.pdq (fun x y => decide (cfF x y < 0)) L.toArray 0 L.length (Go.Lib.bitLen L.length) true true).toList
open Classical in
/-- slices.SortFunc, with scan's comparison -/
noncomputable def sortSum (cmp : FuncId) (args : List AV) (H : AH) : Option (AV × AH) :=
  match args with
  | [.slc none 0 0 0, .fn f [] []] => if f = cmp then some (.tup [], H) else none
  | [.slc (some (b, 0)) n c s, .fn f [] []] =>
    if f = cmp then
      match H.g b with
      | .cells cs e false => if h : ∃ L : List Wr.Found, L.length = n ∧ n * 38 ≤ cs.length ∧ cs.take (n * 38) = L.flatMap fC ∧ n < 1000000 then some (.tup [], ⟨upd H.g b (.cells ((sortF h.choose).flatMap fC ++ cs.drop (n * 38)) e false), H.n⟩) else none
      | _ => none
    else none
  | _ => none
end Go.Eng
namespace Go.Eng
open Go.Proofs
noncomputable section
noncomputable abbrev P0 : Program := Try.prog
def quietL : List Nat := [13, 24, 27, 28, 31, 32, 35, 44, 46, 47, 49, 55, 62, 80]
/-- without the library's summaries -/
noncomputable def Sq : Sums := { quiet := fun f => quietL.contains f }
noncomputable def S0 : Sums := { quiet := fun f => quietL.contains f, sum := fun f => if f = 25 then some (sortSum 26) else none }
end
end Go.Eng
