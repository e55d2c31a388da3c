/-
  M6: The small code, part 6: ends; memory by blocks; what stays.
  M5: The small code, part 5: one rule for each small operation.
-/
import Derived.Test.YtecaahcbbdbpbaaW5b
import Derived.KernelRfl
namespace Go.Eng
set_option linter.unusedVariables false
set_option linter.unusedSimpArgs false

section
variable {P : Program} {S : Sums} {k : List KF} {T : Slots} {H : AH} {Q : Post} {l : List MI} {d : Option Nat}

theorem put_some {d : Nat} {v : AV} : put T (some d) v = upd T d v := _root_.id rfl
theorem put_none {v : AV} : put T none v = T := _root_.id rfl
theorem val_t {i : Nat} : MX.val T (.t i) = T i := _root_.id rfl
theorem val_c {v : AV} : MX.val T (.c v) = v := _root_.id rfl
theorem vals_nil : MX.vals T [] = [] := _root_.id rfl
theorem vals_cons {x : MX} {xs : List MX} : MX.vals T (x :: xs) = x.val T :: MX.vals T xs := _root_.id rfl
theorem opt_n : MX.opt T none = none := _root_.id rfl
theorem opt_s {x : MX} : MX.opt T (some x) = some (x.val T) := _root_.id rfl
theorem parts_n : partsV T [] = [] := _root_.id rfl
theorem parts_c {o n : Nat} {x : MX} {l : List (Nat × Nat × MX)} : partsV T ((o, n, x) :: l) = (o, n, x.val T) :: partsV T l := _root_.id rfl
theorem upd_at {α : Type} (f : Nat → α) (i : Nat) (x : α) (j : Nat) : upd f i x j = if j = i then x else f j := _root_.id rfl
theorem Xs_blk {i j : Nat} : Xs P S (.exit i) (.blk j :: k) T H Q = if i = j then Xs P S .normal k T H Q else Xs P S (.exit i) k T H Q := by
  by_cases h : i = j
  · subst h; simp [Xs_blkE]
  · rw [if_neg h]; exact Xs_blkO (by simpa using h)

variable (P) (S) in
/-- a value, perhaps -/
def Ps (d : Option Nat) (l : List MI) (k : List KF) (T : Slots) (H : AH) (Q : Post) : Option AV → Prop
  | some v => Os P S l k (put T d v) H Q
  | none => False
theorem Ps_some {v : AV} : Ps P S d l k T H Q (some v) = Os P S l k (put T d v) H Q := _root_.id rfl
theorem Rs_map {o : Option AV} : Rs P S d l k T H Q (o.map .pure) = Ps P S d l k T H Q o := by cases o <;> rfl

theorem r_mov {x : MX} : Os P S (⟨d, none, .mov x⟩ :: l) k T H Q = Os P S l k (put T d (x.val T)) H Q := _root_.id rfl
variable (P) (S) in
def Pk (d : Option Nat) (l : List MI) (k : List KF) (T : Slots) (H : AH) (Q : Post) (x y : AV) : AV → Prop
  | .bool b => Os P S l k (put T d (if b then x else y)) H Q
  | _ => False
theorem r_pick {c x y : MX} : Os P S (⟨d, none, .pick c x y⟩ :: l) k T H Q = Pk P S d l k T H Q (x.val T) (y.val T) (c.val T) := by
  rw [Os_op rfl]; simp only [mop]; unfold Pk; cases c.val T <;> rfl
theorem Pk_b {x y : AV} {b : Bool} : Pk P S d l k T H Q x y (.bool b) = Os P S l k (put T d (if b then x else y)) H Q := _root_.id rfl
theorem r_alloc {e : TypeId} {z : List AV} : Os P S (⟨d, none, .alloc e z⟩ :: l) k T H Q = Os P S l k (put T d (.ptr (some (H.n, 0)))) ⟨upd H.g H.n (.cells z e false), H.n + 1⟩ Q := _root_.id rfl
theorem r_box {e : TypeId} {x : MX} : Os P S (⟨d, none, .box e x⟩ :: l) k T H Q = Os P S l k (put T d (.ptr (some (H.n, 0)))) ⟨upd H.g H.n (.cells (x.val T).cells e false), H.n + 1⟩ Q := _root_.id rfl
theorem r_build {z : List AV} {ps : List (Nat × Nat × MX)} : Os P S (⟨d, none, .build z ps⟩ :: l) k T H Q = Ps P S d l k T H Q ((fillA z (partsV T ps)).map .agg) := by
  rw [Os_op rfl]; simp only [mop]; cases fillA z (partsV T ps) <;> rfl
variable (P) (S) in
def Bs (d : Option Nat) (l : List MI) (k : List KF) (T : Slots) (H : AH) (Q : Post) (e : TypeId) (len : Nat) : Option (List AV) → Prop
  | some cs => Os P S l k (put T d (.slc (some (H.n, 0)) len len 0)) ⟨upd H.g H.n (.cells cs e false), H.n + 1⟩ Q
  | none => False
theorem r_buildS {e : TypeId} {z : List AV} {len : Nat} {ps : List (Nat × Nat × MX)} : Os P S (⟨d, none, .buildS e z len ps⟩ :: l) k T H Q = Bs P S d l k T H Q e len (fillA (zerosA z len) (partsV T ps)) := by
  rw [Os_op rfl]; simp only [mop]; cases fillA (zerosA z len) (partsV T ps) <;> rfl
theorem Bs_some {e : TypeId} {len : Nat} {cs : List AV} : Bs P S d l k T H Q e len (some cs) = Os P S l k (put T d (.slc (some (H.n, 0)) len len 0)) ⟨upd H.g H.n (.cells cs e false), H.n + 1⟩ Q := _root_.id rfl
theorem r_ld1 {a : MX} : Os P S (⟨d, none, .ld1 a⟩ :: l) k T H Q = Ps P S d l k T H Q (ald1 H.g (a.val T)) := by rw [Os_op rfl]; exact Rs_map
theorem r_ldN {n : Nat} {a : MX} : Os P S (⟨d, none, .ldN n a⟩ :: l) k T H Q = Ps P S d l k T H Q (aldN H.g n (a.val T)) := by rw [Os_op rfl]; exact Rs_map
theorem r_st {n : Nat} {a x : MX} : Os P S (⟨d, none, .st n a x⟩ :: l) k T H Q = Rs P S d l k T H Q (ast H.g n (a.val T) (x.val T)) := Os_op rfl
variable (P) (S) in
def Nk (d : Option Nat) (l : List MI) (k : List KF) (T : Slots) (H : AH) (Q : Post) : AV → Prop
  | .ptr (some a) => Os P S l k (put T d (.ptr (some a))) H Q
  | .fn f a b => Os P S l k (put T d (.fn f a b)) H Q
  | _ => False
theorem r_nck {x : MX} : Os P S (⟨d, none, .nck x⟩ :: l) k T H Q = Nk P S d l k T H Q (x.val T) := by
  rw [Os_op rfl]; simp only [mop]; unfold Nk
  cases x.val T <;> first | rfl | skip
  rename_i a; cases a <;> rfl
theorem Nk_p {a : Nat × Nat} : Nk P S d l k T H Q (.ptr (some a)) = Os P S l k (put T d (.ptr (some a))) H Q := _root_.id rfl
theorem Nk_f {f : FuncId} {a b : List AV} : Nk P S d l k T H Q (.fn f a b) = Os P S l k (put T d (.fn f a b)) H Q := _root_.id rfl
theorem r_bin {op : BinOp} {t : TypeId} {x y : MX} : Os P S (⟨d, none, .bin op t x y⟩ :: l) k T H Q = Ps P S d l k T H Q (abin P op t (x.val T) (y.val T)) := by rw [Os_op rfl]; exact Rs_map
theorem r_un {op : UnOp} {x : MX} : Os P S (⟨d, none, .un op x⟩ :: l) k T H Q = Ps P S d l k T H Q (aun op (x.val T)) := by rw [Os_op rfl]; exact Rs_map
variable (P) (S) in
def Cv (d : Option Nat) (l : List MI) (k : List KF) (T : Slots) (H : AH) (Q : Post) (kd : IntKind) : AV → Prop
  | .int _ n => Os P S l k (put T d (.int kd (kd.wrap n))) H Q
  | _ => False
theorem r_conv {kd : IntKind} {x : MX} : Os P S (⟨d, none, .conv kd x⟩ :: l) k T H Q = Cv P S d l k T H Q kd (x.val T) := by
  rw [Os_op rfl]; simp only [mop]; unfold Cv; cases x.val T <;> rfl
theorem Cv_i {kd ke : IntKind} {n : Int} : Cv P S d l k T H Q kd (.int ke n) = Os P S l k (put T d (.int kd (kd.wrap n))) H Q := _root_.id rfl
theorem r_mkf {f : FuncId} {a b : List MX} : Os P S (⟨d, none, .mkf f a b⟩ :: l) k T H Q = Os P S l k (put T d (.fn f (MX.vals T a) (MX.vals T b))) H Q := _root_.id rfl
theorem r_mkmap : Os P S (⟨d, none, .mkmap⟩ :: l) k T H Q = Os P S l k (put T d (.map (some H.n))) ⟨upd H.g H.n (.map [] 0 false), H.n + 1⟩ Q := _root_.id rfl
variable (P) (S) in
def Mk (d : Option Nat) (l : List MI) (k : List KF) (T : Slots) (H : AH) (Q : Post) (e : TypeId) (z : List AV) (bytes : Nat) (x c : AV) : Prop := Rs P S d l k T H Q (amks H.n e z bytes x c)
theorem r_mks {e : TypeId} {z : List AV} {bytes : Nat} {x c : MX} : Os P S (⟨d, none, .mks e z bytes x c⟩ :: l) k T H Q = Mk P S d l k T H Q e z bytes (x.val T) (c.val T) := Os_op rfl
theorem Mk_i {e : TypeId} {z : List AV} {bytes : Nat} {ka kb : IntKind} {x c : Int} (h : 0 ≤ x ∧ x ≤ c ∧ c ≤ 1099511627776 ∧ c * bytes ≤ 1099511627776) :
    Mk P S d l k T H Q e z bytes (.int ka x) (.int kb c) = Os P S l k (put T d (.slc (some (H.n, 0)) x.toNat c.toNat 0)) ⟨upd H.g H.n (.cells (zerosA z c.toNat) e false), H.n + 1⟩ Q := by
  have h' : 0 ≤ x ∧ x ≤ c ∧ c ≤ (tooMany : Int) ∧ c * bytes ≤ (tooMany : Int) := h
  simp only [Mk, amks, h', and_self, if_true]; rfl
theorem r_slcS {n : Nat} {x : MX} {lo hi mx : Option MX} : Os P S (⟨d, none, .slcS n x lo hi mx⟩ :: l) k T H Q = Ps P S d l k T H Q (aslcS n (x.val T) (MX.opt T lo) (MX.opt T hi) (MX.opt T mx)) := by rw [Os_op rfl]; exact Rs_map
theorem r_slcA {len n : Nat} {x : MX} {lo hi mx : Option MX} : Os P S (⟨d, none, .slcA len n x lo hi mx⟩ :: l) k T H Q = Ps P S d l k T H Q (aslcA len n (x.val T) (MX.opt T lo) (MX.opt T hi) (MX.opt T mx)) := by rw [Os_op rfl]; exact Rs_map
theorem r_slcT {x : MX} {lo hi : Option MX} : Os P S (⟨d, none, .slcT x lo hi⟩ :: l) k T H Q = Ps P S d l k T H Q (aslcT (x.val T) (MX.opt T lo) (MX.opt T hi)) := by rw [Os_op rfl]; exact Rs_map
variable (P) (S) in
def Fa (d : Option Nat) (l : List MI) (k : List KF) (T : Slots) (H : AH) (Q : Post) (o : Nat) : AV → Prop
  | .ptr (some (b, p)) => Os P S l k (put T d (.ptr (some (b, p + o)))) H Q
  | _ => False
theorem r_fa {o : Nat} {x : MX} : Os P S (⟨d, none, .fa o x⟩ :: l) k T H Q = Fa P S d l k T H Q o (x.val T) := by
  rw [Os_op rfl]; simp only [mop]; unfold Fa
  cases x.val T <;> first | rfl | skip
  rename_i a; cases a <;> rfl
theorem Fa_p {o b p : Nat} : Fa P S d l k T H Q o (.ptr (some (b, p))) = Os P S l k (put T d (.ptr (some (b, p + o)))) H Q := _root_.id rfl
theorem r_fld {agg : Bool} {o n : Nat} {x : MX} : Os P S (⟨d, none, .fld agg o n x⟩ :: l) k T H Q = Ps P S d l k T H Q (afld agg o n (x.val T)) := by rw [Os_op rfl]; exact Rs_map
theorem r_ixS {n : Nat} {x i : MX} : Os P S (⟨d, none, .ixS n x i⟩ :: l) k T H Q = Ps P S d l k T H Q (aixS n (x.val T) (i.val T)) := by rw [Os_op rfl]; exact Rs_map
theorem r_ixP {len n : Nat} {x i : MX} : Os P S (⟨d, none, .ixP len n x i⟩ :: l) k T H Q = Ps P S d l k T H Q (aixP len n (x.val T) (i.val T)) := by rw [Os_op rfl]; exact Rs_map
theorem r_ixA {agg : Bool} {len n : Nat} {x i : MX} : Os P S (⟨d, none, .ixA agg len n x i⟩ :: l) k T H Q = Ps P S d l k T H Q (aixA agg len n (x.val T) (i.val T)) := by rw [Os_op rfl]; exact Rs_map
theorem r_ixT {x i : MX} : Os P S (⟨d, none, .ixT x i⟩ :: l) k T H Q = Ps P S d l k T H Q (aixT (x.val T) (i.val T)) := by rw [Os_op rfl]; exact Rs_map
theorem r_look {ks : List Leaf} {kagg ok : Bool} {z : AV} {x y : MX} : Os P S (⟨d, none, .look ks kagg z ok x y⟩ :: l) k T H Q = Ps P S d l k T H Q (alook H.g ks kagg z ok (x.val T) (y.val T)) := by rw [Os_op rfl]; exact Rs_map
theorem r_mset {ks : List Leaf} {kagg : Bool} {x y z : MX} : Os P S (⟨d, none, .mset ks kagg x y z⟩ :: l) k T H Q = Rs P S d l k T H Q (amset H.g ks kagg (x.val T) (y.val T) (z.val T)) := Os_op rfl
theorem r_ment {ks : List Leaf} {kagg : Bool} {z : AV} {x y : MX} : Os P S (⟨d, none, .ment ks kagg z x y⟩ :: l) k T H Q = Rs P S d l k T H Q (ament H.g ks kagg z (x.val T) (y.val T)) := Os_op rfl
theorem r_mst {x y z : MX} : Os P S (⟨d, none, .mst x y z⟩ :: l) k T H Q = Rs P S d l k T H Q (aentryStore H.g (x.val T) (y.val T) (z.val T)) := Os_op rfl
theorem r_mdel {ks : List Leaf} {kagg : Bool} {x y : MX} : Os P S (⟨d, none, .mdel ks kagg x y⟩ :: l) k T H Q = Rs P S d l k T H Q (amdel H.g ks kagg (x.val T) (y.val T)) := Os_op rfl
variable (P) (S) in
def Ex (d : Option Nat) (l : List MI) (k : List KF) (T : Slots) (H : AH) (Q : Post) (i : Nat) : AV → Prop
  | .tup vs => Ps P S d l k T H Q vs[i]?
  | _ => False
theorem r_ext {x : MX} {i : Nat} : Os P S (⟨d, none, .ext x i⟩ :: l) k T H Q = Ex P S d l k T H Q i (x.val T) := by
  rw [Os_op rfl]; simp only [mop]; unfold Ex
  cases x.val T <;> first | rfl | skip
  exact Rs_map
theorem Ex_0 {v : AV} {vs : List AV} : Ex P S d l k T H Q 0 (.tup (v :: vs)) = Os P S l k (put T d v) H Q := _root_.id rfl
theorem Ex_1 {v u : AV} {vs : List AV} : Ex P S d l k T H Q 1 (.tup (u :: v :: vs)) = Os P S l k (put T d v) H Q := _root_.id rfl
theorem Ex_2 {v u w : AV} {vs : List AV} : Ex P S d l k T H Q 2 (.tup (u :: w :: v :: vs)) = Os P S l k (put T d v) H Q := _root_.id rfl
theorem Ex_3 {v u w x : AV} {vs : List AV} : Ex P S d l k T H Q 3 (.tup (u :: w :: x :: v :: vs)) = Os P S l k (put T d v) H Q := _root_.id rfl
variable (P) (S) in
def Ln (d : Option Nat) (l : List MI) (k : List KF) (T : Slots) (H : AH) (Q : Post) : AV → Prop
  | .slc _ n _ _ => Os P S l k (put T d (.int .i64 n)) H Q
  | _ => False
theorem r_lenS {x : MX} : Os P S (⟨d, none, .lenS x⟩ :: l) k T H Q = Ln P S d l k T H Q (x.val T) := by
  rw [Os_op rfl]; simp only [mop]; unfold Ln; cases x.val T <;> rfl
theorem Ln_s {a : Option (Nat × Nat)} {n c sl : Nat} : Ln P S d l k T H Q (.slc a n c sl) = Os P S l k (put T d (.int .i64 n)) H Q := _root_.id rfl
variable (P) (S) in
def Lm (d : Option Nat) (l : List MI) (k : List KF) (T : Slots) (H : AH) (Q : Post) (v : AV) : Prop := Rs P S d l k T H Q (match v with | .map m => (mapOf H.g m).map fun es => .pure (.int .i64 es.1.length) | _ => none)
theorem r_lenM {x : MX} : Os P S (⟨d, none, .lenM x⟩ :: l) k T H Q = Lm P S d l k T H Q (x.val T) := by
  rw [Os_op rfl]; simp only [mop]; unfold Lm; cases x.val T <;> rfl
variable (P) (S) in
def Lt (d : Option Nat) (l : List MI) (k : List KF) (T : Slots) (H : AH) (Q : Post) : AV → Prop
  | .str s => Os P S l k (put T d (.int .i64 s.size)) H Q
  | _ => False
theorem r_lenT {x : MX} : Os P S (⟨d, none, .lenT x⟩ :: l) k T H Q = Lt P S d l k T H Q (x.val T) := by
  rw [Os_op rfl]; simp only [mop]; unfold Lt; cases x.val T <;> rfl
theorem Lt_s {s : ByteArray} : Lt P S d l k T H Q (.str s) = Os P S l k (put T d (.int .i64 s.size)) H Q := _root_.id rfl
theorem r_app {e : TypeId} {size bytes : Nat} {x y : MX} : Os P S (⟨d, none, .app e size bytes x y⟩ :: l) k T H Q = Rs P S d l k T H Q (aapp H.g H.n e size bytes (x.val T) (y.val T)) := Os_op rfl
theorem r_cpy {size : Nat} {x y : MX} : Os P S (⟨d, none, .cpy size x y⟩ :: l) k T H Q = Rs P S d l k T H Q (acpy H.g size (x.val T) (y.val T)) := Os_op rfl
theorem r_clrS {z : List AV} {x : MX} : Os P S (⟨d, none, .clrS z x⟩ :: l) k T H Q = Rs P S d l k T H Q (aclrS H.g z (x.val T)) := Os_op rfl
theorem r_mm {lo : Bool} {x y : MX} : Os P S (⟨d, none, .mm lo x y⟩ :: l) k T H Q = Ps P S d l k T H Q (amin2 lo (x.val T) (y.val T)) := by rw [Os_op rfl]; exact Rs_map

/-! ### values -/
section
variable {kd : IntKind} {x y : Int} {t : TypeId}
theorem b_add : abin P .add t (.int kd x) (.int kd y) = some (.int kd (kd.wrap (x + y))) := by simp [abin, aint]
theorem b_sub : abin P .sub t (.int kd x) (.int kd y) = some (.int kd (kd.wrap (x - y))) := by simp [abin, aint]
theorem b_mul : abin P .mul t (.int kd x) (.int kd y) = some (.int kd (kd.wrap (x * y))) := by simp [abin, aint]
theorem b_quo (h : y ≠ 0) : abin P .quo t (.int kd x) (.int kd y) = some (.int kd (kd.wrap (x.tdiv y))) := by simp [abin, aint, h]
theorem b_rem (h : y ≠ 0) : abin P .rem t (.int kd x) (.int kd y) = some (.int kd (x.tmod y)) := by simp [abin, aint, h]
theorem b_eql : abin P .eql t (.int kd x) (.int kd y) = some (.bool (decide (x = y))) := by simp [abin, aint]; rfl
theorem b_neq : abin P .neq t (.int kd x) (.int kd y) = some (.bool (decide (x ≠ y))) := by simp [abin, aint, bne]; rfl
theorem b_lss : abin P .lss t (.int kd x) (.int kd y) = some (.bool (decide (x < y))) := by simp [abin, aint]
theorem b_leq : abin P .leq t (.int kd x) (.int kd y) = some (.bool (decide (x ≤ y))) := by simp [abin, aint]
theorem b_gtr : abin P .gtr t (.int kd x) (.int kd y) = some (.bool (decide (x > y))) := by simp [abin, aint]
theorem b_geq : abin P .geq t (.int kd x) (.int kd y) = some (.bool (decide (x ≥ y))) := by simp [abin, aint]
theorem u_not {b : Bool} : aun .not (.bool b) = some (.bool !b) := _root_.id rfl
end
theorem ld1_p {g : Nat → AB} {b o : Nat} : ald1 g (.ptr (some (b, o))) = (match g b with | .cells cs _ _ => cs[o]? | _ => none) := _root_.id rfl
theorem i64_wrap {x : Int} (h : -9223372036854775808 ≤ x ∧ x ≤ 9223372036854775807) : IntKind.i64.wrap x = x := by
  unfold IntKind.wrap
  simp [IntKind.signed, IntKind.bits]
  omega

end
end Go.Eng
namespace Go.Eng
set_option linter.unusedVariables false
set_option linter.unusedSimpArgs false

def Rv (Q : AV → AH → Prop) (H : AH) : Option (List AV) → Prop
  | some [v] => Q v H
  | some vs => Q (.tup vs) H
  | none => False
theorem RetQ_r {rs : List MR} {Q : AV → AH → Prop} {T : Slots} {H : AH} : RetQ rs Q .ret T H = Rv Q H (allOf (resM T H) rs) := by
  simp only [RetQ, resMs, Rv]
  split <;> rename_i h <;> split at h <;> simp_all
theorem RetQ_n {rs : List MR} {Q : AV → AH → Prop} {T : Slots} {H : AH} : RetQ rs Q .normal T H = Rv Q H (allOf (resM T H) rs) := by
  simp only [RetQ, resMs, Rv]
  split <;> rename_i h <;> split at h <;> simp_all
theorem Rv_0 {Q : AV → AH → Prop} {H : AH} : Rv Q H (some []) = Q (.tup []) H := _root_.id rfl
theorem Rv_1 {Q : AV → AH → Prop} {H : AH} {v : AV} : Rv Q H (some [v]) = Q v H := _root_.id rfl
theorem Rv_2 {Q : AV → AH → Prop} {H : AH} {v u : AV} {vs : List AV} : Rv Q H (some (v :: u :: vs)) = Q (.tup (v :: u :: vs)) H := _root_.id rfl
theorem allOf_nil {α β : Type} {f : α → Option β} : allOf f [] = some [] := _root_.id rfl
theorem allOf_some {α β : Type} {f : α → Option β} {a : α} {l : List α} {b : β} {bs : List β} (h1 : f a = some b) (h2 : allOf f l = some bs) : allOf f (a :: l) = some (b :: bs) := by simp [allOf, h1, h2]
theorem allOf_c {α β : Type} {f : α → Option β} {a : α} {l : List α} : allOf f (a :: l) = (match f a, allOf f l with | some b, some bs => some (b :: bs) | _, _ => none) := _root_.id rfl
theorem resM_t {T : Slots} {H : AH} {i : Nat} : resM T H (.t i) = some (T i) := _root_.id rfl
theorem resM_l1 {T : Slots} {H : AH} {i n : Nat} : resM T H (.l i false n) = ald1 H.g (T i) := _root_.id rfl
theorem resM_lN {T : Slots} {H : AH} {i n : Nat} : resM T H (.l i true n) = aldN H.g n (T i) := _root_.id rfl

/-! ### memory -/
/-- cells of a block -/
theorem ldN_p {g : Nat → AB} {b o n : Nat} : aldN g n (.ptr (some (b, o))) = (match g b with | .cells cs _ _ => (if o + n ≤ cs.length then some ((cs.drop o).take n) else none) | _ => none).map .agg := by
  simp only [aldN, cellsAt]; cases g b <;> rfl
/-- cells laid over others, from a place on -/
def lay (cs : List AV) (o : Nat) (vs : List AV) : List AV := cs.take o ++ vs ++ cs.drop (o + vs.length)
theorem lay_length {cs vs : List AV} {o : Nat} (h : o + vs.length ≤ cs.length) : (lay cs o vs).length = cs.length := by
  unfold lay; simp only [List.length_append, List.length_take, List.length_drop]; omega
theorem lay_one {cs : List AV} {o : Nat} {v : AV} (h : o < cs.length) : lay cs o [v] = cs.set o v := by
  unfold lay
  rw [List.set_eq_take_append_cons_drop, if_pos h]
  simp
theorem st_p {g : Nat → AB} {b o n : Nat} {v : AV} (h1 : v.cells.length = n) (h2 : v.cells.all AV.one = true) :
    ast g n (.ptr (some (b, o))) v = (match g b with | .cells cs e false => if o + n ≤ cs.length then some (.val .undef { ws := [(b, .cells (lay cs o v.cells) e false)] }) else none | _ => none) := by
  simp only [ast, h1, h2, and_self, if_true, setCells]
  cases g b with
  | dead => rfl
  | map es c ro => rfl
  | cells cs e ro =>
    cases ro with
    | true => rfl
    | false =>
      simp only []
      split
      · unfold lay; rw [h1]; rfl
      · rfl

theorem app_w {H : AH} {b : Nat} {x : AB} : H.app { ws := [(b, x)] } = ⟨upd H.g b x, H.n⟩ := _root_.id rfl

/-- FRAMES: all blocks that were there stay, but for some; 'M': which -/
structure Fr (M : Nat → Prop) (H H' : AH) : Prop where
  n : H.n ≤ H'.n
  same : ∀ b, b < H.n → ¬ M b → H'.g b = H.g b
abbrev No : Nat → Prop := fun _ => False
theorem Fr.refl {M : Nat → Prop} (H : AH) : Fr M H H := ⟨Nat.le_refl _, fun _ _ _ => rfl⟩
theorem Fr.trans {M : Nat → Prop} {H1 H2 H3 : AH} (a : Fr M H1 H2) (b : Fr M H2 H3) : Fr M H1 H3 :=
  ⟨Nat.le_trans a.n b.n, fun c hc hm => (b.same c (Nat.lt_of_lt_of_le hc a.n) hm).trans (a.same c hc hm)⟩
theorem Fr.mono {M M' : Nat → Prop} {H H' : AH} (h : ∀ b, M b → M' b) (a : Fr M H H') : Fr M' H H' := ⟨a.n, fun b hb hm => a.same b hb fun h1 => hm (h b h1)⟩
theorem Fr.new {M : Nat → Prop} {H : AH} {g : Nat → AB} {n : Nat} {x : AB} (a : Fr M H ⟨g, n⟩) : Fr M H ⟨upd g n x, n + 1⟩ :=
  ⟨Nat.le_succ_of_le a.n, fun b hb hm => by
    have : b < n := Nat.lt_of_lt_of_le hb a.n
    show upd g n x b = _
    rw [upd_ne _ _ (by omega)]; exact a.same b hb hm⟩
theorem Fr.set {M : Nat → Prop} {H : AH} {g : Nat → AB} {n c : Nat} {x : AB} (hc : H.n ≤ c ∨ M c) (a : Fr M H ⟨g, n⟩) : Fr M H ⟨upd g c x, n⟩ :=
  ⟨a.n, fun b hb hm => by
    show upd g c x b = _
    by_cases e : b = c
    · subst e; rcases hc with h | h
      · omega
      · exact absurd h hm
    · rw [upd_ne _ _ e]; exact a.same b hb hm⟩

end Go.Eng
