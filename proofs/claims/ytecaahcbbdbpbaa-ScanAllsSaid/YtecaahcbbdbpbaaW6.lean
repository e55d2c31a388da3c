/-
  D3: What the program's functions answer, in plain Lean: word, crc, rec, page, mast; the device.
  D2: What the program's functions answer, in plain Lean: geom, zone, pool, lane, trans, pick, roll, table.
  D1: What the program's values are, in plain Lean.
  L5: Walks, part 5: equality of cells; copies into slices.
  L4: Walks, part 4: numbers of other kinds; parts of slices.
  L3: Walks, part 3: what can be written; frames; copies of slices.
  L2: Walks, part 2: cells, slices in memory, slices of one's own.
  L1: Walks, part 1: the rules in bundles.
-/
import Derived.Test.YtecaahcbbdbpbaaW5c
namespace Go.Eng
set_option linter.unusedVariables false
set_option linter.defProp false

theorem allAnd {a b : Prop} (h1 : a) (h2 : b) : a ∧ b := ⟨h1, h2⟩
/-- control -/
def RC := allAnd @Cs_skip <| allAnd @Cs_ops <| allAnd @Cs_dops <| allAnd @Cs_seq <| allAnd @Cs_cond <| allAnd @Cs_block <| allAnd @Cs_exit <| allAnd @Cs_ret <| allAnd @Xs_nil <| allAnd @Xs_seqN <| allAnd @Xs_seqE <| allAnd @Xs_seqR <| allAnd @Xs_blkN <| allAnd @Xs_blkR <| allAnd @Xs_blk <|
  allAnd @Os_nil <| allAnd @Os_call <| allAnd @Os_callq <| allAnd @Os_guard <| allAnd @Os_callv <| allAnd @Vs_fn <| allAnd @Rs_val <| allAnd @Rs_pure <| allAnd @Ks_eq <| allAnd @Gs_on <| allAnd @Gs_off1 <| allAnd @Gs_off2 <| allAnd @Is_t <| allAnd @Is_f <| allAnd @Th_n <| allAnd @Th_e <| allAnd @Th_r <|
  allAnd @Ds_nil <| allAnd @Ds_q <| allAnd @Ds_qp <| allAnd @Ds_n <| allAnd @Ds_w <| allAnd @Ds_g <| allAnd @Xs_dq <| allAnd @Xs_dn <| allAnd @Xs_dw <| allAnd @Dg_on <| allAnd @Dg_off1 <| allAnd @Dg_off2 <| allAnd @dBlk_nil <| allAnd @dBlk_h <| allAnd @dBlk_r <| allAnd @hideL_nil <| allAnd @hideL_c <| allAnd @restL_nil <| allAnd @restL_c <| allAnd @protM_1 <| allAnd @protM_N @bkOf_p
/-- operations -/
def RO := allAnd @put_some <| allAnd @put_none <| allAnd @val_t <| allAnd @val_c <| allAnd @vals_nil <| allAnd @vals_cons <| allAnd @opt_n <| allAnd @opt_s <| allAnd @parts_n <| allAnd @parts_c <| allAnd @upd_same <| allAnd @upd_ne <| allAnd @Ps_some <| allAnd @r_mov <| allAnd @r_pick <| allAnd @Pk_b <| allAnd @r_alloc <| allAnd @r_box <| allAnd @r_build <| allAnd @r_buildS <| allAnd @Bs_some <| allAnd @r_ld1 <| allAnd @r_ldN <| allAnd @r_st <| allAnd @r_nck <| allAnd @Nk_p <| allAnd @Nk_f <| allAnd @r_bin <| allAnd @r_un <| allAnd @r_conv <| allAnd @Cv_i <| allAnd @r_mkf <| allAnd @r_mkmap <| allAnd @r_mks <| allAnd @Mk_i <|
 allAnd @r_slcS <| allAnd @r_slcA <| allAnd @r_slcT <| allAnd @r_fa <| allAnd @Fa_p <| allAnd @r_fld <| allAnd @r_ixS <| allAnd @r_ixP <| allAnd @r_ixA <| allAnd @r_ixT <| allAnd @r_look <| allAnd @r_mset <| allAnd @r_ment <| allAnd @r_mst <| allAnd @r_mdel <| allAnd @r_ext <| allAnd @Ex_0 <| allAnd @Ex_1 <| allAnd @Ex_2 <| allAnd @Ex_3 <| allAnd @r_lenS <| allAnd @Ln_s <| allAnd @r_lenM <| allAnd @r_lenT <| allAnd @Lt_s <| allAnd @r_app <| allAnd @r_cpy <| allAnd @r_clrS <| allAnd @r_mm <|
 allAnd @b_add <| allAnd @b_sub <| allAnd @b_mul <| allAnd @b_quo <| allAnd @b_rem <| allAnd @b_eql <| allAnd @b_neq <| allAnd @b_lss <| allAnd @b_leq <| allAnd @b_gtr <| allAnd @b_geq <| allAnd @u_not <| allAnd @RetQ_r <| allAnd @RetQ_n <| allAnd @Rv_0 <| allAnd @Rv_1 <| allAnd @Rv_2 <| allAnd @allOf_nil <| allAnd @allOf_c <| allAnd @resM_t <| allAnd @resM_l1 <| allAnd @resM_lN <| allAnd @app_w @i64_wrap
end Go.Eng
namespace Go.Eng
set_option linter.unusedVariables false
set_option linter.unusedSimpArgs false

/-! ### cells of a block -/
def c1 (x : AB) (o : Nat) : Option AV := match x with | .cells cs _ _ => cs[o]? | _ => none
def cN (x : AB) (o n : Nat) : Option (List AV) := match x with | .cells cs _ _ => if o + n ≤ cs.length then some ((cs.drop o).take n) else none | _ => none
theorem q_ld1 {g : Nat → AB} {b o : Nat} : ald1 g (.ptr (some (b, o))) = c1 (g b) o := _root_.id rfl
theorem q_ldN {g : Nat → AB} {b o n : Nat} : aldN g n (.ptr (some (b, o))) = (cN (g b) o n).map .agg := by
  simp only [aldN, cellsAt, cN]; cases g b <;> rfl
theorem c1_c {cs : List AV} {e : TypeId} {ro : Bool} {o : Nat} : c1 (.cells cs e ro) o = cs[o]? := _root_.id rfl
theorem cN_c {cs : List AV} {e : TypeId} {ro : Bool} {o n : Nat} (h : o + n ≤ cs.length) : cN (.cells cs e ro) o n = some ((cs.drop o).take n) := by simp [cN, h]
theorem cN_all {cs : List AV} {e : TypeId} {ro : Bool} {n : Nat} (h : cs.length = n) : cN (.cells cs e ro) 0 n = some cs := by
  subst h; simp [cN]
theorem roAll_at {g : Nat → AB} {b : Nat} : roAll g b = (g b).ro := _root_.id rfl
theorem c1_ro {x : AB} {o : Nat} : c1 x.ro o = c1 x o := by cases x <;> rfl
theorem cN_ro {x : AB} {o n : Nat} : cN x.ro o n = cN x o n := by cases x <;> rfl
theorem ro_ro {x : AB} : x.ro.ro = x.ro := by cases x <;> rfl

def st1 (x : AB) (b o : Nat) (v : AV) : Option ARes := match x with
  | .cells cs e false => if o < cs.length then some (.val .undef { ws := [(b, .cells (cs.set o v) e false)] }) else none
  | _ => none
def stN (x : AB) (b o : Nat) (vs : List AV) : Option ARes := match x with
  | .cells cs e false => if o + vs.length ≤ cs.length then some (.val .undef { ws := [(b, .cells (lay cs o vs) e false)] }) else none
  | _ => none
theorem one_cells {v : AV} (h : v.one = true) : v.cells = [v] := by cases v <;> first | rfl | (simp [AV.one] at h)
theorem q_st1 {g : Nat → AB} {b o : Nat} {v : AV} (h : v.one = true) : ast g 1 (.ptr (some (b, o))) v = st1 (g b) b o v := by
  have hc := one_cells h
  rw [st_p (by rw [hc]; rfl) (by rw [hc]; simp [h])]
  unfold st1
  cases hg : g b with
  | dead => rfl
  | map es c ro => rfl
  | cells cs e ro =>
    cases ro with
    | true => rfl
    | false =>
      simp only [Nat.succ_le_iff, hc]
      by_cases ho : o < cs.length
      · rw [if_pos (by omega), if_pos ho, lay_one ho]
      · rw [if_neg (by omega), if_neg ho]
theorem q_stN {g : Nat → AB} {b o n : Nat} {xs : List AV} (h : xs.length = n) (h1 : xs.all AV.one = true) : ast g n (.ptr (some (b, o))) (.agg xs) = stN (g b) b o xs := by
  rw [st_p (v := .agg xs) h h1]
  unfold stN
  subst h
  cases hg : g b with
  | dead => rfl
  | map es c ro => rfl
  | cells cs e ro => cases ro <;> rfl
theorem st1_c {cs : List AV} {e : TypeId} {b o : Nat} {v : AV} (h : Nat.ble (o + 1) cs.length = true) : st1 (.cells cs e false) b o v = some (.val .undef { ws := [(b, .cells (cs.set o v) e false)] }) := by
  have := Nat.le_of_ble_eq_true h
  simp only [st1]; rw [if_pos (by omega)]
theorem stN_all {cs xs : List AV} {e : TypeId} {b : Nat} (h : cs.length = xs.length) : stN (.cells cs e false) b 0 xs = some (.val .undef { ws := [(b, .cells xs e false)] }) := by
  simp only [stN]; rw [if_pos (by omega)]; simp [lay, ← h]
theorem stN_c {cs xs : List AV} {e : TypeId} {b o : Nat} (h : o + xs.length ≤ cs.length) : stN (.cells cs e false) b o xs = some (.val .undef { ws := [(b, .cells (lay cs o xs) e false)] }) := by
  simp only [stN]; rw [if_pos h]

/-! ### slices in memory -/
def sb : AV → Nat
  | .slc (some (b, _)) _ _ _ => b
  | _ => 0
def so : AV → Nat
  | .slc (some (_, o)) _ _ _ => o
  | _ => 0
theorem sb_s {b o l c s : Nat} : sb (.slc (some (b, o)) l c s) = b := _root_.id rfl
theorem so_s {b o l c s : Nat} : so (.slc (some (b, o)) l c s) = o := _root_.id rfl

structure Sl {α : Type} (g : Nat → AB) (k : Nat) (enc : α → List AV) (v : AV) (L : List α) : Prop where
  el : ∀ x, (enc x).length = k
  cells : (L = [] ∧ v = .slc none 0 0 0) ∨ ∃ c sl cs e ro, v = .slc (some (sb v, so v)) L.length c sl ∧ g (sb v) = .cells cs e ro ∧ so v + L.length * k ≤ cs.length ∧ (cs.drop (so v)).take (L.length * k) = L.flatMap enc ∧ L.length ≤ c ∧ (sl = 0 ∨ sl = k)

theorem Sl.shape {α : Type} {g : Nat → AB} {k : Nat} {enc : α → List AV} {v : AV} {L : List α} (h : Sl g k enc v L) : ∃ a c sl, v = .slc a L.length c sl := by
  rcases h.cells with ⟨rfl, rfl⟩ | ⟨c, sl, cs, e, ro, h1, _⟩
  · exact ⟨_, _, _, rfl⟩
  · exact ⟨_, _, _, h1⟩
theorem flat_len {α : Type} {enc : α → List AV} {k : Nat} (h : ∀ x, (enc x).length = k) : ∀ L : List α, (L.flatMap enc).length = L.length * k
  | [] => by simp
  | x :: L => by simp [h, flat_len h L, Nat.add_mul, Nat.add_comm]
theorem flat_at {α : Type} {enc : α → List AV} {k : Nat} (h : ∀ x, (enc x).length = k) (d : α) : ∀ (L : List α) (i : Nat), i < L.length → ((L.flatMap enc).drop (i * k)).take k = enc (L.getD i d)
  | [], i, hi => by simp at hi
  | x :: L, 0, hi => by simp [← h x]
  | x :: L, i + 1, hi => by
    have e : (i + 1) * k = (enc x).length + i * k := by rw [h, Nat.add_mul, Nat.one_mul, Nat.add_comm]
    have := flat_at h d L i (by simpa using hi)
    rw [List.flatMap_cons, e, ← List.drop_drop, List.drop_left, this]
    simp
theorem flat_take {α : Type} {enc : α → List AV} {k : Nat} (h : ∀ x, (enc x).length = k) : ∀ (L : List α) (i : Nat), (L.flatMap enc).take (i * k) = (L.take i).flatMap enc
  | [], i => by simp
  | x :: L, 0 => by simp
  | x :: L, i + 1 => by
    have e : (i + 1) * k = (enc x).length + i * k := by rw [h, Nat.add_mul, Nat.one_mul, Nat.add_comm]
    have := flat_take h L i
    rw [List.flatMap_cons, e, List.take_length_add_append, this]
    simp
theorem flat_drop {α : Type} {enc : α → List AV} {k : Nat} (h : ∀ x, (enc x).length = k) : ∀ (L : List α) (i : Nat), (L.flatMap enc).drop (i * k) = (L.drop i).flatMap enc
  | [], i => by simp
  | x :: L, 0 => by simp
  | x :: L, i + 1 => by
    have e : (i + 1) * k = (enc x).length + i * k := by rw [h, Nat.add_mul, Nat.one_mul, Nat.add_comm]
    have := flat_drop h L i
    rw [List.flatMap_cons, e, List.drop_length_add_append, this]
    simp

section
variable {α : Type} {g g' : Nat → AB} {k : Nat} {enc : α → List AV} {v : AV} {L : List α}
variable {P : Program} {S : Sums} {kf : List KF} {T : Slots} {H : AH} {Q : Post} {l : List MI} {d : Option Nat}

theorem Sl.ln (h : Sl g k enc v L) : Ln P S d l kf T H Q v = Os P S l kf (put T d (.int .i64 L.length)) H Q := by
  obtain ⟨a, c, sl, rfl⟩ := h.shape; exact Ln_s
theorem Sl.ix (h : Sl g k enc v L) {kd : IntKind} {i : Int} (hi : 0 ≤ i ∧ i < L.length) : aixS k v (.int kd i) = some (.ptr (some (sb v, so v + i.toNat * k))) := by
  rcases h.cells with ⟨h1, _⟩ | ⟨c, sl, cs, e, ro, h1, h2, h3, h4, h5⟩
  · subst h1; simp at hi; omega
  · rw [h1]; simp only [aixS, sb_s, so_s]; rw [if_pos hi]
theorem Sl.cN (h : Sl g k enc v L) (df : α) {i : Int} (hi : 0 ≤ i ∧ i < L.length) : cN (g (sb v)) (so v + i.toNat * k) k = some (enc (L.getD i.toNat df)) := by
  rcases h.cells with ⟨h1, _⟩ | ⟨c, sl, cs, e, ro, h1, h2, h3, h4, h5⟩
  · subst h1; simp at hi; omega
  · have hi' : i.toNat < L.length := by omega
    have hm : (i.toNat + 1) * k ≤ L.length * k := Nat.mul_le_mul_right _ hi'
    rw [Nat.add_mul, Nat.one_mul] at hm
    rw [h2, cN_c (by omega), ← flat_at h.el df L _ hi', ← h4, List.drop_take, List.drop_drop, List.take_take, Nat.min_eq_left (by omega)]
theorem Sl.co (h : Sl g k enc v L) (df : α) {i : Int} {o : Nat} (hi : 0 ≤ i ∧ i < L.length) (ho : o < k) : c1 (g (sb v)) (so v + i.toNat * k + o) = (enc (L.getD i.toNat df))[o]? := by
  have := h.cN df hi
  rcases h.cells with ⟨h1, _⟩ | ⟨c, sl, cs, e, ro, h1, h2, h3, h4, h5⟩
  · subst h1; simp at hi; omega
  · rw [h2] at this ⊢
    simp only [Eng.cN] at this
    split at this
    · rw [← Option.some.inj this, List.getElem?_take, if_pos ho, List.getElem?_drop]; rfl
    · cases this
theorem Sl.c0 (h : Sl g k enc v L) (df : α) {i : Int} (hi : 0 ≤ i ∧ i < L.length) (ho : 0 < k) : c1 (g (sb v)) (so v + i.toNat * k) = (enc (L.getD i.toNat df))[0]? := h.co df (o := 0) hi ho
theorem Sl.fc (h : Sl g k enc v L) : firstCellsA g k L.length v = some (L.flatMap enc) := by
  rcases h.cells with ⟨rfl, rfl⟩ | ⟨c, sl, cs, e, ro, h1, h2, h3, h4, h5⟩
  · rfl
  · rw [h1]
    simp only [firstCellsA, cellsAt, h2]
    rw [if_pos h3, h4]
theorem Sl.nil {enc : α → List AV} (h : ∀ x, (enc x).length = k) : Sl g k enc (.slc none 0 0 0) [] := ⟨h, .inl ⟨rfl, rfl⟩⟩
theorem Sl.lenOf (h : Sl g k enc v L) : lenOfA v = some L.length := by obtain ⟨a, c, sl, rfl⟩ := h.shape; rfl
theorem Sl.fr (h : Sl g k enc v L) (hb : g' (sb v) = g (sb v)) : Sl g' k enc v L := ⟨h.el, h.cells.imp id fun ⟨c, sl, cs, e, ro, h1, h2, h3, h4, h5⟩ => ⟨c, sl, cs, e, ro, h1, hb.trans h2, h3, h4, h5⟩⟩
theorem Sl.ro (h : Sl g k enc v L) : Sl (roAll g) k enc v L := ⟨h.el, h.cells.imp id fun ⟨c, sl, cs, e, ro, h1, h2, h3, h4, h5⟩ => ⟨c, sl, cs, e, true, h1, by rw [roAll_at, h2]; rfl, h3, h4, h5⟩⟩
end

/-! ### slices of one's own: they can be written, and appended to -/
structure Own {α : Type} (H : AH) (lo k : Nat) (e : TypeId) (enc : α → List AV) (v : AV) (L : List α) : Prop where
  el : ∀ x, (enc x).length = k
  one : ∀ x, (enc x).all AV.one = true
  hlo : lo ≤ H.n
  cells : (L = [] ∧ v = .slc none 0 0 0) ∨ ∃ c sl cs, v = .slc (some (sb v, 0)) L.length c sl ∧ lo ≤ sb v ∧ sb v < H.n ∧ H.g (sb v) = .cells cs e false ∧ cs.length = c * k ∧ L.length ≤ c ∧ cs.take (L.length * k) = L.flatMap enc ∧ (sl = 0 ∨ sl = k)

section
variable {α : Type} {H H' : AH} {lo k : Nat} {e : TypeId} {enc : α → List AV} {v : AV} {L : List α}
variable {P : Program} {S : Sums} {kf : List KF} {T : Slots} {Q : Post} {l : List MI} {d : Option Nat}

theorem Own.so (h : Own H lo k e enc v L) : so v = 0 := by
  rcases h.cells with ⟨_, rfl⟩ | ⟨c, sl, cs, h1, _⟩
  · rfl
  · rw [h1]; rfl
theorem Own.sl (h : Own H lo k e enc v L) : Sl H.g k enc v L := by
  refine ⟨h.el, ?_⟩
  rcases h.cells with h1 | ⟨c, sl, cs, h1, h2, h3, h4, h5, h6, h7, h8⟩
  · exact .inl h1
  · have := Nat.mul_le_mul_right k h6
    exact .inr ⟨c, sl, cs, e, false, by rw [h.so]; exact h1, h4, by rw [h.so]; omega, by rw [h.so]; exact h7, h6, h8⟩
theorem Own.fr (h : Own H lo k e enc v L) (hn : H.n ≤ H'.n) (hb : ∀ b, lo ≤ b → b < H.n → H'.g b = H.g b) : Own H' lo k e enc v L := by
  refine ⟨h.el, h.one, Nat.le_trans h.hlo hn, ?_⟩
  rcases h.cells with h1 | ⟨c, sl, cs, h1, h2, h3, h4, h5⟩
  · exact .inl h1
  · exact .inr ⟨c, sl, cs, h1, h2, by omega, by rw [hb _ h2 h3]; exact h4, h5⟩
theorem Own.weak {lo' : Nat} (h : Own H lo k e enc v L) (hl : lo' ≤ lo) : Own H lo' k e enc v L := by
  refine ⟨h.el, h.one, Nat.le_trans hl h.hlo, ?_⟩
  rcases h.cells with h1 | ⟨c, sl, cs, h1, h2, h3⟩
  · exact .inl h1
  · exact .inr ⟨c, sl, cs, h1, by omega, h3⟩
/-- it lies in a block of its own, or is nil -/
theorem Own.lt (h : Own H lo k e enc v L) (hL : 0 < L.length) : lo ≤ sb v ∧ sb v < H.n := by
  rcases h.cells with ⟨rfl, _⟩ | ⟨c, sl, cs, h1, h2, h3, _⟩
  · simp at hL
  · exact ⟨h2, h3⟩
theorem Own.nil (h : ∀ x, (enc x).length = k) (h1 : ∀ x, (enc x).all AV.one = true) (hlo : lo ≤ H.n) : Own H lo k e enc (.slc none 0 0 0) [] := ⟨h, h1, hlo, .inl ⟨rfl, rfl⟩⟩

/-- one element is written -/
def wr1 (x : AB) (o : Nat) (v : AV) : AB := match x with | .cells cs e ro => .cells (cs.set o v) e ro | x => x
def wrN (x : AB) (o : Nat) (vs : List AV) : AB := match x with | .cells cs e ro => .cells (lay cs o vs) e ro | x => x
theorem Own.st1 (h : Own H lo k e enc v L) {i : Int} {o : Nat} (hi : 0 ≤ i ∧ i < L.length) (ho : o < k) {x : AV} :
    Eng.st1 (H.g (sb v)) (sb v) (Eng.so v + i.toNat * k + o) x = some (.val .undef { ws := [(sb v, wr1 (H.g (sb v)) (Eng.so v + i.toNat * k + o) x)] }) := by
  rcases h.cells with ⟨h1, _⟩ | ⟨c, sl, cs, h1, h2, h3, h4, h5, h6, h7, h8⟩
  · subst h1; simp at hi; omega
  · have hi' : i.toNat < L.length := by omega
    have hm : (i.toNat + 1) * k ≤ c * k := Nat.mul_le_mul_right _ (by omega)
    rw [Nat.add_mul, Nat.one_mul] at hm
    rw [h4, h.so, st1_c (Nat.ble_eq_true_of_le (by omega))]; rfl
theorem Own.st0 (h : Own H lo k e enc v L) {i : Int} (hi : 0 ≤ i ∧ i < L.length) (ho : 0 < k) {x : AV} :
    Eng.st1 (H.g (sb v)) (sb v) (Eng.so v + i.toNat * k) x = some (.val .undef { ws := [(sb v, wr1 (H.g (sb v)) (Eng.so v + i.toNat * k) x)] }) := h.st1 (o := 0) hi ho
theorem Own.stN (h : Own H lo k e enc v L) {i : Int} (hi : 0 ≤ i ∧ i < L.length) {xs : List AV} (hx : xs.length = k) :
    Eng.stN (H.g (sb v)) (sb v) (Eng.so v + i.toNat * k) xs = some (.val .undef { ws := [(sb v, wrN (H.g (sb v)) (Eng.so v + i.toNat * k) xs)] }) := by
  rcases h.cells with ⟨h1, _⟩ | ⟨c, sl, cs, h1, h2, h3, h4, h5, h6, h7, h8⟩
  · subst h1; simp at hi; omega
  · have hi' : i.toNat < L.length := by omega
    have hm : (i.toNat + 1) * k ≤ c * k := Nat.mul_le_mul_right _ (by omega)
    rw [Nat.add_mul, Nat.one_mul] at hm
    rw [h4, h.so, stN_c (by omega)]; rfl
theorem take_lay {cs xs : List AV} {o n : Nat} (h1 : o + xs.length ≤ n) (h2 : n ≤ cs.length) : (lay cs o xs).take n = lay (cs.take n) o xs := by
  have e : lay cs o xs = cs.take o ++ xs ++ cs.drop (o + xs.length) := rfl
  have e2 : lay (cs.take n) o xs = (cs.take n).take o ++ xs ++ (cs.take n).drop (o + xs.length) := rfl
  rw [e, e2, List.take_take, Nat.min_eq_left (by omega)]
  have hl : (cs.take o ++ xs).length = o + xs.length := by rw [List.length_append, List.length_take]; omega
  have hn : n = (cs.take o ++ xs).length + (n - (o + xs.length)) := by rw [hl]; omega
  rw [hn, List.take_length_add_append, ← hn, List.drop_take]
theorem lay_flat (hk : ∀ x, (enc x).length = k) : ∀ (L : List α) (i : Nat) (y : α), i < L.length → lay (L.flatMap enc) (i * k) (enc y) = (L.set i y).flatMap enc
  | [], i, y, h => by simp at h
  | x :: L, 0, y, h => by
    have h1 := hk x; have h2 := hk y
    simp only [lay, List.flatMap_cons, List.set_cons_zero, Nat.zero_mul, List.take_zero, List.nil_append, Nat.zero_add]
    rw [h2, ← h1, List.drop_left]
  | x :: L, i + 1, y, h => by
    have ih := lay_flat hk L i y (by simpa using h)
    have e : (i + 1) * k = (enc x).length + i * k := by rw [hk, Nat.add_mul, Nat.one_mul, Nat.add_comm]
    simp only [lay, List.flatMap_cons, List.set_cons_succ] at ih ⊢
    rw [e, List.take_length_add_append, Nat.add_assoc, List.drop_length_add_append, List.append_assoc, List.append_assoc, ← List.append_assoc (List.take _ _), ih]
theorem Own.wrN (h : Own H lo k e enc v L) {i : Int} (hi : 0 ≤ i ∧ i < L.length) (y : α) : Own ⟨upd H.g (sb v) (Eng.wrN (H.g (sb v)) (Eng.so v + i.toNat * k) (enc y)), H.n⟩ lo k e enc v (L.set i.toNat y) := by
  refine ⟨h.el, h.one, h.hlo, ?_⟩
  rcases h.cells with ⟨h1, _⟩ | ⟨c, sl, cs, h1, h2, h3, h4, h5, h6, h7, h8⟩
  · subst h1; simp at hi; omega
  · have hi' : i.toNat < L.length := by omega
    have hm : (i.toNat + 1) * k ≤ L.length * k := Nat.mul_le_mul_right _ (by omega)
    have hm2 : L.length * k ≤ c * k := Nat.mul_le_mul_right _ (by omega)
    rw [Nat.add_mul, Nat.one_mul] at hm
    have el := h.el y
    refine .inr ⟨c, sl, lay cs (i.toNat * k) (enc y), by simpa using h1, h2, h3, ?_, ?_, by simpa using h6, ?_, h8⟩
    · show upd H.g (sb v) _ (sb v) = _
      rw [upd_same, h4, h.so, Nat.zero_add]; rfl
    · rw [lay_length (by omega)]; exact h5
    · rw [List.length_set, take_lay (by omega) (by omega), h7, lay_flat h.el _ _ _ hi']
theorem set_lay {cs xs : List AV} {o j : Nat} {x : AV} (h1 : o + xs.length ≤ cs.length) (h2 : (cs.drop o).take xs.length = xs) (hj : j < xs.length) : cs.set (o + j) x = lay cs o (xs.set j x) := by
  apply List.ext_getElem?
  intro i
  unfold lay
  rw [List.getElem?_set]
  by_cases h : i < o
  · rw [List.append_assoc, List.getElem?_append_left (by rw [List.length_take]; omega), List.getElem?_take, if_pos h, if_neg (by omega)]
  · rw [List.append_assoc, List.getElem?_append_right (by rw [List.length_take]; omega), List.length_take, Nat.min_eq_left (by omega)]
    by_cases h' : i - o < xs.length
    · rw [List.getElem?_append_left (by rw [List.length_set]; omega), List.getElem?_set]
      by_cases hij : o + j = i
      · rw [if_pos hij, if_pos (by omega : j = i - o), if_pos (by omega), if_pos (by omega)]
      · rw [if_neg hij, if_neg (by omega : ¬ j = i - o)]
        have : (xs[i - o]? : Option AV) = cs[i]? := by
          rw [← h2, List.getElem?_take, if_pos (by simpa [h2] using h'), List.getElem?_drop]; congr 1; omega
        exact this.symm
    · rw [List.getElem?_append_right (by rw [List.length_set]; omega), List.length_set, List.getElem?_drop, if_neg (by omega)]
      congr 1; omega
theorem Own.wr1 (h : Own H lo k e enc v L) {i : Int} {o : Nat} (hi : 0 ≤ i ∧ i < L.length) (ho : o < k) (df : α) {x : AV} (y : α) (hy : (enc (L.getD i.toNat df)).set o x = enc y) : Own ⟨upd H.g (sb v) (Eng.wr1 (H.g (sb v)) (Eng.so v + i.toNat * k + o) x), H.n⟩ lo k e enc v (L.set i.toNat y) := by
  have hw := h.wrN hi y
  suffices e : Eng.wr1 (H.g (sb v)) (Eng.so v + i.toNat * k + o) x = Eng.wrN (H.g (sb v)) (Eng.so v + i.toNat * k) (enc y) by rw [e]; exact hw
  rcases h.cells with ⟨h1, _⟩ | ⟨c, sl, cs, h1, h2, h3, h4, h5, h6, h7, h8⟩
  · subst h1; simp at hi; omega
  · have hi' : i.toNat < L.length := by omega
    have hm : (i.toNat + 1) * k ≤ L.length * k := Nat.mul_le_mul_right _ (by omega)
    have hm2 : L.length * k ≤ c * k := Nat.mul_le_mul_right _ (by omega)
    rw [Nat.add_mul, Nat.one_mul] at hm
    rw [h4]
    simp only [Eng.wr1, Eng.wrN]
    have el := h.el (L.getD i.toNat df)
    rw [set_lay (xs := enc (L.getD i.toNat df)) (by rw [h.so]; omega) ?_ (by omega), hy]
    rw [el, ← flat_at h.el df L _ hi', ← h7, h.so, List.drop_take, List.take_take, Nat.zero_add, Nat.min_eq_left (by omega)]
theorem Own.wr0 (h : Own H lo k e enc v L) {i : Int} (hi : 0 ≤ i ∧ i < L.length) (ho : 0 < k) (df : α) {x : AV} (y : α) (hy : (enc (L.getD i.toNat df)).set 0 x = enc y) : Own ⟨upd H.g (sb v) (Eng.wr1 (H.g (sb v)) (Eng.so v + i.toNat * k) x), H.n⟩ lo k e enc v (L.set i.toNat y) := h.wr1 (o := 0) hi ho df y hy

/-- what is made is one's own -/
theorem zerosA_len {z : List AV} : ∀ n : Nat, (zerosA z n).length = n * z.length
  | 0 => by simp [zerosA]
  | n + 1 => by rw [zerosA, List.length_append, zerosA_len n, Nat.add_mul, Nat.one_mul, Nat.add_comm]
theorem zerosA_flat (x : α) : ∀ n : Nat, zerosA (enc x) n = (List.replicate n x).flatMap enc
  | 0 => rfl
  | n + 1 => by rw [zerosA, zerosA_flat x n, List.replicate_succ, List.flatMap_cons]
theorem Own.mks {g : Nat → AB} {n m : Nat} {cs : List AV} (el : ∀ x, (enc x).length = k) (one : ∀ x, (enc x).all AV.one = true) (hlo : lo ≤ n) (hnm : n < m) {c : Nat} (hc : L.length ≤ c) (hcs : cs.length = c * k) (ht : cs.take (L.length * k) = L.flatMap enc) (hb : g n = .cells cs e false) :
    Own ⟨g, m⟩ lo k e enc (.slc (some (n, 0)) L.length c 0) L :=
  ⟨el, one, Nat.le_trans hlo (Nat.le_of_lt hnm), .inr ⟨c, 0, cs, rfl, hlo, hnm, hb, hcs, hc, ht, .inl rfl⟩⟩

/-- AN APPEND: what is left: the slice, and more; nothing else is touched. -/
theorem Os_app (h : Own H lo k e enc v L) {X : List α} {x : AV} (hx : Sl H.g k enc x X) (hk : 0 < k) {bytes : Nat} (hsz : (L.length + X.length) * bytes ≤ 1099511627776 ∧ L.length + X.length ≤ 1099511627776)
    (cont : ∀ v' H', Own H' lo k e enc v' (L ++ X) → H.n ≤ H'.n → (∀ b, b < H.n → (b ≠ sb v ∨ b < lo) → H'.g b = H.g b) → (sb v' = sb v ∨ H.n ≤ sb v' ∨ v' = .slc none 0 0 0) → Os P S l kf (put T d v') H' Q) :
    Rs P S d l kf T H Q (aapp H.g H.n e k bytes v x) := by
  have hxl := hx.lenOf
  have hxc := hx.fc
  have hone : (X.flatMap enc).all AV.one = true := by
    simp only [List.all_eq_true, List.mem_flatMap]
    rintro a ⟨y, hy, ha⟩
    exact List.all_eq_true.mp (h.one y) a ha
  have hXl := flat_len h.el X
  have hLl := flat_len h.el L
  rcases h.cells with ⟨rfl, rfl⟩ | ⟨c, sl, cs, h1, h2, h3, h4, h5, h6, h7, h8⟩
  · -- nil
    by_cases hX : X.length = 0
    · have : X = [] := List.eq_nil_of_length_eq_zero hX
      subst this
      have e : aapp H.g H.n e k bytes (.slc none 0 0 0) x = some (.pure (.slc none 0 0 0)) := by
        have hxl' : lenOfA x = some 0 := hxl
        have hxc' : firstCellsA H.g k 0 x = some [] := hxc
        simp only [aapp, hxl', hxc']; rfl
      rw [e]
      exact cont _ _ (Own.nil h.el h.one h.hlo) (Nat.le_refl _) (fun _ _ _ => rfl) (.inr (.inr rfl))
    · have e1 : aapp H.g H.n e k bytes (.slc none 0 0 0) x = some (.val (.slc (some (H.n, 0)) (0 + X.length) (0 + X.length) k) { new := some (.cells (X.flatMap enc) e false) }) := by
        simp only [aapp, hxl, hxc, hone, Bool.true_eq_false, if_false]
        rw [if_neg (by omega), if_pos ⟨by simpa [tooMany] using hsz.1, by simpa [tooMany] using hsz.2, by simp⟩]
        simp
      rw [e1]
      refine cont _ _ ⟨h.el, h.one, Nat.le_succ_of_le h.hlo, .inr ⟨X.length, k, X.flatMap enc, by simp [sb_s], h.hlo, Nat.lt_succ_self _, upd_same _ _ _, hXl, by simp, by simp only [List.nil_append]; rw [← hXl, List.take_length], .inr rfl⟩⟩ (Nat.le_succ _) ?_ (.inr (.inl (by simp [sb_s])))
      intro b hb _
      show upd H.g H.n _ b = _
      rw [upd_ne _ _ (by omega)]
  · by_cases hroom : L.length + X.length ≤ c
    · have hfit : L.length * k + (X.flatMap enc).length ≤ cs.length := by
        have := Nat.mul_le_mul_right k hroom
        rw [Nat.add_mul] at this
        rw [hXl, h5]; exact this
      have e1 : aapp H.g H.n e k bytes v x = some (.val (.slc (some (sb v, 0)) (L.length + X.length) c sl) { ws := [(sb v, .cells (lay cs (L.length * k) (X.flatMap enc)) e false)] }) := by
        rw [h1]
        simp only [aapp, hxl, hxc, hone, Bool.true_eq_false, if_false, sb_s]
        rw [if_pos hroom]
        simp only [setCells, h4, Nat.zero_add]
        rw [if_pos hfit]; rfl
      rw [e1]
      refine cont _ _ ⟨h.el, h.one, h.hlo, .inr ⟨c, sl, _, by simp [sb_s], h2, h3, upd_same _ _ _, by rw [lay_length hfit]; exact h5, by simpa using hroom, ?_, h8⟩⟩ (Nat.le_refl _) ?_ (.inl rfl)
      · rw [List.length_append, Nat.add_mul, List.flatMap_append]
        have : lay cs (L.length * k) (X.flatMap enc) = (cs.take (L.length * k) ++ X.flatMap enc) ++ cs.drop (L.length * k + (X.flatMap enc).length) := rfl
        rw [this, List.take_append_of_le_length (by rw [List.length_append, List.length_take, hXl]; omega), h7, List.take_of_length_le (by rw [List.length_append, hLl, hXl]; omega)]
      · intro b hb hne
        show upd H.g (sb v) _ b = _
        rw [upd_ne _ _ (by omega)]
    · have hold : cellsAt H.g (sb v) 0 (L.length * k) = some (L.flatMap enc) := by
        have := Nat.mul_le_mul_right k h6
        simp only [cellsAt, h4]
        rw [if_pos (by omega), List.drop_zero, h7]
      have e1 : aapp H.g H.n e k bytes v x = some (.val (.slc (some (H.n, 0)) (L.length + X.length) (L.length + X.length) k) { ws := [(sb v, .dead)], new := some (.cells (L.flatMap enc ++ X.flatMap enc) e false) }) := by
        rw [h1]
        simp only [aapp, hxl, hxc, hone, Bool.true_eq_false, if_false, sb_s]
        rw [if_neg hroom, if_pos ⟨by simpa [tooMany] using hsz.1, by simpa [tooMany] using hsz.2, h8⟩]
        simp only [h4, hold, if_true]
      rw [e1]
      refine cont _ _ ⟨h.el, h.one, Nat.le_succ_of_le h.hlo, .inr ⟨L.length + X.length, k, _, by simp [sb_s], h.hlo, Nat.lt_succ_self _, upd_same _ _ _, by rw [List.length_append, hLl, hXl, Nat.add_mul], by simp, ?_, .inr rfl⟩⟩ (Nat.le_succ _) ?_ (.inr (.inl (by simp [sb_s])))
      · rw [List.length_append, List.flatMap_append, List.take_of_length_le (by rw [List.length_append, hLl, hXl, Nat.add_mul]; omega)]
      · intro b hb hne
        show upd (upd H.g (sb v) _) H.n _ b = _
        rw [upd_ne _ _ (by omega), upd_ne _ _ (by omega)]
end
end Go.Eng
namespace Go.Eng
set_option linter.unusedVariables false
set_option linter.unusedSimpArgs false

/-- a cell that can be written -/
def okw (x : AB) (o : Nat) : Prop := ∃ cs e, x = .cells cs e false ∧ o < cs.length
theorem okw_wr {x : AB} {o o' : Nat} {v : AV} : okw (wr1 x o' v) o = okw x o := by
  apply propext; constructor
  · rintro ⟨cs, e, h1, h2⟩
    cases x with
    | cells cs' e' ro => simp only [wr1] at h1; cases h1; exact ⟨_, _, rfl, by simpa using h2⟩
    | _ => simp [wr1] at h1
  · rintro ⟨cs, e, rfl, h2⟩; exact ⟨_, _, rfl, by simpa using h2⟩
theorem st1_ok {x : AB} {b o : Nat} {v : AV} (h : okw x o) : st1 x b o v = some (.val .undef { ws := [(b, wr1 x o v)] }) := by
  obtain ⟨cs, e, rfl, h2⟩ := h
  rw [st1_c (Nat.ble_eq_true_of_le h2)]; rfl
theorem c1_wr_ne {x : AB} {o o' : Nat} {v : AV} (h : o' ≠ o) : c1 (wr1 x o v) o' = c1 x o' := by
  cases x <;> simp [wr1, c1, List.getElem?_set, Ne.symm h]
theorem c1_wr_same {x : AB} {o : Nat} {v : AV} (h : okw x o) : c1 (wr1 x o v) o = some v := by
  obtain ⟨cs, e, rfl, h2⟩ := h
  simp [wr1, c1, List.getElem?_set, h2]

section
variable {α : Type} {H H' : AH} {lo k : Nat} {e : TypeId} {enc : α → List AV} {v : AV} {L : List α}
theorem Own.okw (h : Own H lo k e enc v L) {i : Int} {o : Nat} (hi : 0 ≤ i ∧ i < L.length) (ho : o < k) : Eng.okw (H.g (sb v)) (Eng.so v + i.toNat * k + o) := by
  rcases h.cells with ⟨h1, _⟩ | ⟨c, sl, cs, h1, h2, h3, h4, h5, h6, h7, h8⟩
  · subst h1; simp at hi; omega
  · have hi' : i.toNat < L.length := by omega
    have hm : (i.toNat + 1) * k ≤ c * k := Nat.mul_le_mul_right _ (by omega)
    rw [Nat.add_mul, Nat.one_mul] at hm
    exact ⟨cs, e, h4, by rw [h.so]; omega⟩
theorem Own.okw0 (h : Own H lo k e enc v L) {i : Int} (hi : 0 ≤ i ∧ i < L.length) (ho : 0 < k) : Eng.okw (H.g (sb v)) (Eng.so v + i.toNat * k) := h.okw (o := 0) hi ho
theorem Own.lt' (h : Own H lo k e enc v L) (h0 : 0 < H.n) : sb v < H.n := by
  rcases h.cells with ⟨_, rfl⟩ | ⟨c, sl, cs, h1, h2, h3, _⟩
  · exact h0
  · exact h3
end

theorem Fr.old {g : Nat → AB} {n : Nat} {H' : AH} (h : Fr No ⟨g, n⟩ H') {b : Nat} (hb : b < n) : H'.g b = g b := h.same b hb (fun h => h)
theorem Fr.at {H H' : AH} (h : Fr No H H') {b : Nat} (hb : b < H.n) : H'.g b = H.g b := h.same b hb (fun h => h)
theorem Fr.le {M : Nat → Prop} {g : Nat → AB} {n : Nat} {H' : AH} (h : Fr M ⟨g, n⟩ H') : n ≤ H'.n := h.n
/-- what isn't below some number stays -/
theorem Fr.oldM {M : Nat → Prop} {g : Nat → AB} {n : Nat} {H' : AH} (h : Fr M ⟨g, n⟩ H') {lo : Nat} (hM : ∀ b, M b → b < lo) {b : Nat} (hb : lo ≤ b ∧ b < n) : H'.g b = g b := h.same b hb.2 (fun h1 => by have := hM b h1; omega)

/-! ### copies -/
def tiSl (P : Program) (t : TypeId) : Bool := match ti P t with | some i => (match i.desc with | .slice _ => true | _ => false) | none => false
theorem b_eqnil {P : Program} {t : TypeId} (h : tiSl P t = true) {a : Option (Nat × Nat)} {l c s : Nat} : abin P .eql t (.slc a l c s) (.slc none 0 0 0) = some (.bool a.isNone) := by
  unfold tiSl at h
  cases hi : ti P t with
  | none => rw [hi] at h; cases h
  | some i =>
    rw [hi] at h
    simp only at h
    split at h
    · rename_i hd
      cases a with
      | none => simp [abin, aeql, hi, hd]
      | some p => simp [abin, aeql, hi, hd]
    · cases h

/-- slices.Clone's code -/
def cloneMC (e : TypeId) (z : List AV) (k bytes : Nat) (t : TypeId) : MC :=
  (.seq (.ops [⟨some 2, none, .mov (.c (.slc none 0 0 0))⟩]) (.seq (.seq (.ops [⟨some 3, none, .mov (.t 0)⟩, ⟨some 4, none, .bin .eql t (.t 3) (.c (.slc none 0 0 0))⟩]) (.cond (.t 4) (.seq (.ops [⟨some 2, none, .mov (.c (.slc none 0 0 0))⟩]) .ret) .skip))
    (.seq (.ops [⟨some 5, none, .buildS e z 0 []⟩, ⟨some 6, none, .mov (.t 0)⟩, ⟨some 7, none, .app e k bytes (.t 5) (.t 6)⟩, ⟨some 2, none, .mov (.t 7)⟩]) .ret)))

theorem Acalls.clone {P : Program} {S : Sums} {f np : Nat} {e t : TypeId} {z : List AV} {k bytes : Nat} {α : Type} {enc : α → List AV} {v : AV} {L : List α} {H : AH}
    (hm : cFn P S f = some ⟨np, cloneMC e z k bytes t, [.t 2]⟩) (hnp : Nat.ble 1 np = true) (ht : tiSl P t = true) (hone : ∀ x, (enc x).all AV.one = true) (hk : 0 < k) (hs : Sl H.g k enc v L) (hv : sb v < H.n) (hsz : L.length * bytes ≤ 1099511627776 ∧ L.length ≤ 1099511627776) :
    Acalls P S f [v] H fun v' H' => Own H' H.n k e enc v' L ∧ Fr No H H' := by
  refine Acalls.go hm hnp ?_
  rw [slots0_1]; unfold cloneMC
  rcases hs.cells with ⟨rfl, rfl⟩ | ⟨c, sl, cs, en, ro, h1, h2, h3, h4, _⟩
  · simp (disch := omega) only [RC, RO, b_eqnil ht, Option.isNone_none]
    exact ⟨Own.nil hs.el hone (Nat.le_refl _), Fr.refl _⟩
  · obtain ⟨b, o, hv1⟩ : ∃ b o, v = .slc (some (b, o)) L.length c sl := ⟨_, _, h1⟩
    subst hv1
    simp (disch := omega) only [RC, RO, b_eqnil ht, Option.isNone_some, zerosA, fillA]
    have hown : Own ⟨upd H.g H.n (.cells [] e false), H.n + 1⟩ H.n k e enc (.slc (some (H.n, 0)) 0 0 0) ([] : List α) :=
      Own.mks (L := []) hs.el hone (Nat.le_refl _) (Nat.lt_succ_self _) (Nat.le_refl _) (by simp) (by simp) (upd_same _ _ _)
    refine Os_app hown (X := L) (hs.fr (upd_ne _ _ (by have : sb (.slc (some (b, o)) L.length c sl) = b := rfl; omega))) hk (by simpa using hsz) ?_
    intro v' H' hw hn hb hs2
    simp (disch := omega) only [RC, RO]
    refine ⟨by simpa using hw, ⟨by have : H.n + 1 ≤ H'.n := hn; omega, fun b' hb' _ => ?_⟩⟩
    have : H'.g b' = upd H.g H.n (.cells [] e false) b' := hb b' (Nat.lt_succ_of_lt hb') (.inr hb')
    rw [this, upd_ne _ _ (by omega)]
end Go.Eng
namespace Go.Eng
set_option linter.unusedVariables false
set_option linter.unusedSimpArgs false

theorem u64_wrap {x : Int} (h : 0 ≤ x ∧ x ≤ 18446744073709551615) : IntKind.u64.wrap x = x := by
  unfold IntKind.wrap; simp [IntKind.signed, IntKind.bits]; omega
theorem u32_wrap {x : Int} (h : 0 ≤ x ∧ x ≤ 4294967295) : IntKind.u32.wrap x = x := by
  unfold IntKind.wrap; simp [IntKind.signed, IntKind.bits]; omega
theorem u8_wrap {x : Int} (h : 0 ≤ x ∧ x ≤ 255) : IntKind.u8.wrap x = x := by
  unfold IntKind.wrap; simp [IntKind.signed, IntKind.bits]; omega
theorem u8_wrap_nat {x : Nat} : IntKind.u8.wrap (x : Int) = ((x % 256 : Nat) : Int) := by
  unfold IntKind.wrap; simp [IntKind.signed, IntKind.bits]
theorem u64_wrap_mod {x : Int} : IntKind.u64.wrap x = x % 18446744073709551616 := by
  unfold IntKind.wrap; simp [IntKind.signed, IntKind.bits]
theorem u32_wrap_mod {x : Int} : IntKind.u32.wrap x = x % 4294967296 := by
  unfold IntKind.wrap; simp [IntKind.signed, IntKind.bits]
theorem u8_wrap_mod {x : Int} : IntKind.u8.wrap x = x % 256 := by
  unfold IntKind.wrap; simp [IntKind.signed, IntKind.bits]

section
variable {P : Program} {t : TypeId}
theorem ofInt_toNat {n a : Nat} (h : a < 2 ^ n) : (BitVec.ofInt n (a : Int)) = BitVec.ofNat n a := by
  apply BitVec.eq_of_toNat_eq; simp [BitVec.toNat_ofInt, BitVec.toNat_ofNat]
theorem b_xor32 {a b : Nat} (ha : a < 4294967296 ∧ b < 4294967296) : abin P .xor t (.int .u32 a) (.int .u32 b) = some (.int .u32 ((a ^^^ b : Nat) : Int)) := by
  have h : a ^^^ b < 2 ^ 32 := Nat.xor_lt_two_pow (by omega) (by omega)
  simp only [abin, aint, if_true]
  rw [show IntKind.u32.bits = 32 from rfl, ofInt_toNat (by omega), ofInt_toNat (by omega), BitVec.toNat_xor, BitVec.toNat_ofNat, BitVec.toNat_ofNat, Nat.mod_eq_of_lt (a := a) (by omega), Nat.mod_eq_of_lt (a := b) (by omega), u32_wrap (by omega)]
theorem u_xor32 {a : Nat} (ha : a < 4294967296) : aun .xor (.int .u32 a) = some (.int .u32 ((4294967295 ^^^ a : Nat) : Int)) := by
  have h : 4294967295 ^^^ a < 2 ^ 32 := Nat.xor_lt_two_pow (by omega) (by omega)
  simp only [aun, IntKind.signed, Bool.false_eq_true, if_false, aint]
  rw [show IntKind.u32.max = ((4294967295 : Nat) : Int) from rfl, show IntKind.u32.bits = 32 from rfl, ofInt_toNat (by omega), ofInt_toNat (by omega), BitVec.toNat_xor, BitVec.toNat_ofNat, BitVec.toNat_ofNat, Nat.mod_eq_of_lt (a := 4294967295) (by omega), Nat.mod_eq_of_lt (a := a) (by omega), u32_wrap (by omega)]
theorem b_and1 {a : Nat} (ha : a < 4294967296) : abin P .and t (.int .u32 a) (.int .u32 1) = some (.int .u32 ((a % 2 : Nat) : Int)) := by
  simp only [abin, aint, if_true]
  rw [show IntKind.u32.bits = 32 from rfl, show (1 : Int) = ((1 : Nat) : Int) from rfl, ofInt_toNat (by omega), ofInt_toNat (by omega), BitVec.toNat_and, BitVec.toNat_ofNat, BitVec.toNat_ofNat, Nat.mod_eq_of_lt (a := a) (by omega), Nat.mod_eq_of_lt (a := 1) (by omega), Nat.and_one_is_mod, u32_wrap (by omega)]
theorem b_shr1 {a : Nat} : abin P .shr t (.int .u32 a) (.int .u64 1) = some (.int .u32 ((a / 2 : Nat) : Int)) := by
  simp only [abin, ashift]
  rw [if_neg (by omega)]
  simp only [show IntKind.u32.bits = 32 from rfl, show min (1 : Int).toNat 32 = 1 from rfl]
  rw [show ((2 : Int) ^ 1) = 2 from rfl, Int.fdiv_eq_ediv_of_nonneg _ (by omega)]; rfl
theorem pow8 (i : Nat) : 2 ^ (8 * i) = 256 ^ i := by rw [Nat.pow_mul]
theorem b_shr8 {a i : Nat} (h : i < 8) : abin P .shr t (.int .u64 a) (.int .u64 (8 * (i : Int))) = some (.int .u64 ((a / 256 ^ i : Nat) : Int)) := by
  simp only [abin, ashift]
  rw [if_neg (by omega)]
  simp only [show IntKind.u64.bits = 64 from rfl]
  rw [show min ((8 : Int) * i).toNat 64 = 8 * i by omega, Int.fdiv_eq_ediv_of_nonneg _ (by exact_mod_cast Nat.zero_le _), show ((2 : Int) ^ (8 * i)) = ((2 ^ (8 * i) : Nat) : Int) by simp, pow8]; rfl
theorem b_shr8_32 {a i : Nat} (h : i < 4) : abin P .shr t (.int .u32 a) (.int .u64 (8 * (i : Int))) = some (.int .u32 ((a / 256 ^ i : Nat) : Int)) := by
  simp only [abin, ashift]
  rw [if_neg (by omega)]
  simp only [show IntKind.u32.bits = 32 from rfl]
  rw [show min ((8 : Int) * i).toNat 32 = 8 * i by omega, Int.fdiv_eq_ediv_of_nonneg _ (by exact_mod_cast Nat.zero_le _), show ((2 : Int) ^ (8 * i)) = ((2 ^ (8 * i) : Nat) : Int) by simp, pow8]; rfl
theorem mul256 {a i n : Nat} (ha : a < 256) (hi : i < n) : a * 256 ^ i < 256 ^ n := by
  have h1 : a * 256 ^ i < 256 * 256 ^ i := Nat.mul_lt_mul_of_pos_right ha (Nat.pow_pos (by omega))
  have h2 : 256 * 256 ^ i = 256 ^ (i + 1) := by rw [Nat.pow_succ, Nat.mul_comm]
  have h3 : 256 ^ (i + 1) ≤ 256 ^ n := Nat.pow_le_pow_right (by omega) hi
  omega
theorem b_shl8 {a i : Nat} (h : i < 8 ∧ a < 256) : abin P .shl t (.int .u64 a) (.int .u64 (8 * (i : Int))) = some (.int .u64 ((a * 256 ^ i : Nat) : Int)) := by
  have hm := mul256 h.2 h.1
  simp only [abin, ashift]
  rw [if_neg (by omega)]
  simp only [show IntKind.u64.bits = 64 from rfl]
  rw [show min ((8 : Int) * i).toNat 64 = 8 * i by omega, show ((2 : Int) ^ (8 * i)) = ((2 ^ (8 * i) : Nat) : Int) by simp, pow8, ← Int.natCast_mul, u64_wrap (by omega)]
theorem b_shl8_32 {a i : Nat} (h : i < 4 ∧ a < 256) : abin P .shl t (.int .u32 a) (.int .u64 (8 * (i : Int))) = some (.int .u32 ((a * 256 ^ i : Nat) : Int)) := by
  have hm := mul256 h.2 h.1
  simp only [abin, ashift]
  rw [if_neg (by omega)]
  simp only [show IntKind.u32.bits = 32 from rfl]
  rw [show min ((8 : Int) * i).toNat 32 = 8 * i by omega, show ((2 : Int) ^ (8 * i)) = ((2 ^ (8 * i) : Nat) : Int) by simp, pow8, ← Int.natCast_mul, u32_wrap (by omega)]
theorem or_add {x a i : Nat} (hx : x < 256 ^ i) : x ||| a * 256 ^ i = x + a * 256 ^ i := by
  rw [← pow8] at hx ⊢
  have := Nat.shiftLeft_add_eq_or_of_lt hx a
  rw [Nat.shiftLeft_eq] at this
  rw [Nat.or_comm, ← this, Nat.add_comm]
theorem b_or8 {x a i : Nat} (h : x < 256 ^ i) (h2 : i < 8 ∧ a < 256) : abin P .or t (.int .u64 x) (.int .u64 ((a * 256 ^ i : Nat) : Int)) = some (.int .u64 ((x + a * 256 ^ i : Nat) : Int)) := by
  have hm := mul256 h2.2 h2.1
  have h3 : x < 256 ^ 8 := Nat.lt_of_lt_of_le h (Nat.pow_le_pow_right (by omega) (by omega))
  have h4 : x + a * 256 ^ i < 2 ^ 64 := by rw [← or_add h]; exact Nat.or_lt_two_pow (by omega) (by omega)
  simp only [abin, aint, if_true]
  rw [show IntKind.u64.bits = 64 from rfl, ofInt_toNat (by omega), ofInt_toNat (by omega), BitVec.toNat_or, BitVec.toNat_ofNat, BitVec.toNat_ofNat, Nat.mod_eq_of_lt (a := x) (by omega), Nat.mod_eq_of_lt (a := a * 256 ^ i) (by omega), or_add h, u64_wrap (by omega)]
theorem b_or8_32 {x a i : Nat} (h : x < 256 ^ i) (h2 : i < 4 ∧ a < 256) : abin P .or t (.int .u32 x) (.int .u32 ((a * 256 ^ i : Nat) : Int)) = some (.int .u32 ((x + a * 256 ^ i : Nat) : Int)) := by
  have hm := mul256 h2.2 h2.1
  have h3 : x < 256 ^ 4 := Nat.lt_of_lt_of_le h (Nat.pow_le_pow_right (by omega) (by omega))
  have h4 : x + a * 256 ^ i < 2 ^ 32 := by rw [← or_add h]; exact Nat.or_lt_two_pow (by omega) (by omega)
  simp only [abin, aint, if_true]
  rw [show IntKind.u32.bits = 32 from rfl, ofInt_toNat (by omega), ofInt_toNat (by omega), BitVec.toNat_or, BitVec.toNat_ofNat, BitVec.toNat_ofNat, Nat.mod_eq_of_lt (a := x) (by omega), Nat.mod_eq_of_lt (a := a * 256 ^ i) (by omega), or_add h, u32_wrap (by omega)]
end

/-! ### parts of slices -/
section
variable {α : Type} {g : Nat → AB} {k : Nat} {enc : α → List AV} {v : AV} {L : List α}
/-- a slice of a block's cells, whole -/
theorem Sl.ofCells {b c sl : Nat} {e : TypeId} {ro : Bool} (el : ∀ x, (enc x).length = k) (h : g b = .cells (L.flatMap enc) e ro) {n : Nat} (hn : n = L.length) (hc : n ≤ c) (hs : sl = 0 ∨ sl = k) : Sl g k enc (.slc (some (b, 0)) n c sl) L := by
  subst hn
  have hl := flat_len el L
  exact ⟨el, .inr ⟨c, sl, _, e, ro, rfl, h, by simp [so_s, hl], by simp only [so_s, List.drop_zero]; rw [← hl, List.take_length], hc, hs⟩⟩
theorem aslcA_all {len n b : Nat} : aslcA len n (.ptr (some (b, 0))) none none none = some (.slc (some (b, 0)) len len 0) := by
  simp only [aslcA, abound, Option.isSome_none, Bool.false_and, Bool.false_eq_true, if_false]
  cases len with
  | zero => simp
  | succ m => simp
/-- x[:h] -/
theorem Sl.upto (h : Sl g k enc v L) {m : Int} {kd : IntKind} (hm : 0 ≤ m ∧ m ≤ L.length) : ∃ v', aslcS k v none (some (.int kd m)) none = some v' ∧ Sl g k enc v' (L.take m.toNat) ∧ sb v' = sb v ∧ Eng.so v' = Eng.so v := by
  rcases h.cells with ⟨rfl, rfl⟩ | ⟨c, sl, cs, e, ro, h1, h2, h3, h4, hc, hs⟩
  · have : m = 0 := by simp at hm; omega
    subst this
    exact ⟨.slc none 0 0 0, by simp [aslcS, abound], ⟨h.el, .inl ⟨rfl, rfl⟩⟩, rfl, rfl⟩
  · have hmin : min m.toNat L.length = m.toNat := by omega
    refine ⟨.slc (some (sb v, Eng.so v)) m.toNat c sl, ?_, ⟨h.el, .inr ⟨c, sl, cs, e, ro, by rw [List.length_take, hmin]; rfl, h2, ?_, ?_, by rw [List.length_take]; omega, hs⟩⟩, rfl, rfl⟩
    · rw [h1]
      simp only [aslcS, abound, Option.isSome_none, Option.isSome_some, Bool.false_and, Bool.false_eq_true, if_false]
      rw [if_pos (by omega)]
      simp [hs, sb_s, so_s]
    · have : (L.take m.toNat).length * k ≤ L.length * k := Nat.mul_le_mul_right _ (by rw [List.length_take]; omega)
      simp only [so_s]; omega
    · simp only [so_s, List.length_take]
      rw [Nat.min_eq_left (by omega), ← flat_take h.el, ← h4, List.take_take, Nat.min_eq_left]
      exact Nat.mul_le_mul_right _ (by omega)
end
end Go.Eng
namespace Go.Eng
set_option linter.unusedVariables false
set_option linter.unusedSimpArgs false

/-- the leaves of a type whose values can be held against each other -/
def eqF (P : Program) (t : TypeId) : Option (List Leaf) := match ti P t, leaves P 9 t with
  | some i, some ks => if i.agg = true ∧ P.eqGuardType P.depth t = false then some ks else none
  | _, _ => none
theorem b_eqA {P : Program} {t : TypeId} {ks : List Leaf} (h : eqF P t = some ks) {xs ys : List AV} (hx : fits ks xs = true) (hy : fits ks ys = true) : abin P .eql t (.agg xs) (.agg ys) = (aeqs xs ys).map .bool := by
  unfold eqF at h
  split at h
  · rename_i i ks' hi hk
    split at h
    · rename_i hc
      simp only [Option.some.injEq] at h; subst h
      simp only [abin, aeql, hi, hk]
      rw [if_pos ⟨hc.1, hc.2, hx, hy⟩]
    · cases h
  · cases h
theorem b_neA {P : Program} {t : TypeId} {ks : List Leaf} (h : eqF P t = some ks) {xs ys : List AV} (hx : fits ks xs = true) (hy : fits ks ys = true) : abin P .neq t (.agg xs) (.agg ys) = (aeqs xs ys).map fun b => .bool (!b) := by
  unfold eqF at h
  split at h
  · rename_i i ks' hi hk
    split at h
    · rename_i hc
      simp only [Option.some.injEq] at h; subst h
      simp only [abin, aeql, hi, hk]
      rw [if_pos ⟨hc.1, hc.2, hx, hy⟩]
    · cases h
  · cases h
theorem aeqs_app : ∀ {a a' b b' : List AV} {x y : Bool}, a.length = a'.length → aeqs a a' = some x → aeqs b b' = some y → aeqs (a ++ b) (a' ++ b') = some (x && y)
  | [], [], b, b', x, y, _, h1, h2 => by simp only [aeqs, Option.some.injEq] at h1; subst h1; simpa using h2
  | [], _ :: _, b, b', x, y, h, _, _ => by simp at h
  | _ :: _, [], b, b', x, y, h, _, _ => by simp at h
  | u :: a, v :: a', b, b', x, y, h, h1, h2 => by
    simp only [aeqs] at h1
    split at h1
    · rename_i p q hp hq
      simp only [Option.some.injEq] at h1; subst h1
      have := aeqs_app (by simpa using h) hq h2
      simp only [List.cons_append, aeqs, hp, this, Bool.and_assoc]
    · cases h1
theorem aeqs_cons {u v : AV} {a b : List AV} {x y : Bool} (h1 : aeq1 u v = some x) (h2 : aeqs a b = some y) : aeqs (u :: a) (v :: b) = some (x && y) := by simp [aeqs, h1, h2]
theorem aeqs_nil : aeqs [] [] = some true := _root_.id rfl
theorem aeq1_i {k : IntKind} {x y : Int} : aeq1 (.int k x) (.int k y) = some (decide (x = y)) := by simp only [aeq1, if_true]; rfl
theorem aeq1_b {x y : Bool} : aeq1 (.bool x) (.bool y) = some (decide (x = y)) := by cases x <;> cases y <;> rfl
theorem aeqs_ints {k : IntKind} : ∀ {l m : List Int}, l.length = m.length → aeqs (l.map (AV.int k)) (m.map (AV.int k)) = some (decide (l = m))
  | [], [], _ => rfl
  | [], _ :: _, h => by simp at h
  | _ :: _, [], h => by simp at h
  | a :: l, b :: m, h => by
    rw [List.map_cons, List.map_cons, aeqs_cons aeq1_i (aeqs_ints (by simpa using h))]
    simp
theorem fits_app : ∀ {ks ls : List Leaf} {a b : List AV}, fits ks a = true → fits ls b = true → fits (ks ++ ls) (a ++ b) = true
  | [], ls, [], b, _, h => h
  | [], _, _ :: _, _, h, _ => by simp [fits] at h
  | _ :: _, _, [], _, h, _ => by simp [fits] at h
  | k :: ks, ls, x :: a, b, h1, h2 => by
    simp only [fits, Bool.and_eq_true, List.cons_append] at h1 ⊢
    exact ⟨h1.1, fits_app h1.2 h2⟩
theorem fits_ints {k : IntKind} : ∀ {n : Nat} {l : List Int}, l.length = n → fits (List.replicate n .i) (l.map (AV.int k)) = true
  | 0, [], _ => rfl
  | 0, _ :: _, h => by simp at h
  | n + 1, [], h => by simp at h
  | n + 1, a :: l, h => by
    simp only [List.replicate_succ, List.map_cons, fits, leafFit, Bool.true_and]
    exact fits_ints (by simpa using h)

theorem aslcA_o {len n b o : Nat} (h : 0 < len) : aslcA len n (.ptr (some (b, o))) none none none = some (.slc (some (b, o)) len len 0) := by
  simp only [aslcA, abound, Option.isSome_none, Bool.false_and, Bool.false_eq_true, if_false]
  rw [if_neg (by omega)]; simp
section
variable {P : Program} {S : Sums} {k : List KF} {T : Slots} {H : AH} {Q : Post} {l : List MI} {d : Option Nat}
/-- the heap gets a name -/
theorem Os_cut (h : ∀ H', H' = H → Os P S l k T H' Q) : Os P S l k T H Q := h H rfl
theorem Ps_cut {v : Option AV} (h : ∀ H', H' = H → Ps P S d l k T H' Q v) : Ps P S d l k T H Q v := h H rfl
theorem Acalls_cut {f : FuncId} {args : List AV} {K : AV → AH → Prop} (h : ∀ H', H' = H → Acalls P S f args H' K) : Acalls P S f args H K := h H rfl
end
theorem Fr.one {c : Nat} {H H' : AH} (h : Fr (fun b => b = c) H H') {b : Nat} (hb : b < H.n ∧ b ≠ c) : H'.g b = H.g b := h.same b hb.1 hb.2
theorem Fr.oneS {c : Nat} {g : Nat → AB} {n : Nat} {H' : AH} (h : Fr (fun b => b = c) ⟨g, n⟩ H') {b : Nat} (hb : b < n ∧ b ≠ c) : H'.g b = g b := h.same b hb.1 hb.2
theorem q_ixP {len n b o : Nat} {kd : IntKind} {i : Int} (h : 0 ≤ i ∧ i < len) : aixP len n (.ptr (some (b, o))) (.int kd i) = some (.ptr (some (b, o + i.toNat * n))) := by simp only [aixP]; rw [if_pos h]
theorem fill_nil {z : List AV} : fillA z [] = some z := _root_.id rfl
theorem fill_c {z cs : List AV} {o n : Nat} {v : AV} {ps : List (Nat × Nat × AV)} (h : v.cells.length = n) (h2 : Nat.ble (o + n) z.length = true) : fillA z ((o, n, v) :: ps) = fillA (lay z o v.cells) ps := by
  have := Nat.le_of_ble_eq_true h2
  simp only [fillA, h]; rw [if_pos ⟨trivial, this⟩]; unfold lay; rw [h]
/-- a copy into a part of a slice of one's own, of cells one by one -/
theorem Own.cpy {α : Type} {H : AH} {lo e : Nat} {enc : α → List AV} {v x : AV} {L X : List α} {o n c s : Nat} (h : Own H lo 1 e enc v L) (hx : Sl H.g 1 enc x X) (hn : X.length ≤ n) (ho : o + n ≤ L.length) (hb : 0 < n) :
    acpy H.g 1 (.slc (some (sb v, o)) n c s) x = some (.val (.int .i64 X.length) { ws := [(sb v, Eng.wrN (H.g (sb v)) o (X.flatMap enc))] }) ∧
      Own ⟨upd H.g (sb v) (Eng.wrN (H.g (sb v)) o (X.flatMap enc)), H.n⟩ lo 1 e enc v (L.take o ++ X ++ L.drop (o + X.length)) := by
  rcases h.cells with ⟨h1, _⟩ | ⟨c', sl, cs, h1, h2, h3, h4, h5, h6, h7, h8⟩
  · subst h1; simp at ho; omega
  · have hXl := flat_len h.el X
    have hm : Nat.min X.length n = X.length := Nat.min_eq_left hn
    have hone : (X.flatMap enc).all AV.one = true := by
      simp only [List.all_eq_true, List.mem_flatMap]
      rintro a ⟨y, hy, ha⟩
      exact List.all_eq_true.mp (h.one y) a ha
    rw [Nat.mul_one] at hXl h5 h7
    have hfit : o + (X.flatMap enc).length ≤ cs.length := by omega
    refine ⟨?_, h.el, h.one, h.hlo, .inr ⟨c', sl, lay cs o (X.flatMap enc), ?_, h2, h3, ?_, ?_, ?_, ?_, h8⟩⟩
    · simp only [acpy, hx.lenOf, hm, hx.fc, hone, Bool.true_eq_false, if_false, setCells, h4]
      rw [if_pos hfit]; rfl
    · rw [h1]; simp only [sb_s, List.length_append, List.length_take, List.length_drop]; congr 1; omega
    · show upd H.g (sb v) _ (sb v) = _; rw [upd_same, h4]; rfl
    · rw [lay_length hfit, Nat.mul_one]; exact h5
    · simp only [List.length_append, List.length_take, List.length_drop]; omega
    · have hl : (L.take o ++ X ++ L.drop (o + X.length)).length = L.length := by simp only [List.length_append, List.length_take, List.length_drop]; omega
      rw [hl, Nat.mul_one, take_lay (by omega) (by omega), h7]
      unfold lay
      have e1 : (L.flatMap enc).take o = (L.take o).flatMap enc := by have := flat_take h.el L o; rwa [Nat.mul_one] at this
      have e2 : (L.flatMap enc).drop (o + (X.flatMap enc).length) = (L.drop (o + X.length)).flatMap enc := by have := flat_drop h.el L (o + X.length); rw [Nat.mul_one] at this; rw [hXl]; exact this
      rw [e1, e2, List.flatMap_append, List.flatMap_append]
end Go.Eng
namespace Wr
set_option linter.unusedVariables false

/-- n bytes -/
structure Bytes (n : Nat) where
  l : List Nat
  len : l.length = n
  lt : ∀ x ∈ l, x < 256
theorem Bytes.ext {n : Nat} {a b : Bytes n} (h : a.l = b.l) : a = b := by cases a; cases b; cases h; rfl
instance {n : Nat} : DecidableEq (Bytes n) := fun a b => if h : a.l = b.l then isTrue (Bytes.ext h) else isFalse fun e => h (by rw [e])
def Bytes.zero (n : Nat) : Bytes n := ⟨List.replicate n 0, List.length_replicate, fun x hx => by rw [List.eq_of_mem_replicate hx]; decide⟩

/-- n numbers -/
structure Nums (n : Nat) where
  l : List Int
  len : l.length = n
theorem Nums.ext {n : Nat} {a b : Nums n} (h : a.l = b.l) : a = b := by cases a; cases b; cases h; rfl
instance {n : Nat} : DecidableEq (Nums n) := fun a b => if h : a.l = b.l then isTrue (Nums.ext h) else isFalse fun e => h (by rw [e])
def Nums.zero (n : Nat) : Nums n := ⟨List.replicate n 0, List.length_replicate⟩
def Nums.at {n : Nat} (a : Nums n) (i : Nat) : Int := a.l.getD i 0
def Nums.put {n : Nat} (a : Nums n) (i : Nat) (x : Int) : Nums n := ⟨a.l.set i x, by rw [List.length_set, a.len]⟩

abbrev Page := Bytes 64
abbrev Data := Bytes 32

structure Geom where
  conv : Int
  soft : Int
  seq : Int
  size : Int
  opn : Int
  deriving DecidableEq

structure At where
  zone : Int
  off : Int
  deriving DecidableEq

structure Zone where
  state : Int
  point : Int
  deriving DecidableEq

structure Rec where
  kind : Int
  epoch : Int
  seq : Int
  block : Int
  count : Int
  data : Data
  deriving DecidableEq

structure Leaf where
  gen : Int
  index : Int
  places : Nums 10
  deriving DecidableEq

structure Mast where
  foot : Bool
  gen : Int
  epoch : Int
  seq : Int
  pages : Int
  sum : Nat
  deriving DecidableEq

structure Pool where
  points : List Int
  heads : Nums 3
  deriving DecidableEq

structure Found where
  place : Int
  r : Rec
  deriving DecidableEq

structure Change where
  block : Int
  place : Int
  deriving DecidableEq

structure Group where
  own : Bool
  seq : Int
  changes : List Change
  deriving DecidableEq

structure Cand where
  zone : Int
  live : Int
  age : Int
  deriving DecidableEq

structure Old where
  block : Int
  has : Bool
  data : Data
  deriving DecidableEq

structure Write where
  block : Int
  trim : Bool
  data : Data
  deriving DecidableEq

structure Trans where
  id : Int
  begin : Int
  writes : List Write
  deriving DecidableEq

structure Ledger where
  next : Int
  opn : List Trans
  deriving DecidableEq

structure Op where
  kind : Int
  id : Int
  block : Int
  data : Data
  sync : Bool
  policy : Int
  deriving DecidableEq

structure Answer where
  e : Int
  id : Int
  has : Bool
  data : Data
  used : Int
  free : Int
  opn : Int
  deriving DecidableEq

structure Wreck where
  keep : List Int
  soft : Nat
  tear : Int
  deriving DecidableEq

structure Step where
  op : Op
  arm : Int
  crash : Bool
  wreck : Wreck
  deriving DecidableEq

structure Tale where
  answers : List Answer
  mounted : Bool
  blocks : List Old
  illegal : Int
  deriving DecidableEq

end Wr
namespace Wr
set_option linter.unusedVariables false

/-! ### maps: entries in the order in which they came -/
section
variable {κ ν : Type} [DecidableEq κ]
def mget : List (κ × ν) → κ → Option ν
  | [], _ => none
  | e :: m, k => if e.1 = k then some e.2 else mget m k
def mset : List (κ × ν) → κ → ν → List (κ × ν)
  | [], k, v => [(k, v)]
  | e :: m, k, v => if e.1 = k then (k, v) :: m else e :: mset m k v
def mdel : List (κ × ν) → κ → List (κ × ν)
  | [], _ => []
  | e :: m, k => if e.1 = k then m else e :: mdel m k
end

/-! ### geom -/
def blocks (g : Geom) : Int := min ((g.seq - 5) * (g.size / 2)) 4096
def pages (g : Geom) : Int := (blocks g + 9) / 10
def most (g : Geom) : Int := g.size / 2
def zones (g : Geom) : Int := g.conv + g.seq
def gright (g : Geom) : Bool :=
  decide (2 ≤ g.conv) && decide (6 ≤ g.seq) && decide (g.conv ≤ 64) && decide (g.seq ≤ 64 - g.conv) && decide (8 ≤ g.size) && decide (g.size ≤ 256) && decide (3 ≤ g.opn) && decide (pages g + 3 ≤ g.soft) && decide (g.soft ≤ 65536)
def sectors (g : Geom) (z : Int) : Int := if z < 0 then 0 else if z ≥ zones g then 0 else if z < g.conv then g.soft else g.size
def num (g : Geom) (a : At) : Int :=
  if a.zone < g.conv then 0 else if a.zone ≥ zones g then 0 else if a.off < 0 then 0 else if a.off ≥ g.size then 0 else (a.zone - g.conv) * g.size + a.off + 1
def atOf (g : Geom) (n : Int) : Option At := if n < 1 then none else if n > g.seq * g.size then none else some ⟨g.conv + (n - 1) / g.size, (n - 1) % g.size⟩

/-! ### zone -/
def znew (g : Geom) : List Zone := List.replicate g.conv.toNat ⟨4, 0⟩ ++ List.replicate g.seq.toNat ⟨0, 0⟩
def zopen : List Zone → Int
  | [] => 0
  | z :: l => zopen l + (if z.state = 1 then 1 else 0)
def zat (l : List Zone) (i : Int) : Zone := l.getD i.toNat ⟨0, 0⟩
def zput (l : List Zone) (i : Int) (z : Zone) : List Zone := l.set i.toNat z
def there (g : Geom) (a : At) : Bool := decide (0 ≤ a.off) && decide (a.off < sectors g a.zone)
def zwrite (g : Geom) (l : List Zone) (a : At) : List Zone × Int :=
  if there g a = false then (l, 6)
  else
    let z := zat l a.zone
    if z.state = 4 then (l, 0)
    else if z.state = 3 then (l, 3)
    else if a.off ≠ z.point then (l, 4)
    else if z.state ≠ 1 ∧ zopen l ≥ g.opn then (l, 5)
    else (zput l a.zone ⟨if z.point + 1 = g.size then 3 else 1, z.point + 1⟩, 0)
def zread (g : Geom) (l : List Zone) (a : At) : Int :=
  if there g a = false then 6 else if (zat l a.zone).state ≠ 4 ∧ a.off ≥ (zat l a.zone).point then 4 else 0
def zsequential (g : Geom) (z : Int) : Int := if sectors g z = 0 then 6 else if z < g.conv then 3 else 0
def zreset (g : Geom) (l : List Zone) (z : Int) : List Zone × Int :=
  if zsequential g z ≠ 0 then (l, zsequential g z) else (zput l z ⟨0, 0⟩, 0)
def zshut (z : Zone) : Zone := ⟨if z.point = 0 then 0 else 2, z.point⟩
def zpower (l : List Zone) : List Zone := l.map fun z => if z.state = 1 then zshut z else z

/-! ### pool -/
def head (p : Pool) (z : Int) : Bool := decide (z > 0) && p.heads.l.contains z
/-- zones of a point that are no heads: from the i-th on -/
def pzonesFrom (g : Geom) (p : Pool) (point : Int) : List Int → Int → List Int
  | [], _ => []
  | n :: l, i => (if n = point ∧ head p (g.conv + i) = false then [g.conv + i] else []) ++ pzonesFrom g p point l (i + 1)
def pfree (g : Geom) (p : Pool) : List Int := pzonesFrom g p 0 p.points 0
def pfull (g : Geom) (p : Pool) : List Int := pzonesFrom g p g.size p.points 0
def proom (g : Geom) (p : Pool) (s : Nat) : Int := if p.heads.at s = 0 then 0 else g.size - p.points.getD (p.heads.at s - g.conv).toNat 0
def pstepAt (g : Geom) (p : Pool) (s : Nat) (z : Int) : At × Pool :=
  let n := p.points.getD (z - g.conv).toNat 0
  (⟨z, n⟩, ⟨p.points.set (z - g.conv).toNat (n + 1), p.heads.put s (if n + 1 = g.size then 0 else z)⟩)
def pstep (g : Geom) (p : Pool) (s : Nat) : Option (At × Pool) :=
  if p.heads.at s ≠ 0 then some (pstepAt g p s (p.heads.at s))
  else match pfree g p with
    | [] => none
    | z :: _ => some (pstepAt g p s z)
def preset (g : Geom) (p : Pool) (z : Int) : Option Pool := if (pfull g p).contains z then some ⟨p.points.set (z - g.conv).toNat 0, p.heads⟩ else none
/-- pool.Open: points, and heads among them -/
def popenFrom (g : Geom) : List Zone → Int → Nat → Pool → Option Pool
  | [], _, _, p => some p
  | z :: l, i, next, p =>
    let n := if z.state = 3 then g.size else z.point
    if n = 0 ∨ n = g.size then popenFrom g l (i + 1) next ⟨p.points ++ [n], p.heads⟩
    else if next = 3 then none
    else popenFrom g l (i + 1) (next + 1) ⟨p.points ++ [n], p.heads.put next (g.conv + i)⟩
def popen (g : Geom) (l : List Zone) : Option Pool := popenFrom g (l.drop g.conv.toNat) 0 0 ⟨[], Nums.zero 3⟩

/-! ### lane -/
def plan (g : Geom) : Pool → List Nat → Option (List At × Pool)
  | p, [] => some ([], p)
  | p, s :: l => match pstep g p s with
    | none => none
    | some (a, q) => match plan g q l with
      | none => none
      | some (as, r) => some (a :: as, r)
def lzones (g : Geom) (p : Pool) (s : Nat) (n : Int) : Int := if n - proom g p s ≤ 0 then 0 else (n - proom g p s + g.size - 1) / g.size
def keep (g : Geom) (p : Pool) : Int := if proom g p 2 = 0 then 2 else 1
def both (g : Geom) (p : Pool) (a : Nat) (n : Int) (b : Nat) (m : Int) : Option Pool :=
  if lzones g p a n + lzones g p b m > (pfree g p).length then none
  else (plan g p (List.replicate n.toNat a ++ List.replicate m.toNat b)).map (·.2)
def fits (g : Geom) (p : Pool) (puts others : Int) : Bool :=
  match both g p 0 puts 2 others with
  | none => false
  | some q => decide ((pfree g q).length ≥ keep g q)
def moves (g : Geom) (p : Pool) (live : Int) : Bool := (both g p 1 live 2 1).isSome

/-! ### pick -/
def w64 (x : Int) : Int := x % 18446744073709551616
def better (a b : Cand) (size policy : Int) : Bool :=
  if policy = 1 then
    let an := w64 (w64 (size - a.live) * w64 (w64 a.age + 1))
    let ad := w64 (size + a.live)
    let bn := w64 (w64 (size - b.live) * w64 (w64 b.age + 1))
    let bd := w64 (size + b.live)
    if w64 (an * bd) > w64 (bn * ad) then true
    else if w64 (an * bd) < w64 (bn * ad) then false
    else decide (a.zone < b.zone)
  else if a.live < b.live then true
  else if a.live > b.live then false
  else decide (a.zone < b.zone)
def bestFrom (size policy : Int) : List Cand → Option Cand → Option Cand
  | [], b => b
  | c :: l, b =>
    if c.live < 0 ∨ c.live ≥ size then bestFrom size policy l b
    else match b with
      | none => bestFrom size policy l (some c)
      | some x => bestFrom size policy l (some (if better c x size policy then c else x))
def best (l : List Cand) (size policy : Int) : Option Int := (bestFrom size policy l none).map (·.zone)

/-! ### roll -/
def groupsFrom : List Found → List Change → List Group
  | [], _ => []
  | f :: l, opn =>
    if f.r.kind = 3 then (if f.r.count = opn.length then [⟨decide (f.r.block = 1), f.r.seq, opn⟩] else []) ++ groupsFrom l []
    else if f.r.kind = 1 then groupsFrom l (opn ++ [⟨f.r.block, f.place⟩])
    else groupsFrom l (opn ++ [⟨f.r.block, 0⟩])
def groups (l : List Found) : List Group := groupsFrom l []
def rollC : List Int → List Change → List Int
  | p, [] => p
  | p, c :: l => rollC (if 0 ≤ c.block ∧ c.block < p.length then p.set c.block.toNat c.place else p) l
def rollDo : List Int → List Group → List Int
  | p, [] => p
  | p, g :: l => rollDo (rollC p g.changes) l

/-! ### trans -/
/-- where a block's write stands, or would; whether it stands there -/
def wplace : List Write → Int → Nat × Bool
  | [], _ => (0, false)
  | w :: l, b => if w.block < b then ((wplace l b).1 + 1, (wplace l b).2) else (0, decide (w.block = b))
def tput (t : Trans) (w : Write) : Trans :=
  let w : Write := if w.trim then ⟨w.block, w.trim, Bytes.zero 32⟩ else w
  match wplace t.writes w.block with
  | (i, true) => { t with writes := t.writes.set i w }
  | (i, false) => { t with writes := t.writes.take i ++ w :: t.writes.drop i }
def tfind (t : Trans) (b : Int) : Option Write := match wplace t.writes b with | (i, true) => t.writes[i]? | _ => none
def lplace : List Trans → Int → Nat × Bool
  | [], _ => (0, false)
  | t :: l, i => if t.id < i then ((lplace l i).1 + 1, (lplace l i).2) else (0, decide (t.id = i))
def lbegin (l : Ledger) (now : Int) : Ledger × Int × Int :=
  if l.opn.length ≥ 16 then (l, 0, 13) else (⟨l.next + 1, l.opn ++ [⟨l.next, now, []⟩]⟩, l.next, 0)
def lget (l : Ledger) (id : Int) : Option Trans := match lplace l.opn id with | (i, true) => l.opn[i]? | _ => none
def lset (l : Ledger) (t : Trans) : Ledger := match lplace l.opn t.id with | (i, true) => { l with opn := l.opn.set i t } | _ => l
def ldrop (l : Ledger) (id : Int) : Option Ledger := match lplace l.opn id with | (i, true) => some { l with opn := l.opn.eraseIdx i } | _ => none
def oldest (l : Ledger) (now : Int) : Int := match l.opn with | [] => now | t :: ts => ts.foldl (fun m t => min m t.begin) t.begin

/-! ### table: the places of all blocks, and which leaves are dirty -/
structure Table where
  blocks : Int
  leaves : List (Nums 10)
  dirty : List Bool
  deriving DecidableEq
def tnew (n : Int) : Table := ⟨n, List.replicate ((n + 9) / 10).toNat (Nums.zero 10), List.replicate ((n + 9) / 10).toNat false⟩
def tget (t : Table) (b : Int) : Int := if b < 0 then 0 else if b ≥ t.blocks then 0 else (t.leaves.getD (b / 10).toNat (Nums.zero 10)).at (b % 10).toNat
def tset (t : Table) (b p : Int) : Table × Int :=
  if b < 0 then (t, 0) else if b ≥ t.blocks then (t, 0)
  else
    let n := (b / 10).toNat
    let leaf := t.leaves.getD n (Nums.zero 10)
    let was := leaf.at (b % 10).toNat
    ({ t with leaves := t.leaves.set n (leaf.put (b % 10).toNat p), dirty := t.dirty.set n (t.dirty.getD n false || decide (was ≠ p)) }, was)
def tplaces (t : Table) : List Int := (List.range t.blocks.toNat).map fun (b : Nat) => tget t b
def tclean (t : Table) : Table := { t with dirty := t.dirty.map fun _ => false }
def tleaves (t : Table) (gen : Int) : List Leaf := (t.leaves.zipIdx).map fun p => ⟨gen, p.2, p.1⟩
/-- table.Of: leaf by leaf -/
def tofLeaf (n : Int) (x : Leaf) : Bool := (x.places.l.zipIdx).all fun p => decide (0 ≤ p.1) && (decide (p.1 = 0) || decide (x.index * 10 + p.2 < n))
def tofFrom (n : Int) : List Leaf → Table → List Bool → Option (Table × List Bool)
  | [], t, seen => some (t, seen)
  | x :: l, t, seen =>
    if x.index < 0 then none else if x.index ≥ seen.length then none else if seen.getD x.index.toNat false then none
    else if tofLeaf n x = false then none
    else tofFrom n l { t with leaves := t.leaves.set x.index.toNat x.places } (seen.set x.index.toNat true)
def tof (n : Int) (l : List Leaf) : Option Table :=
  match tofFrom n l (tnew n) (List.replicate (tnew n).leaves.length false) with
  | none => none
  | some (t, seen) => if seen.contains false then none else some t

end Wr
namespace Wr
set_option linter.unusedVariables false

/-! ### numbers in bytes: the lowest first -/
def le : Nat → Nat → List Nat
  | 0, _ => []
  | n + 1, x => x % 256 :: le n (x / 256)
def ofLe : List Nat → Nat
  | [] => 0
  | b :: l => b + 256 * ofLe l
theorem le_length : ∀ (n x : Nat), (le n x).length = n
  | 0, _ => rfl
  | n + 1, x => by simp [le, le_length n]
theorem le_lt : ∀ (n x : Nat), ∀ b ∈ le n x, b < 256
  | 0, _, b, h => by simp [le] at h
  | n + 1, x, b, h => by
    simp only [le, List.mem_cons] at h
    rcases h with rfl | h
    · omega
    · exact le_lt n _ b h
def at' (l : List Nat) (o n : Nat) : Nat := ofLe ((l.drop o).take n)
def u64 (x : Int) : Nat := (x % 18446744073709551616).toNat
def u32 (x : Int) : Nat := (x % 4294967296).toNat
def u8 (x : Int) : Nat := (x % 256).toNat

/-! ### crc -/
def crcBit (c : Nat) : Nat := if c % 2 = 1 then (c / 2) ^^^ 0xedb88320 else c / 2
def crcBits : Nat → Nat → Nat
  | 0, c => c
  | n + 1, c => crcBits n (crcBit c)
def crcBytes : List Nat → Nat → Nat
  | [], c => c
  | b :: l, c => crcBytes l (crcBits 8 (c ^^^ b))
def more (s : Nat) (l : List Nat) : Nat := 0xffffffff ^^^ crcBytes l (0xffffffff ^^^ s)
def summed (l : List Nat) : List Nat := l ++ le 4 (more 0 l)
def crcRight (p : List Nat) : Bool := decide (more 0 (p.take (p.length - 4)) = ofLe (p.drop (p.length - 4)))

theorem summed_length {l : List Nat} (h : l.length = 60) : (summed l).length = 64 := by simp [summed, h, le_length]
theorem summed_lt {l : List Nat} (h : ∀ x ∈ l, x < 256) : ∀ x ∈ summed l, x < 256 := by
  intro x hx
  rcases List.mem_append.1 hx with h1 | h1
  · exact h x h1
  · exact le_lt _ _ x h1
def sealed (l : List Nat) (h : l.length = 60) (hl : ∀ x ∈ l, x < 256) : Page := ⟨summed l, summed_length h, summed_lt hl⟩

/-! ### rec -/
def MaxNum : Int := 1099511627776
def recRight (r : Rec) : Bool :=
  decide (1 ≤ r.epoch) && decide (r.epoch ≤ MaxNum) && decide (1 ≤ r.seq) && decide (r.seq ≤ MaxNum) &&
  (if r.kind = 1 then decide (0 ≤ r.block) && decide (r.block < 4096) && decide (r.count = 0)
   else if r.kind = 2 then decide (0 ≤ r.block) && decide (r.block < 4096) && decide (r.count = 0) && decide (r.data = Bytes.zero 32)
   else if r.kind = 3 then (decide (r.block = 0) || decide (r.block = 1)) && decide (0 ≤ r.count) && decide (r.count ≤ 4096) && decide (r.data = Bytes.zero 32)
   else false)
def recBytes (r : Rec) : List Nat := u8 r.kind :: (le 8 (u64 r.epoch) ++ (le 8 (u64 r.seq) ++ (le 4 (u64 r.block) ++ (le 4 (u64 r.count) ++ (r.data.l ++ [0, 0, 0])))))
theorem recBytes_length (r : Rec) : (recBytes r).length = 60 := by simp [recBytes, le_length, r.data.len]
theorem recBytes_lt (r : Rec) : ∀ x ∈ recBytes r, x < 256 := by
  intro x hx
  simp only [recBytes, List.mem_cons, List.mem_append, List.not_mem_nil, or_false] at hx
  rcases hx with rfl | h | h | h | h | h | h
  · unfold u8; omega
  · exact le_lt _ _ _ h
  · exact le_lt _ _ _ h
  · exact le_lt _ _ _ h
  · exact le_lt _ _ _ h
  · exact r.data.lt _ h
  · rcases h with rfl | rfl | rfl <;> decide
def recLay (r : Rec) : Page := sealed (recBytes r) (recBytes_length r) (recBytes_lt r)
def number (l : List Nat) (o n : Nat) : Int := if (at' l o n : Int) > MaxNum then -1 else at' l o n
def sub32 (p : Page) : Data := ⟨(p.l.drop 25).take 32, by simp [p.len], fun x hx => p.lt x (List.mem_of_mem_drop (List.mem_of_mem_take hx))⟩
def recOf (p : Page) : Rec := ⟨p.l.getD 0 0, number p.l 1 8, number p.l 9 8, number p.l 17 4, number p.l 21 4, sub32 p⟩
/-- why not: 8: the sum; 7: bytes -/
def recRead (p : Page) : Rec × Int :=
  if crcRight p.l = false then (⟨0, 0, 0, 0, 0, Bytes.zero 32⟩, 8)
  else if recRight (recOf p) = false ∨ recLay (recOf p) ≠ p then (⟨0, 0, 0, 0, 0, Bytes.zero 32⟩, 7)
  else (recOf p, 0)

/-! ### page -/
def leafRight (l : Leaf) : Bool := decide (1 ≤ l.gen) && decide (l.gen ≤ MaxNum) && decide (0 ≤ l.index) && decide (l.index ≤ 4096) && l.places.l.all fun n => decide (0 ≤ n) && decide (n < 4294967296)
def leafBytes (l : Leaf) : List Nat := 128 :: (le 8 (u64 l.gen) ++ (le 4 (u64 l.index) ++ ((l.places.l.map fun n => le 4 (u32 n)).flatten ++ List.replicate 7 0)))
theorem flat4 : ∀ (l : List Int), ((l.map fun n => le 4 (u32 n)).flatten).length = 4 * l.length
  | [] => rfl
  | a :: l => by simp only [List.map_cons, List.flatten_cons, List.length_append, le_length, flat4 l, List.length_cons]; omega
theorem leafBytes_length (l : Leaf) : (leafBytes l).length = 60 := by
  simp only [leafBytes, List.length_cons, List.length_append, le_length, flat4, l.places.len, List.length_replicate]
theorem leafBytes_lt (l : Leaf) : ∀ x ∈ leafBytes l, x < 256 := by
  intro x hx
  simp only [leafBytes, List.mem_cons, List.mem_append, List.mem_flatten, List.mem_map, List.mem_replicate] at hx
  rcases hx with rfl | h | h | ⟨_, ⟨n, _, rfl⟩, h⟩ | ⟨_, rfl⟩
  · decide
  · exact le_lt _ _ _ h
  · exact le_lt _ _ _ h
  · exact le_lt _ _ _ h
  · decide
def leafLay (l : Leaf) : Page := sealed (leafBytes l) (leafBytes_length l) (leafBytes_lt l)
def leafOf (p : Page) : Leaf := ⟨at' p.l 1 8, at' p.l 9 4, ⟨(List.range 10).map fun i => (at' p.l (13 + 4 * i) 4 : Int), by simp⟩⟩
def leafZero : Leaf := ⟨0, 0, Nums.zero 10⟩
def leafRead (p : Page) : Leaf × Int :=
  if crcRight p.l = false then (leafZero, 8)
  else if p.l.getD 0 0 ≠ 128 ∨ (at' p.l 1 8 : Int) > MaxNum then (leafZero, 7)
  else if leafRight (leafOf p) = false ∨ leafLay (leafOf p) ≠ p then (leafZero, 7)
  else (leafOf p, 0)

/-! ### mast -/
def mastRight (m : Mast) : Bool :=
  decide (1 ≤ m.gen) && decide (m.gen ≤ MaxNum) && decide (1 ≤ m.epoch) && decide (m.epoch ≤ MaxNum) && decide (0 ≤ m.seq) && decide (m.seq ≤ MaxNum) && decide (0 ≤ m.pages) && decide (m.pages ≤ 4096) && (m.foot || decide (m.sum = 0))
def mastBytes (m : Mast) : List Nat := (if m.foot then 130 else 129) :: (le 8 (u64 m.gen) ++ (le 8 (u64 m.epoch) ++ (le 8 (u64 m.seq) ++ (le 4 (u64 m.pages) ++ (le 4 m.sum ++ List.replicate 27 0)))))
theorem mastBytes_length (m : Mast) : (mastBytes m).length = 60 := by simp [mastBytes, le_length]
theorem mastBytes_lt (m : Mast) : ∀ x ∈ mastBytes m, x < 256 := by
  intro x hx
  simp only [mastBytes, List.mem_cons, List.mem_append, List.mem_replicate] at hx
  rcases hx with rfl | h | h | h | h | h | ⟨_, rfl⟩
  · split <;> decide
  · exact le_lt _ _ _ h
  · exact le_lt _ _ _ h
  · exact le_lt _ _ _ h
  · exact le_lt _ _ _ h
  · exact le_lt _ _ _ h
  · decide
def mastLay (m : Mast) : Page := sealed (mastBytes m) (mastBytes_length m) (mastBytes_lt m)
def mastZero : Mast := ⟨false, 0, 0, 0, 0, 0⟩
def mastOf (p : Page) : Mast := ⟨decide (p.l.getD 0 0 = 130), number p.l 1 8, number p.l 9 8, number p.l 17 8, number p.l 25 4, at' p.l 29 4⟩
def mastRead (p : Page) : Mast × Int :=
  if crcRight p.l = false then (mastZero, 8)
  else if (p.l.getD 0 0 ≠ 129 ∧ p.l.getD 0 0 ≠ 130) ∨ mastRight (mastOf p) = false ∨ mastLay (mastOf p) ≠ p then (mastZero, 7)
  else (mastOf p, 0)
def geomBytes (g : Geom) : List Nat := 131 :: (le 4 (u32 g.conv) ++ (le 4 (u32 g.soft) ++ (le 4 (u32 g.seq) ++ (le 4 (u32 g.size) ++ (le 4 (u32 g.opn) ++ List.replicate 39 0)))))
theorem geomBytes_length (g : Geom) : (geomBytes g).length = 60 := by simp [geomBytes, le_length]
theorem geomBytes_lt (g : Geom) : ∀ x ∈ geomBytes g, x < 256 := by
  intro x hx
  simp only [geomBytes, List.mem_cons, List.mem_append, List.mem_replicate] at hx
  rcases hx with rfl | h | h | h | h | h | ⟨_, rfl⟩
  · decide
  · exact le_lt _ _ _ h
  · exact le_lt _ _ _ h
  · exact le_lt _ _ _ h
  · exact le_lt _ _ _ h
  · exact le_lt _ _ _ h
  · decide
def geomLay (g : Geom) : Page := sealed (geomBytes g) (geomBytes_length g) (geomBytes_lt g)
def i32 (x : Nat) : Int := if x < 2147483648 then x else x - 4294967296
def geomOf (p : Page) : Geom := ⟨i32 (at' p.l 1 4), i32 (at' p.l 5 4), i32 (at' p.l 9 4), i32 (at' p.l 13 4), i32 (at' p.l 17 4)⟩
def geomZero : Geom := ⟨0, 0, 0, 0, 0⟩
def geomRead (p : Page) : Geom × Int :=
  if crcRight p.l = false then (geomZero, 8)
  else if p.l.getD 0 0 ≠ 131 ∨ gright (geomOf p) = false ∨ geomLay (geomOf p) ≠ p then (geomZero, 7)
  else (geomOf p, 0)

/-! ### dev -/
structure Dev where
  g : Geom
  zones : List Zone
  finished : List (Int × Bool)
  safe : List (At × Page)
  now : List (At × Page)
  cached : List (At × Page)
  left : Int
  down : Bool
  illegal : Int
def dnew (g : Geom) : Dev := ⟨g, znew g, [], [], [], [], -1, false, 0⟩
def dcheck (d : Dev) (e : Int) : Dev := if e ≠ 0 then { d with illegal := d.illegal + 1 } else d
def dcount (d : Dev) : Dev := if d.left > 0 then { d with left := d.left - 1, down := decide (d.left - 1 = 0) } else d
def dwrite (d : Dev) (a : At) (p : Page) : Dev × Int :=
  if d.down then (d, 2)
  else match zwrite d.g d.zones a with
    | (l, e) => if e ≠ 0 then (dcheck d e, e) else (dcount { d with zones := l, now := mset d.now a p, cached := d.cached ++ [(a, p)] }, 0)
def dread (d : Dev) (a : At) : Dev × Page × Int :=
  if d.down then (d, Bytes.zero 64, 2)
  else if zread d.g d.zones a ≠ 0 then (dcheck d (zread d.g d.zones a), Bytes.zero 64, zread d.g d.zones a)
  else (d, (mget d.now a).getD (Bytes.zero 64), 0)
def dforget (d : Dev) (z : Int) : Dev :=
  { d with safe := d.safe.filter fun e => decide (e.1.zone ≠ z), now := d.now.filter fun e => decide (e.1.zone ≠ z), cached := d.cached.filter fun e => decide (e.1.zone ≠ z), finished := mdel d.finished z }
def dreset (d : Dev) (z : Int) : Dev × Int :=
  if d.down then (d, 2)
  else match zreset d.g d.zones z with
    | (l, e) => if e ≠ 0 then (dcheck d e, e) else (dcount (dforget { d with zones := l } z), 0)
def saves : List (At × Page) → List (At × Page) → List (At × Page)
  | m, [] => m
  | m, w :: l => saves (mset m w.1 w.2) l
def dflush (d : Dev) : Dev × Int :=
  if d.down then (d, 2) else (dcount { d with safe := saves d.safe d.cached, cached := [] }, 0)
def darm (d : Dev) (n : Int) : Dev := if d.down then d else { d with left := n, down := decide (n = 0) }
/-- what a crash leaves of what is cached: how many of each zone came ahead (had), how many of conventional ones (soft) -/
def dkeep (g : Geom) (w : Wreck) (z : Int) : Int := if z - g.conv < w.keep.length then max (w.keep.getD (z - g.conv).toNat 0) 0 else 0
def tear (old : Page) (p : Page) (n : Nat) : Page := ⟨p.l.take n ++ old.l.drop n, by simp [p.len, old.len]; omega, fun x hx => by
  rcases List.mem_append.1 hx with h | h
  · exact p.lt x (List.mem_of_mem_take h)
  · exact old.lt x (List.mem_of_mem_drop h)⟩
def dtear (g : Geom) (safe : List (At × Page)) (x : At × Page) (n : Int) : List (At × Page) :=
  mset safe x.1 (tear (if x.1.zone < g.conv then (mget safe x.1).getD (Bytes.zero 64) else Bytes.zero 64) x.2 (min n 64).toNat)
def dcrashFrom (g : Geom) (w : Wreck) : List (At × Page) → List (Int × Int) → Nat → List (At × Page) → List (At × Page)
  | [], _, _, safe => safe
  | x :: l, had, soft, safe =>
    let z := x.1.zone
    if z < g.conv then
      let left := decide (w.soft / 2 ^ (soft % 64) % 2 = 1)
      dcrashFrom g w l had (soft + 1) (if left then mset safe x.1 x.2 else if l.isEmpty && decide (w.tear > 0) then dtear g safe x w.tear else safe)
    else
      let h := (mget had z).getD 0
      dcrashFrom g w l (mset had z (h + 1)) soft (if h < dkeep g w z then mset safe x.1 x.2 else if l.isEmpty && decide (h = dkeep g w z) && decide (w.tear > 0) then dtear g safe x w.tear else safe)
/-- how many sectors of a zone there are, from its beginning on -/
def prefixLen (safe : List (At × Page)) (z : Int) : Nat → Int → Int
  | 0, n => n
  | k + 1, n => if (mget safe ⟨z, n⟩).isSome then prefixLen safe z k (n + 1) else n
def wakeZone (g : Geom) (finished : List (Int × Bool)) (safe : List (At × Page)) (z : Int) (x : Zone) : Zone :=
  let n := prefixLen safe z g.size.toNat 0
  ⟨if (mget finished z).getD false then x.state else if n = 0 then 0 else if n < g.size then 2 else x.state, n⟩
def dcrash (d : Dev) (w : Wreck) : Dev :=
  let safe := dcrashFrom d.g w d.cached [] 0 d.safe
  let zs := zpower d.zones
  { d with zones := zs.zipIdx.map (fun p => if (p.2 : Int) < d.g.conv then p.1 else wakeZone d.g d.finished safe p.2 p.1), safe := safe, now := safe, cached := [], left := -1, down := false }

end Wr
