/-
  G8: Walks of dev: Write, Read, New.
  G7: Walks of dev.
  A3: The device in memory.
  A2: Maps in memory.
-/
import Derived.Test.YtecaahcbbdbpbaaW7
import Derived.Test.YtecaahcbbdbpbaaW12
namespace Go.Eng
open Wr
set_option linter.unusedVariables false
set_option linter.unusedSimpArgs false

/-- keys that can be held against each other -/
structure Key {κ : Type} [DecidableEq κ] (ek : κ → AV) (ks : List Leaf) (kagg : Bool) : Prop where
  eq : ∀ a b, aeqK (ek a) (ek b) = some (decide (a = b))
  ok : ∀ a, keyM ks kagg (ek a) = true
theorem key_i : Key I [.i] false := ⟨fun a b => by simp only [aeqK, aeq1_i], fun a => rfl⟩
abbrev aK (a : At) : AV := .agg (aC a)
theorem key_a : Key aK [.i, .i] true := ⟨fun a b => by
  simp only [aK, aeqK, aC]
  rw [aeqs_cons aeq1_i (aeqs_cons aeq1_i aeqs_nil)]
  cases a; cases b; simp, fun a => rfl⟩

structure Mp {κ ν : Type} [DecidableEq κ] (g : Nat → AB) (ek : κ → AV) (ev : ν → AV) (r : Nat) (M : List (κ × ν)) : Prop where
  ex : ∃ es c, g r = .map es c false ∧ es.map (fun e => (e.1, e.2.1)) = M.map (fun p => (ek p.1, ev p.2)) ∧ (es.map (·.2.2)).Pairwise (· < ·) ∧ ∀ e ∈ es, e.2.2 < c

section
variable {κ ν : Type} [DecidableEq κ] {g g' : Nat → AB} {ek : κ → AV} {ev : ν → AV} {r : Nat} {M : List (κ × ν)} {ks : List Leaf} {kagg : Bool}

theorem Mp.fr (h : Mp g ek ev r M) (hr : g' r = g r) : Mp g' ek ev r M := ⟨by obtain ⟨es, c, h1, h2⟩ := h.ex; exact ⟨es, c, hr.trans h1, h2⟩⟩

theorem find_ok (hk : Key ek ks kagg) (k : κ) : ∀ (M : List (κ × ν)) (es : List (AV × AV × Nat)) (i : Nat), es.map (fun e => (e.1, e.2.1)) = M.map (fun p => (ek p.1, ev p.2)) →
    (match mget M k with
    | none => findA (ek k) es i = some none
    | some v => ∃ j b, findA (ek k) es i = some (some (i + j, ev v, b)) ∧ es[j]? = some (ek k, ev v, b) ∧ (mset M k = fun w => M.set j (k, w)) ∧ mdel M k = M.eraseIdx j ∧ j < M.length)
  | [], es, i, h => by
    have : es = [] := by simpa using h
    subst this; rfl
  | p :: M, [], i, h => by simp at h
  | p :: M, e :: es, i, h => by
    simp only [List.map_cons, List.cons.injEq, Prod.mk.injEq] at h
    obtain ⟨⟨h1, h2⟩, h3⟩ := h
    have ih := find_ok hk k M es (i + 1) h3
    have he : aeqK (ek k) e.1 = some (decide (k = p.1)) := by rw [h1]; exact hk.eq _ _
    simp only [mget]
    by_cases hkp : p.1 = k
    · rw [if_pos hkp]
      refine ⟨0, e.2.2, ?_, ?_, ?_, ?_, by simp⟩
      · simp only [findA, he, hkp, decide_true, Nat.add_zero, ← h2]
      · simp only [List.getElem?_cons_zero, ← h2, ← hkp, ← h1]
      · funext w; simp only [mset, hkp, if_true, List.set_cons_zero]
      · simp only [mdel, hkp, if_true, List.eraseIdx_zero, List.tail_cons]
    · rw [if_neg hkp]
      have hd : decide (k = p.1) = false := decide_eq_false fun h => hkp h.symm
      split at ih
      · simp only [findA, he, hd]; exact ih
      · obtain ⟨j, b, i1, i2, i3, i4, i5⟩ := ih
        refine ⟨j + 1, b, ?_, ?_, ?_, ?_, by simp; exact i5⟩
        · simp only [findA, he, hd, i1]; congr 3; omega
        · simpa using i2
        · funext w; simp only [mset, hkp, if_false, List.set_cons_succ, i3]
        · simp only [mdel, hkp, if_false, List.eraseIdx_cons_succ, i4]

theorem Mp.look (h : Mp g ek ev r M) (hk : Key ek ks kagg) {z : AV} {k : κ} : alook g ks kagg z false (.map (some r)) (ek k) = some (match mget M k with | some v => ev v | none => z) := by
  obtain ⟨es, c, h1, h2, _⟩ := h.ex
  have := find_ok hk k M es 0 h2
  simp only [alook, mapOf, h1, hk.ok, if_true]
  split at this
  · rename_i hm; rw [this]; simp [hm]
  · rename_i v hm
    obtain ⟨j, b, i1, _⟩ := this
    rw [i1]; simp [hm]
theorem Mp.look2 (h : Mp g ek ev r M) (hk : Key ek ks kagg) {z : AV} {k : κ} : alook g ks kagg z true (.map (some r)) (ek k) = some (.tup [match mget M k with | some v => ev v | none => z, .bool (mget M k).isSome]) := by
  obtain ⟨es, c, h1, h2, _⟩ := h.ex
  have := find_ok hk k M es 0 h2
  simp only [alook, mapOf, h1, hk.ok, if_true]
  split at this
  · rename_i hm; rw [this]; simp [hm]
  · rename_i v hm
    obtain ⟨j, b, i1, _⟩ := this
    rw [i1]; simp [hm]
theorem mset_none {k : κ} {v : ν} : ∀ {M : List (κ × ν)}, mget M k = none → mset M k v = M ++ [(k, v)]
  | [], _ => rfl
  | p :: M, h => by
    simp only [mget] at h
    split at h
    · cases h
    · rename_i hp; simp only [mset, hp, if_false, List.cons_append, mset_none h]
theorem mdel_none {k : κ} : ∀ {M : List (κ × ν)}, mget M k = none → mdel M k = M
  | [], _ => rfl
  | p :: M, h => by
    simp only [mget] at h
    split at h
    · cases h
    · rename_i hp; simp only [mdel, hp, if_false, mdel_none h]
theorem map_set_eq {α β : Type} (f : α → β) (l : List α) (j : Nat) (x : α) (h : (l.map f)[j]? = some (f x)) : (l.set j x).map f = l.map f := by
  rw [List.map_set]
  apply List.ext_getElem?
  intro i
  rw [List.getElem?_set]
  split
  · rename_i hij; subst hij
    split
    · exact h.symm
    · rename_i hl; rw [List.getElem?_eq_none (by omega)]
  · rfl
/-- m[k] = v -/
theorem Mp.set (h : Mp g ek ev r M) (hk : Key ek ks kagg) (k : κ) (v : ν) : ∃ x, amset g ks kagg (.map (some r)) (ek k) (ev v) = some (.val .undef { ws := [(r, x)] }) ∧ Mp (upd g r x) ek ev r (mset M k v) := by
  obtain ⟨es, c, h1, h2, h3, h4⟩ := h.ex
  have := find_ok hk k M es 0 h2
  simp only [amset, h1, hk.ok, if_true]
  split at this
  · rename_i hm
    rw [this]
    refine ⟨_, rfl, ⟨es ++ [(ek k, ev v, c)], c + 1, upd_same _ _ _, ?_, ?_, ?_⟩⟩
    · rw [mset_none hm]; simp [h2]
    · rw [List.map_append, List.pairwise_append]
      refine ⟨h3, by simp, ?_⟩
      intro a ha b hb
      simp only [List.map_cons, List.map_nil, List.mem_singleton] at hb
      obtain ⟨e, he, rfl⟩ := List.mem_map.1 ha
      subst hb; exact h4 e he
    · intro e he
      rcases List.mem_append.1 he with he | he
      · have := h4 e he; omega
      · simp only [List.mem_singleton] at he; subst he; simp
  · rename_i v0 hm
    obtain ⟨j, b, i1, i2, i3, i4, i5⟩ := this
    rw [i1]
    refine ⟨_, rfl, ⟨es.set (0 + j) (ek k, ev v, b), c, upd_same _ _ _, ?_, ?_, ?_⟩⟩
    · rw [Nat.zero_add, i3, List.map_set, List.map_set, h2]
    · rw [Nat.zero_add, map_set_eq]
      · exact h3
      · rw [List.getElem?_map, i2]; rfl
    · intro e he
      rcases List.mem_or_eq_of_mem_set he with he | he
      · exact h4 e he
      · subst he; exact h4 (ek k, ev v0, b) (List.mem_of_getElem? i2)
theorem map_erase {α β : Type} (f : α → β) : ∀ (l : List α) (i : Nat), (l.eraseIdx i).map f = (l.map f).eraseIdx i
  | [], i => by simp
  | a :: l, 0 => by simp
  | a :: l, i + 1 => by simp [map_erase f l i]
/-- delete(m, k) -/
theorem Mp.del (h : Mp g ek ev r M) (hk : Key ek ks kagg) (k : κ) : ∃ x, amdel g ks kagg (.map (some r)) (ek k) = some (.val (.tup []) { ws := [(r, x)] }) ∧ Mp (upd g r x) ek ev r (mdel M k) := by
  obtain ⟨es, c, h1, h2, h3, h4⟩ := h.ex
  have := find_ok hk k M es 0 h2
  simp only [amdel, h1, hk.ok, if_true]
  split at this
  · rename_i hm
    rw [this]
    exact ⟨_, rfl, ⟨es, c, upd_same _ _ _, by rw [mdel_none hm]; exact h2, h3, h4⟩⟩
  · rename_i v0 hm
    obtain ⟨j, b, i1, i2, i3, i4, i5⟩ := this
    rw [i1]
    refine ⟨_, rfl, ⟨es.eraseIdx (0 + j), c, upd_same _ _ _, ?_, ?_, fun e he => h4 e (List.mem_of_mem_eraseIdx he)⟩⟩
    · rw [Nat.zero_add, i4, map_erase, map_erase, h2]
    · rw [map_erase]; exact h3.sublist (List.eraseIdx_sublist _ _)
theorem Mp.mk0 {n : Nat} (h : g n = .map [] 0 false) : Mp g ek ev n ([] : List (κ × ν)) := ⟨[], 0, h, rfl, List.Pairwise.nil, fun e he => by simp at he⟩
end
end Go.Eng
namespace Go.Eng
open Wr
set_option linter.unusedVariables false
set_option linter.defProp false
set_option linter.unusedSimpArgs false

theorem Sl.one1 {α : Type} {g : Nat → AB} {k : Nat} {enc : α → List AV} {v : AV} {L : List α} (h : Sl g k enc v L) : v.one = true := by obtain ⟨a, c, sl, rfl⟩ := h.shape; rfl
def dC (g : Geom) (vz : AV) (rf rs rn : Nat) (vc : AV) (left : Int) (down : Bool) (ill : Int) : List AV :=
  [I g.conv, I g.soft, I g.seq, I g.size, I g.opn, vz, .map (some rf), .map (some rs), .map (some rn), vc, I left, .bool down, I ill]
section
variable {g : Geom} {vz vc v : AV} {rf rs rn r : Nat} {left ill x : Int} {down y ro : Bool} {e : TypeId}
theorem dC_len : (dC g vz rf rs rn vc left down ill).length = 13 := _root_.id rfl
theorem dC_5 : (dC g vz rf rs rn vc left down ill)[5]? = some vz := _root_.id rfl
theorem dC_6 : (dC g vz rf rs rn vc left down ill)[6]? = some (.map (some rf)) := _root_.id rfl
theorem dC_7 : (dC g vz rf rs rn vc left down ill)[7]? = some (.map (some rs)) := _root_.id rfl
theorem dC_8 : (dC g vz rf rs rn vc left down ill)[8]? = some (.map (some rn)) := _root_.id rfl
theorem dC_9 : (dC g vz rf rs rn vc left down ill)[9]? = some vc := _root_.id rfl
theorem dC_10 : (dC g vz rf rs rn vc left down ill)[10]? = some (I left) := _root_.id rfl
theorem dC_11 : (dC g vz rf rs rn vc left down ill)[11]? = some (.bool down) := _root_.id rfl
theorem dC_12 : (dC g vz rf rs rn vc left down ill)[12]? = some (I ill) := _root_.id rfl
theorem dC_0 : (dC g vz rf rs rn vc left down ill)[0]? = some (I g.conv) := _root_.id rfl
theorem dC_3 : (dC g vz rf rs rn vc left down ill)[3]? = some (I g.size) := _root_.id rfl
theorem dC_g : cN (.cells (dC g vz rf rs rn vc left down ill) e ro) 0 5 = some (gC g) := _root_.id rfl
theorem dC_s5 : (dC g vz rf rs rn vc left down ill).set 5 v = dC g v rf rs rn vc left down ill := _root_.id rfl
theorem dC_s8 : (dC g vz rf rs rn vc left down ill).set 8 (.map (some r)) = dC g vz rf rs r vc left down ill := _root_.id rfl
theorem dC_s9 : (dC g vz rf rs rn vc left down ill).set 9 v = dC g vz rf rs rn v left down ill := _root_.id rfl
theorem dC_s10 : (dC g vz rf rs rn vc left down ill).set 10 (I x) = dC g vz rf rs rn vc x down ill := _root_.id rfl
theorem dC_s11 : (dC g vz rf rs rn vc left down ill).set 11 (.bool y) = dC g vz rf rs rn vc left y ill := _root_.id rfl
theorem dC_s12 : (dC g vz rf rs rn vc left down ill).set 12 (I x) = dC g vz rf rs rn vc left down x := _root_.id rfl
end
def RD := allAnd @dC_0 <| allAnd @dC_3 <| allAnd @dC_5 <| allAnd @dC_6 <| allAnd @dC_7 <| allAnd @dC_8 <| allAnd @dC_9 <| allAnd @dC_10 <| allAnd @dC_11 <| allAnd @dC_12 <| allAnd @dC_g <| allAnd @dC_s5 <| allAnd @dC_s8 <| allAnd @dC_s9 <| allAnd @dC_s10 <| allAnd @dC_s11 @dC_s12

abbrev pC (p : Page) : AV := .agg (bC p)
/-- where a device lies -/
structure DP where
  b : Nat
  vz : AV
  rf : Nat
  rs : Nat
  rn : Nat
  vc : AV
/-- blocks that it may write -/
def DP.mut (p : DP) (c : Nat) : Prop := c = p.b ∨ c = p.rf ∨ c = p.rs ∨ c = p.rn ∨ (c = sb p.vc ∧ 1 ≤ c)
def DP.has (p : DP) (c : Nat) : Prop := p.mut c ∨ c = sb p.vz
structure DevAt (H : AH) (p : DP) (d : Dev) : Prop where
  blk : H.g p.b = .cells (dC d.g p.vz p.rf p.rs p.rn p.vc d.left d.down d.illegal) 84 false
  gok : GOk d.g
  zs : Sl H.g 2 zC p.vz d.zones
  zl : d.zones.length = (zones d.g).toNat
  mf : Mp H.g I .bool p.rf d.finished
  ms : Mp H.g aK pC p.rs d.safe
  mn : Mp H.g aK pC p.rn d.now
  cs : Own H 1 66 87 wC p.vc d.cached
  lt : p.b < H.n ∧ p.rf < H.n ∧ p.rs < H.n ∧ p.rn < H.n ∧ sb p.vz < H.n ∧ sb p.vc < H.n
  pos : 0 < p.b ∧ 0 < p.rf ∧ 0 < p.rs ∧ 0 < p.rn ∧ 0 < sb p.vz
  ne : p.b ≠ p.rf ∧ p.b ≠ p.rs ∧ p.b ≠ p.rn ∧ p.rf ≠ p.rs ∧ p.rf ≠ p.rn ∧ p.rs ≠ p.rn ∧ p.b ≠ sb p.vc ∧ p.rf ≠ sb p.vc ∧ p.rs ≠ sb p.vc ∧ p.rn ≠ sb p.vc
  nz : ¬ p.mut (sb p.vz)
  lr : -9223372036854775808 ≤ d.left ∧ d.left ≤ 9223372036854775807
  il : 0 ≤ d.illegal
/-- what is written in one of its blocks isn't seen in another one -/
theorem DevAt.us {H : AH} {p : DP} {d : Dev} (h : DevAt H p d) : (∀ (f : Nat → AB) (x : AB), upd f (p.b) x (p.rf) = f (p.rf)) ∧ (∀ (f : Nat → AB) (x : AB), upd f (p.b) x (p.rs) = f (p.rs)) ∧ (∀ (f : Nat → AB) (x : AB), upd f (p.b) x (p.rn) = f (p.rn)) ∧ (∀ (f : Nat → AB) (x : AB), upd f (p.b) x (sb p.vc) = f (sb p.vc)) ∧ (∀ (f : Nat → AB) (x : AB), upd f (p.b) x (sb p.vz) = f (sb p.vz)) ∧ (∀ (f : Nat → AB) (x : AB), upd f (p.rf) x (p.b) = f (p.b)) ∧ (∀ (f : Nat → AB) (x : AB), upd f (p.rf) x (p.rs) = f (p.rs)) ∧ (∀ (f : Nat → AB) (x : AB), upd f (p.rf) x (p.rn) = f (p.rn)) ∧ (∀ (f : Nat → AB) (x : AB), upd f (p.rf) x (sb p.vc) = f (sb p.vc)) ∧ (∀ (f : Nat → AB) (x : AB), upd f (p.rf) x (sb p.vz) = f (sb p.vz)) ∧ (∀ (f : Nat → AB) (x : AB), upd f (p.rs) x (p.b) = f (p.b)) ∧ (∀ (f : Nat → AB) (x : AB), upd f (p.rs) x (p.rf) = f (p.rf)) ∧ (∀ (f : Nat → AB) (x : AB), upd f (p.rs) x (p.rn) = f (p.rn)) ∧ (∀ (f : Nat → AB) (x : AB), upd f (p.rs) x (sb p.vc) = f (sb p.vc)) ∧ (∀ (f : Nat → AB) (x : AB), upd f (p.rs) x (sb p.vz) = f (sb p.vz)) ∧ (∀ (f : Nat → AB) (x : AB), upd f (p.rn) x (p.b) = f (p.b)) ∧ (∀ (f : Nat → AB) (x : AB), upd f (p.rn) x (p.rf) = f (p.rf)) ∧ (∀ (f : Nat → AB) (x : AB), upd f (p.rn) x (p.rs) = f (p.rs)) ∧ (∀ (f : Nat → AB) (x : AB), upd f (p.rn) x (sb p.vc) = f (sb p.vc)) ∧ (∀ (f : Nat → AB) (x : AB), upd f (p.rn) x (sb p.vz) = f (sb p.vz)) ∧ (∀ (f : Nat → AB) (x : AB), upd f (sb p.vc) x (p.b) = f (p.b)) ∧ (∀ (f : Nat → AB) (x : AB), upd f (sb p.vc) x (p.rf) = f (p.rf)) ∧ (∀ (f : Nat → AB) (x : AB), upd f (sb p.vc) x (p.rs) = f (p.rs)) ∧ (∀ (f : Nat → AB) (x : AB), upd f (sb p.vc) x (p.rn) = f (p.rn)) ∧ (∀ (f : Nat → AB) (x : AB), upd f (sb p.vc) x (sb p.vz) = f (sb p.vz)) := by
  obtain ⟨n1, n2, n3, n4, n5, n6, n7, n8, n9, n10⟩ := h.ne
  exact ⟨fun f x => upd_ne f x (Ne.symm n1), fun f x => upd_ne f x (Ne.symm n2), fun f x => upd_ne f x (Ne.symm n3), fun f x => upd_ne f x (Ne.symm n7), fun f x => upd_ne f x (fun e => h.nz (.inl e)), fun f x => upd_ne f x n1, fun f x => upd_ne f x (Ne.symm n4), fun f x => upd_ne f x (Ne.symm n5), fun f x => upd_ne f x (Ne.symm n8), fun f x => upd_ne f x (fun e => h.nz (.inr (.inl e))), fun f x => upd_ne f x n2, fun f x => upd_ne f x n4, fun f x => upd_ne f x (Ne.symm n6), fun f x => upd_ne f x (Ne.symm n9), fun f x => upd_ne f x (fun e => h.nz (.inr (.inr (.inl e)))), fun f x => upd_ne f x n3, fun f x => upd_ne f x n5, fun f x => upd_ne f x n6, fun f x => upd_ne f x (Ne.symm n10), fun f x => upd_ne f x (fun e => h.nz (.inr (.inr (.inr (.inl e))))), fun f x => upd_ne f x n7, fun f x => upd_ne f x n8, fun f x => upd_ne f x n9, fun f x => upd_ne f x n10, fun f x => upd_ne f x (fun e => h.nz (.inr (.inr (.inr (.inr ⟨e, h.pos.2.2.2.2⟩)))))⟩
theorem DevAt.has_lt {H : AH} {p : DP} {d : Dev} (h : DevAt H p d) {c : Nat} (hc : p.has c) : c < H.n := by
  obtain ⟨h1, h2, h3, h4, h5, h6⟩ := h.lt
  unfold DP.has DP.mut at hc; omega
theorem DevAt.zl8 {H : AH} {p : DP} {d : Dev} (h : DevAt H p d) : 8 ≤ zones d.g ∧ zones d.g ≤ 64 := by
  have := h.gok.z; have := h.gok.c; have := h.gok.s; unfold zones; omega
/-- what is outside stays -/
theorem DevAt.fr {H H' : AH} {p : DP} {d : Dev} (h : DevAt H p d) (hn : H.n ≤ H'.n) (hb : ∀ c, p.has c → c < H.n → H'.g c = H.g c) : DevAt H' p d := by
  obtain ⟨h1, h2, h3, h4, h5, h6⟩ := h.lt
  have b1 := hb p.b (.inl (.inl rfl)) h1
  have b2 := hb p.rf (.inl (.inr (.inl rfl))) h2
  have b3 := hb p.rs (.inl (.inr (.inr (.inl rfl)))) h3
  have b4 := hb p.rn (.inl (.inr (.inr (.inr (.inl rfl))))) h4
  have b5 := hb (sb p.vz) (.inr rfl) h5
  refine ⟨b1.trans h.blk, h.gok, h.zs.fr b5, h.zl, h.mf.fr b2, h.ms.fr b3, h.mn.fr b4, ?_, ⟨by omega, by omega, by omega, by omega, by omega, by omega⟩, h.pos, h.ne, h.nz, h.lr, h.il⟩
  refine ⟨h.cs.el, h.cs.one, Nat.le_trans h.cs.hlo hn, ?_⟩
  rcases h.cs.cells with h1 | ⟨c, sl, cs, k1, k2, k3, k4, k5⟩
  · exact .inl h1
  · have b6 := hb (sb p.vc) (.inl (.inr (.inr (.inr (.inr ⟨rfl, k2⟩))))) h6
    exact .inr ⟨c, sl, cs, k1, k2, by omega, by rw [b6]; exact k4, k5⟩
theorem DevAt.frNo {H H' : AH} {p : DP} {d : Dev} (h : DevAt H p d) (f : Fr No H H') : DevAt H' p d := h.fr f.n fun c _ hc => f.at hc
/-- other cells in its own block -/
theorem DevAt.cells {H : AH} {p : DP} {d : Dev} (h : DevAt H p d) {left ill : Int} {down : Bool} (hl : -9223372036854775808 ≤ left ∧ left ≤ 9223372036854775807) (hi : 0 ≤ ill) :
    DevAt ⟨upd H.g p.b (.cells (dC d.g p.vz p.rf p.rs p.rn p.vc left down ill) 84 false), H.n⟩ p { d with left := left, down := down, illegal := ill } := by
  obtain ⟨n1, n2, n3, n4, n5, n6, n7, n8, n9, n10⟩ := h.ne
  have hz : ¬ sb p.vz = p.b := fun e => h.nz (.inl e)
  refine ⟨upd_same _ _ _, h.gok, h.zs.fr (upd_ne _ _ hz), h.zl, h.mf.fr (upd_ne _ _ (Ne.symm n1)), h.ms.fr (upd_ne _ _ (Ne.symm n2)), h.mn.fr (upd_ne _ _ (Ne.symm n3)), ?_, h.lt, h.pos, h.ne, h.nz, hl, hi⟩
  refine ⟨h.cs.el, h.cs.one, h.cs.hlo, ?_⟩
  rcases h.cs.cells with h1 | ⟨c, sl, cs, k1, k2, k3, k4, k5⟩
  · exact .inl h1
  · exact .inr ⟨c, sl, cs, k1, k2, k3, (upd_ne _ _ (Ne.symm n7)).trans k4, k5⟩
/-- other zones -/
theorem DevAt.zoned {H : AH} {p : DP} {d : Dev} (h : DevAt H p d) {l : AV} {L : List Zone} (hl : Sl H.g 2 zC l L) (hn : sb l < H.n) (hm : ¬ p.mut (sb l)) (hp : 0 < sb l) (hlen : L.length = (zones d.g).toNat) :
    DevAt ⟨upd H.g p.b (.cells (dC d.g l p.rf p.rs p.rn p.vc d.left d.down d.illegal) 84 false), H.n⟩ { p with vz := l } { d with zones := L } := by
  obtain ⟨n1, n2, n3, n4, n5, n6, n7, n8, n9, n10⟩ := h.ne
  obtain ⟨h1, h2, h3, h4, h5, h6⟩ := h.lt
  obtain ⟨p1, p2, p3, p4, p5⟩ := h.pos
  have hz : ¬ sb l = p.b := fun e => hm (.inl e)
  refine ⟨upd_same _ _ _, h.gok, hl.fr (upd_ne _ _ hz), hlen, h.mf.fr (upd_ne _ _ (Ne.symm n1)), h.ms.fr (upd_ne _ _ (Ne.symm n2)), h.mn.fr (upd_ne _ _ (Ne.symm n3)), ?_, ⟨h1, h2, h3, h4, hn, h6⟩, ⟨p1, p2, p3, p4, hp⟩, h.ne, hm, h.lr, h.il⟩
  refine ⟨h.cs.el, h.cs.one, h.cs.hlo, ?_⟩
  rcases h.cs.cells with h1 | ⟨c, sl, cs, k1, k2, k3, k4, k5⟩
  · exact .inl h1
  · exact .inr ⟨c, sl, cs, k1, k2, k3, (upd_ne _ _ (Ne.symm n7)).trans k4, k5⟩
/-- what an operation on a device leaves; 'X': a block that came in, too -/
structure DStep (X : Nat → Prop) (H : AH) (p : DP) (H' : AH) (p' : DP) (d' : Dev) : Prop where
  at' : DevAt H' p' d'
  b : p'.b = p.b
  fm : ∀ c, p'.mut c → p.mut c ∨ H.n ≤ c
  fz : sb p'.vz = sb p.vz ∨ X (sb p'.vz) ∨ H.n ≤ sb p'.vz
  fr : Fr p.mut H H'
theorem DStep.refl {X : Nat → Prop} {H : AH} {p : DP} {d : Dev} (h : DevAt H p d) : DStep X H p H p d := ⟨h, rfl, fun c hc => .inl hc, .inl rfl, Fr.refl _⟩
theorem DStep.trans {X : Nat → Prop} {H1 H2 H3 : AH} {p1 p2 p3 : DP} {d2 d3 : Dev} (a : DStep X H1 p1 H2 p2 d2) (b : DStep No H2 p2 H3 p3 d3) : DStep X H1 p1 H3 p3 d3 := by
  have qa := a.fr.n
  have qb := b.fr.n
  refine ⟨b.at', b.b.trans a.b, fun c hc => ?_, ?_, by omega, fun c hc hm => ?_⟩
  · rcases b.fm c hc with h | h
    · exact a.fm c h
    · exact .inr (by omega)
  · rcases b.fz with h | h | h
    · rw [h]; exact a.fz
    · exact h.elim
    · exact .inr (.inr (by omega))
  · have h1 : ¬ p2.mut c := fun h => by
      rcases a.fm c h with h | h
      · exact hm h
      · omega
    exact (b.fr.same c (by omega) h1).trans (a.fr.same c hc hm)
/-- .. seen from an earlier heap -/
theorem DStep.pre {X : Nat → Prop} {H0 H H' : AH} {p p' : DP} {d' : Dev} (f : Fr No H0 H) (h : DStep X H p H' p' d') (hX : ∀ c, X c → H0.n ≤ c) : DStep No H0 p H' p' d' := by
  have qf := f.n
  have qh := h.fr.n
  refine ⟨h.at', h.b, fun c hc => ?_, ?_, by omega, fun b hb hm => (h.fr.same b (by omega) hm).trans (f.at hb)⟩
  · rcases h.fm c hc with h1 | h1
    · exact .inl h1
    · exact .inr (by omega)
  · rcases h.fz with h1 | h1 | h1
    · exact .inl h1
    · exact .inr (.inr (hX _ h1))
    · exact .inr (.inr (by omega))
/-- a quiet call behind it -/
theorem DStep.post {X : Nat → Prop} {H H1 H' : AH} {p p' : DP} {d' : Dev} (h : DStep X H p H1 p' d') (f : Fr No H1 H') : DStep X H p H' p' d' :=
  ⟨h.at'.frNo f, h.b, h.fm, h.fz, ⟨Nat.le_trans h.fr.n f.n, fun b hb hm => (f.at (Nat.lt_of_lt_of_le hb h.fr.n)).trans (h.fr.same b hb hm)⟩⟩
/-- nothing but what is its own changes -/
theorem DStep.keep {X : Nat → Prop} {H H' : AH} {p p' : DP} {d' : Dev} (h : DStep X H p H' p' d') {c : Nat} (hc : c < H.n ∧ ¬ p.mut c) : H'.g c = H.g c := h.fr.same c hc.1 hc.2
end Go.Eng
namespace Go.Eng
open Wr
set_option linter.unusedVariables false
set_option linter.unusedSimpArgs false
abbrev dp (p : DP) : AV := .ptr (some (p.b, 0))
theorem c_dev_Illegal {p : DP} {d : Dev} {H : AH} (h : DevAt H p d) : Acalls P0 S0 11 [dp p] H fun v H' => v = I d.illegal ∧ Fr No H H' := by
  refine Acalls.go m11 rfl ?_
  rw [slots0_1]; unfold b11
  simp (disch := first | omega | assumption | exact id rfl | (simp only [okw_wr]; assumption)) only [h.blk, RD, RC, RO, RM, RT, AV.cells, Option.map_some, AV.one, AV.all1, i64_wrap, u64_wrap, u32_wrap, u8_wrap, Nat.zero_add, Nat.add_zero, Nat.reduceEqDiff, Nat.reduceLeDiff, Nat.reduceAdd, Nat.left_eq_add, Nat.add_eq_left, Nat.add_left_cancel_iff, reduceIte, eq_self, decide_true, decide_false, Bool.not_true, Bool.not_false, reduceCtorEq, List.getElem?_cons_zero, List.getElem?_cons_succ, List.set_cons_zero, List.set_cons_succ]
  exact ⟨trivial, Fr.refl _⟩
theorem c_dev_Down {p : DP} {d : Dev} {H : AH} (h : DevAt H p d) : Acalls P0 S0 53 [dp p] H fun v H' => v = .bool d.down ∧ Fr No H H' := by
  refine Acalls.go m53 rfl ?_
  rw [slots0_1]; unfold b53
  simp (disch := first | omega | assumption | exact id rfl | (simp only [okw_wr]; assumption)) only [h.blk, RD, RC, RO, RM, RT, AV.cells, Option.map_some, AV.one, AV.all1, i64_wrap, u64_wrap, u32_wrap, u8_wrap, Nat.zero_add, Nat.add_zero, Nat.reduceEqDiff, Nat.reduceLeDiff, Nat.reduceAdd, Nat.left_eq_add, Nat.add_eq_left, Nat.add_left_cancel_iff, reduceIte, eq_self, decide_true, decide_false, Bool.not_true, Bool.not_false, reduceCtorEq, List.getElem?_cons_zero, List.getElem?_cons_succ, List.set_cons_zero, List.set_cons_succ]
  exact ⟨trivial, Fr.refl _⟩
theorem c_dev_Zones {p : DP} {d : Dev} {H : AH} (h : DevAt H p d) : Acalls P0 S0 19 [dp p] H fun v H' => Own H' H.n 2 65 zC v d.zones ∧ Fr No H H' := by
  refine Acalls.go m19 rfl ?_
  rw [slots0_1]; unfold b19
  simp (disch := first | omega | assumption | exact id rfl | (simp only [okw_wr]; assumption)) only [h.blk, RD, RC, RO, RM, RT, AV.cells, Option.map_some, AV.one, AV.all1, i64_wrap, u64_wrap, u32_wrap, u8_wrap, Nat.zero_add, Nat.add_zero, Nat.reduceEqDiff, Nat.reduceLeDiff, Nat.reduceAdd, Nat.left_eq_add, Nat.add_eq_left, Nat.add_left_cancel_iff, reduceIte, eq_self, decide_true, decide_false, Bool.not_true, Bool.not_false, reduceCtorEq, List.getElem?_cons_zero, List.getElem?_cons_succ, List.set_cons_zero, List.set_cons_succ]
  have := h.zl8
  refine (c_Clone_Zone h.zs h.lt.2.2.2.2.1 (by rw [h.zl]; omega)).mono ?_
  rintro w H1 ⟨o1, f1⟩
  simp (disch := first | omega | assumption | exact id rfl | (simp only [okw_wr]; assumption)) only [RC, RO, RM, RT, AV.cells, Option.map_some, AV.one, AV.all1, i64_wrap, u64_wrap, u32_wrap, u8_wrap, Nat.zero_add, Nat.add_zero, Nat.reduceEqDiff, Nat.reduceLeDiff, Nat.reduceAdd, Nat.left_eq_add, Nat.add_eq_left, Nat.add_left_cancel_iff, reduceIte, eq_self, decide_true, decide_false, Bool.not_true, Bool.not_false, reduceCtorEq, List.getElem?_cons_zero, List.getElem?_cons_succ, List.set_cons_zero, List.set_cons_succ]
  exact ⟨o1, f1⟩
theorem has_b (p : DP) : p.has p.b := .inl (.inl rfl)
theorem DStep.cells {X : Nat → Prop} {H : AH} {p : DP} {d : Dev} (h : DevAt H p d) {left ill : Int} {down : Bool} (hl : -9223372036854775808 ≤ left ∧ left ≤ 9223372036854775807) (hi : 0 ≤ ill) :
    DStep X H p ⟨upd H.g p.b (.cells (dC d.g p.vz p.rf p.rs p.rn p.vc left down ill) 84 false), H.n⟩ p { d with left := left, down := down, illegal := ill } :=
  ⟨h.cells hl hi, rfl, fun c hc => .inl hc, .inl rfl, ⟨Nat.le_refl _, fun b hb hm => by show upd _ _ _ _ = _; rw [upd_ne _ _ (fun e => hm (.inl e))]⟩⟩
theorem c_dev_check {X : Nat → Prop} {p : DP} {d : Dev} {e : Int} {H : AH} (h : DevAt H p d) (hb : d.illegal ≤ 1000000000) : Acalls P0 S0 43 [dp p, I e] H fun v H' => v = I e ∧ DStep X H p H' p (dcheck d e) ∧ (e = 0 → H' = H) := by
  have hi := h.il
  refine Acalls.go m43 rfl ?_
  rw [slots0_2]; unfold b43
  (simp (disch := first | omega | assumption | exact id rfl | (simp only [okw_wr]; assumption)) only [h.blk, RD, RC, RO, RM, RT, AV.cells, Option.map_some, AV.one, AV.all1, i64_wrap, u64_wrap, u32_wrap, u8_wrap, Nat.zero_add, Nat.add_zero, Nat.reduceEqDiff, Nat.reduceLeDiff, Nat.reduceAdd, Nat.left_eq_add, Nat.add_eq_left, Nat.add_left_cancel_iff, reduceIte, eq_self, decide_true, decide_false, Bool.not_true, Bool.not_false, reduceCtorEq, List.getElem?_cons_zero, List.getElem?_cons_succ, List.set_cons_zero, List.set_cons_succ]; repeat' (first | (refine Gs_split (fun hb => ?_) (fun hb => ?_) <;> (simp only [hb]; (try simp only [decide_eq_true_eq, decide_eq_false_iff_not, Bool.not_eq_true', Bool.not_eq_false', ne_eq, Decidable.not_not, not_true_eq_false] at hb); (try simp (disch := first | omega | assumption | exact id rfl | (simp only [okw_wr]; assumption)) only [h.blk, RD, RC, RO, RM, RT, AV.cells, Option.map_some, AV.one, AV.all1, i64_wrap, u64_wrap, u32_wrap, u8_wrap, Nat.zero_add, Nat.add_zero, Nat.reduceEqDiff, Nat.reduceLeDiff, Nat.reduceAdd, Nat.left_eq_add, Nat.add_eq_left, Nat.add_left_cancel_iff, reduceIte, eq_self, decide_true, decide_false, Bool.not_true, Bool.not_false, reduceCtorEq, List.getElem?_cons_zero, List.getElem?_cons_succ, List.set_cons_zero, List.set_cons_succ]))) | (refine Is_split (fun hb => ?_) (fun hb => ?_) <;> (simp only [hb]; (try simp only [decide_eq_true_eq, decide_eq_false_iff_not, Bool.not_eq_true', Bool.not_eq_false', ne_eq, Decidable.not_not, not_true_eq_false] at hb); (try simp (disch := first | omega | assumption | exact id rfl | (simp only [okw_wr]; assumption)) only [h.blk, RD, RC, RO, RM, RT, AV.cells, Option.map_some, AV.one, AV.all1, i64_wrap, u64_wrap, u32_wrap, u8_wrap, Nat.zero_add, Nat.add_zero, Nat.reduceEqDiff, Nat.reduceLeDiff, Nat.reduceAdd, Nat.left_eq_add, Nat.add_eq_left, Nat.add_left_cancel_iff, reduceIte, eq_self, decide_true, decide_false, Bool.not_true, Bool.not_false, reduceCtorEq, List.getElem?_cons_zero, List.getElem?_cons_succ, List.set_cons_zero, List.set_cons_succ]))) | (refine Dg_split (fun hb => ?_) (fun hb => ?_) <;> (simp only [hb]; (try simp only [decide_eq_true_eq, decide_eq_false_iff_not, Bool.not_eq_true', Bool.not_eq_false', ne_eq, Decidable.not_not, not_true_eq_false] at hb); (try simp (disch := first | omega | assumption | exact id rfl | (simp only [okw_wr]; assumption)) only [h.blk, RD, RC, RO, RM, RT, AV.cells, Option.map_some, AV.one, AV.all1, i64_wrap, u64_wrap, u32_wrap, u8_wrap, Nat.zero_add, Nat.add_zero, Nat.reduceEqDiff, Nat.reduceLeDiff, Nat.reduceAdd, Nat.left_eq_add, Nat.add_eq_left, Nat.add_left_cancel_iff, reduceIte, eq_self, decide_true, decide_false, Bool.not_true, Bool.not_false, reduceCtorEq, List.getElem?_cons_zero, List.getElem?_cons_succ, List.set_cons_zero, List.set_cons_succ])))))
  · refine ⟨trivial, ?_, fun e => (hb e).elim⟩
    unfold dcheck; rw [if_pos hb]
    exact DStep.cells h h.lr (by omega)
  · refine ⟨trivial, ?_, fun _ => trivial⟩
    unfold dcheck; rw [if_neg (by simpa using hb)]
    exact DStep.refl h
theorem c_dev_count {X : Nat → Prop} {p : DP} {d : Dev} {H : AH} (h : DevAt H p d) : Acalls P0 S0 63 [dp p] H fun v H' => DStep X H p H' p (dcount d) := by
  have hi := h.lr
  refine Acalls.go m63 rfl ?_
  rw [slots0_1]; unfold b63
  (simp (disch := first | omega | assumption | exact id rfl | (simp only [okw_wr]; assumption)) only [h.blk, RD, RC, RO, RM, RT, AV.cells, Option.map_some, AV.one, AV.all1, i64_wrap, u64_wrap, u32_wrap, u8_wrap, Nat.zero_add, Nat.add_zero, Nat.reduceEqDiff, Nat.reduceLeDiff, Nat.reduceAdd, Nat.left_eq_add, Nat.add_eq_left, Nat.add_left_cancel_iff, reduceIte, eq_self, decide_true, decide_false, Bool.not_true, Bool.not_false, reduceCtorEq, List.getElem?_cons_zero, List.getElem?_cons_succ, List.set_cons_zero, List.set_cons_succ]; repeat' (first | (refine Gs_split (fun hb => ?_) (fun hb => ?_) <;> (simp only [hb]; (try simp only [decide_eq_true_eq, decide_eq_false_iff_not, Bool.not_eq_true', Bool.not_eq_false', ne_eq, Decidable.not_not, not_true_eq_false] at hb); (try simp (disch := first | omega | assumption | exact id rfl | (simp only [okw_wr]; assumption)) only [h.blk, RD, RC, RO, RM, RT, AV.cells, Option.map_some, AV.one, AV.all1, i64_wrap, u64_wrap, u32_wrap, u8_wrap, Nat.zero_add, Nat.add_zero, Nat.reduceEqDiff, Nat.reduceLeDiff, Nat.reduceAdd, Nat.left_eq_add, Nat.add_eq_left, Nat.add_left_cancel_iff, reduceIte, eq_self, decide_true, decide_false, Bool.not_true, Bool.not_false, reduceCtorEq, List.getElem?_cons_zero, List.getElem?_cons_succ, List.set_cons_zero, List.set_cons_succ]))) | (refine Is_split (fun hb => ?_) (fun hb => ?_) <;> (simp only [hb]; (try simp only [decide_eq_true_eq, decide_eq_false_iff_not, Bool.not_eq_true', Bool.not_eq_false', ne_eq, Decidable.not_not, not_true_eq_false] at hb); (try simp (disch := first | omega | assumption | exact id rfl | (simp only [okw_wr]; assumption)) only [h.blk, RD, RC, RO, RM, RT, AV.cells, Option.map_some, AV.one, AV.all1, i64_wrap, u64_wrap, u32_wrap, u8_wrap, Nat.zero_add, Nat.add_zero, Nat.reduceEqDiff, Nat.reduceLeDiff, Nat.reduceAdd, Nat.left_eq_add, Nat.add_eq_left, Nat.add_left_cancel_iff, reduceIte, eq_self, decide_true, decide_false, Bool.not_true, Bool.not_false, reduceCtorEq, List.getElem?_cons_zero, List.getElem?_cons_succ, List.set_cons_zero, List.set_cons_succ]))) | (refine Dg_split (fun hb => ?_) (fun hb => ?_) <;> (simp only [hb]; (try simp only [decide_eq_true_eq, decide_eq_false_iff_not, Bool.not_eq_true', Bool.not_eq_false', ne_eq, Decidable.not_not, not_true_eq_false] at hb); (try simp (disch := first | omega | assumption | exact id rfl | (simp only [okw_wr]; assumption)) only [h.blk, RD, RC, RO, RM, RT, AV.cells, Option.map_some, AV.one, AV.all1, i64_wrap, u64_wrap, u32_wrap, u8_wrap, Nat.zero_add, Nat.add_zero, Nat.reduceEqDiff, Nat.reduceLeDiff, Nat.reduceAdd, Nat.left_eq_add, Nat.add_eq_left, Nat.add_left_cancel_iff, reduceIte, eq_self, decide_true, decide_false, Bool.not_true, Bool.not_false, reduceCtorEq, List.getElem?_cons_zero, List.getElem?_cons_succ, List.set_cons_zero, List.set_cons_succ])))))
  · have hs := DStep.cells (X := X) h (left := d.left - 1) (down := decide (d.left - 1 = 0)) (ill := d.illegal) (by omega) h.il
    unfold dcount; rw [if_pos hb]
    have e : ∀ (x y z : AB), upd (upd (upd H.g p.b x) p.b y) p.b z = upd (upd H.g p.b y) p.b z := by
      intro x y z; funext j; simp only [upd]; split <;> rfl
    have e2 : ∀ (x y : AB), upd (upd H.g p.b x) p.b y = upd H.g p.b y := by
      intro x y; funext j; simp only [upd]; split <;> rfl
    simp only [e2]
    exact hs
  · unfold dcount; rw [if_neg hb]
    exact DStep.refl h
theorem c_dev_Arm {p : DP} {d : Dev} {n : Int} {H : AH} (h : DevAt H p d) (hn : -9223372036854775808 ≤ n ∧ n ≤ 9223372036854775807) : Acalls P0 S0 12 [dp p, I n] H fun v H' => DStep No H p H' p (darm d n) := by
  refine Acalls.go m12 rfl ?_
  rw [slots0_2]; unfold b12
  (simp (disch := first | omega | assumption | exact id rfl | (simp only [okw_wr]; assumption)) only [h.blk, RD, RC, RO, RM, RT, AV.cells, Option.map_some, AV.one, AV.all1, i64_wrap, u64_wrap, u32_wrap, u8_wrap, Nat.zero_add, Nat.add_zero, Nat.reduceEqDiff, Nat.reduceLeDiff, Nat.reduceAdd, Nat.left_eq_add, Nat.add_eq_left, Nat.add_left_cancel_iff, reduceIte, eq_self, decide_true, decide_false, Bool.not_true, Bool.not_false, reduceCtorEq, List.getElem?_cons_zero, List.getElem?_cons_succ, List.set_cons_zero, List.set_cons_succ]; repeat' (first | (refine Gs_split (fun hb => ?_) (fun hb => ?_) <;> (simp only [hb]; (try simp only [decide_eq_true_eq, decide_eq_false_iff_not, Bool.not_eq_true', Bool.not_eq_false', ne_eq, Decidable.not_not, not_true_eq_false] at hb); (try simp (disch := first | omega | assumption | exact id rfl | (simp only [okw_wr]; assumption)) only [h.blk, RD, RC, RO, RM, RT, AV.cells, Option.map_some, AV.one, AV.all1, i64_wrap, u64_wrap, u32_wrap, u8_wrap, Nat.zero_add, Nat.add_zero, Nat.reduceEqDiff, Nat.reduceLeDiff, Nat.reduceAdd, Nat.left_eq_add, Nat.add_eq_left, Nat.add_left_cancel_iff, reduceIte, eq_self, decide_true, decide_false, Bool.not_true, Bool.not_false, reduceCtorEq, List.getElem?_cons_zero, List.getElem?_cons_succ, List.set_cons_zero, List.set_cons_succ]))) | (refine Is_split (fun hb => ?_) (fun hb => ?_) <;> (simp only [hb]; (try simp only [decide_eq_true_eq, decide_eq_false_iff_not, Bool.not_eq_true', Bool.not_eq_false', ne_eq, Decidable.not_not, not_true_eq_false] at hb); (try simp (disch := first | omega | assumption | exact id rfl | (simp only [okw_wr]; assumption)) only [h.blk, RD, RC, RO, RM, RT, AV.cells, Option.map_some, AV.one, AV.all1, i64_wrap, u64_wrap, u32_wrap, u8_wrap, Nat.zero_add, Nat.add_zero, Nat.reduceEqDiff, Nat.reduceLeDiff, Nat.reduceAdd, Nat.left_eq_add, Nat.add_eq_left, Nat.add_left_cancel_iff, reduceIte, eq_self, decide_true, decide_false, Bool.not_true, Bool.not_false, reduceCtorEq, List.getElem?_cons_zero, List.getElem?_cons_succ, List.set_cons_zero, List.set_cons_succ]))) | (refine Dg_split (fun hb => ?_) (fun hb => ?_) <;> (simp only [hb]; (try simp only [decide_eq_true_eq, decide_eq_false_iff_not, Bool.not_eq_true', Bool.not_eq_false', ne_eq, Decidable.not_not, not_true_eq_false] at hb); (try simp (disch := first | omega | assumption | exact id rfl | (simp only [okw_wr]; assumption)) only [h.blk, RD, RC, RO, RM, RT, AV.cells, Option.map_some, AV.one, AV.all1, i64_wrap, u64_wrap, u32_wrap, u8_wrap, Nat.zero_add, Nat.add_zero, Nat.reduceEqDiff, Nat.reduceLeDiff, Nat.reduceAdd, Nat.left_eq_add, Nat.add_eq_left, Nat.add_left_cancel_iff, reduceIte, eq_self, decide_true, decide_false, Bool.not_true, Bool.not_false, reduceCtorEq, List.getElem?_cons_zero, List.getElem?_cons_succ, List.set_cons_zero, List.set_cons_succ])))))
  · unfold darm; rw [if_pos hb]; exact DStep.refl h
  · unfold darm; rw [if_neg (by simpa using hb)]
    have hs := DStep.cells (X := No) h (left := n) (down := decide (n = 0)) (ill := d.illegal) hn h.il
    have e2 : ∀ (x y : AB), upd (upd H.g p.b x) p.b y = upd H.g p.b y := by
      intro x y; funext j; simp only [upd]; split <;> rfl
    simp only [e2]
    exact hs
/-- a command, whatever it does -/
def dcmd (F : Dev → Dev) (d : Dev) (L : List Zone) (e : Int) : Dev × Int :=
  if d.down then (d, 2) else if e ≠ 0 then (dcheck d e, e) else (dcount (F { d with zones := L }), 0)
theorem c_dev_command {p : DP} {d : Dev} {l : AV} {L : List Zone} {e : Int} {f : Nat} {cap : List AV} {H : AH} (F : Dev → Dev) (h : DevAt H p d) (hi : d.illegal ≤ 1000000000) (hl : Sl H.g 2 zC l L) (hn : sb l < H.n) (hm : ¬ p.mut (sb l)) (hp : 0 < sb l) (hlen : L.length = (zones d.g).toNat)
    (hdo : d.down = false → e = 0 → ∀ H1, H1.n = H.n → (∀ c, c ≠ p.b → H1.g c = H.g c) → DevAt H1 { p with vz := l } { d with zones := L } → Acalls P0 S0 f cap H1 fun _ H2 => ∃ p2, DStep No H1 { p with vz := l } H2 p2 (F { d with zones := L })) :
    Acalls P0 S0 41 [dp p, l, I e, .fn f [] cap] H fun v H' => ∃ p', v = I (dcmd F d L e).2 ∧ DStep (fun c => c = sb l) H p H' p' (dcmd F d L e).1 := by
  refine Acalls.go m41 rfl ?_
  rw [slots0_4]; unfold b41
  (simp (disch := first | omega | assumption | exact id rfl | (simp only [okw_wr]; assumption)) only [h.blk, RD, RC, RO, RM, RT, AV.cells, Option.map_some, AV.one, AV.all1, i64_wrap, u64_wrap, u32_wrap, u8_wrap, Nat.zero_add, Nat.add_zero, Nat.reduceEqDiff, Nat.reduceLeDiff, Nat.reduceAdd, Nat.left_eq_add, Nat.add_eq_left, Nat.add_left_cancel_iff, reduceIte, eq_self, decide_true, decide_false, Bool.not_true, Bool.not_false, reduceCtorEq, List.getElem?_cons_zero, List.getElem?_cons_succ, List.set_cons_zero, List.set_cons_succ]; repeat' (first | (refine Gs_split (fun hb => ?_) (fun hb => ?_) <;> (simp only [hb]; (try simp only [decide_eq_true_eq, decide_eq_false_iff_not, Bool.not_eq_true', Bool.not_eq_false', ne_eq, Decidable.not_not, not_true_eq_false] at hb); (try simp (disch := first | omega | assumption | exact id rfl | (simp only [okw_wr]; assumption)) only [h.blk, RD, RC, RO, RM, RT, AV.cells, Option.map_some, AV.one, AV.all1, i64_wrap, u64_wrap, u32_wrap, u8_wrap, Nat.zero_add, Nat.add_zero, Nat.reduceEqDiff, Nat.reduceLeDiff, Nat.reduceAdd, Nat.left_eq_add, Nat.add_eq_left, Nat.add_left_cancel_iff, reduceIte, eq_self, decide_true, decide_false, Bool.not_true, Bool.not_false, reduceCtorEq, List.getElem?_cons_zero, List.getElem?_cons_succ, List.set_cons_zero, List.set_cons_succ]))) | (refine Is_split (fun hb => ?_) (fun hb => ?_) <;> (simp only [hb]; (try simp only [decide_eq_true_eq, decide_eq_false_iff_not, Bool.not_eq_true', Bool.not_eq_false', ne_eq, Decidable.not_not, not_true_eq_false] at hb); (try simp (disch := first | omega | assumption | exact id rfl | (simp only [okw_wr]; assumption)) only [h.blk, RD, RC, RO, RM, RT, AV.cells, Option.map_some, AV.one, AV.all1, i64_wrap, u64_wrap, u32_wrap, u8_wrap, Nat.zero_add, Nat.add_zero, Nat.reduceEqDiff, Nat.reduceLeDiff, Nat.reduceAdd, Nat.left_eq_add, Nat.add_eq_left, Nat.add_left_cancel_iff, reduceIte, eq_self, decide_true, decide_false, Bool.not_true, Bool.not_false, reduceCtorEq, List.getElem?_cons_zero, List.getElem?_cons_succ, List.set_cons_zero, List.set_cons_succ]))) | (refine Dg_split (fun hb => ?_) (fun hb => ?_) <;> (simp only [hb]; (try simp only [decide_eq_true_eq, decide_eq_false_iff_not, Bool.not_eq_true', Bool.not_eq_false', ne_eq, Decidable.not_not, not_true_eq_false] at hb); (try simp (disch := first | omega | assumption | exact id rfl | (simp only [okw_wr]; assumption)) only [h.blk, RD, RC, RO, RM, RT, AV.cells, Option.map_some, AV.one, AV.all1, i64_wrap, u64_wrap, u32_wrap, u8_wrap, Nat.zero_add, Nat.add_zero, Nat.reduceEqDiff, Nat.reduceLeDiff, Nat.reduceAdd, Nat.left_eq_add, Nat.add_eq_left, Nat.add_left_cancel_iff, reduceIte, eq_self, decide_true, decide_false, Bool.not_true, Bool.not_false, reduceCtorEq, List.getElem?_cons_zero, List.getElem?_cons_succ, List.set_cons_zero, List.set_cons_succ])))))
  · have r : dcmd F d L e = (d, 2) := by unfold dcmd; rw [if_pos hb]
    rw [r]
    exact ⟨p, rfl, DStep.refl h⟩
  · have hd' : d.down = false := by simpa using hb
    refine (c_dev_check (X := fun c => c = sb l) (e := e) h hi).mono ?_
    rintro _ H1 ⟨rfl, s1, e1⟩
    (simp (disch := first | omega | assumption | exact id rfl | (simp only [okw_wr]; assumption)) only [RC, RO, RM, RT, AV.cells, Option.map_some, AV.one, AV.all1, i64_wrap, u64_wrap, u32_wrap, u8_wrap, Nat.zero_add, Nat.add_zero, Nat.reduceEqDiff, Nat.reduceLeDiff, Nat.reduceAdd, Nat.left_eq_add, Nat.add_eq_left, Nat.add_left_cancel_iff, reduceIte, eq_self, decide_true, decide_false, Bool.not_true, Bool.not_false, reduceCtorEq, List.getElem?_cons_zero, List.getElem?_cons_succ, List.set_cons_zero, List.set_cons_succ]; repeat' (first | (refine Gs_split (fun hb => ?_) (fun hb => ?_) <;> (simp only [hb]; (try simp only [decide_eq_true_eq, decide_eq_false_iff_not, Bool.not_eq_true', Bool.not_eq_false', ne_eq, Decidable.not_not, not_true_eq_false] at hb); (try simp (disch := first | omega | assumption | exact id rfl | (simp only [okw_wr]; assumption)) only [RC, RO, RM, RT, AV.cells, Option.map_some, AV.one, AV.all1, i64_wrap, u64_wrap, u32_wrap, u8_wrap, Nat.zero_add, Nat.add_zero, Nat.reduceEqDiff, Nat.reduceLeDiff, Nat.reduceAdd, Nat.left_eq_add, Nat.add_eq_left, Nat.add_left_cancel_iff, reduceIte, eq_self, decide_true, decide_false, Bool.not_true, Bool.not_false, reduceCtorEq, List.getElem?_cons_zero, List.getElem?_cons_succ, List.set_cons_zero, List.set_cons_succ]))) | (refine Is_split (fun hb => ?_) (fun hb => ?_) <;> (simp only [hb]; (try simp only [decide_eq_true_eq, decide_eq_false_iff_not, Bool.not_eq_true', Bool.not_eq_false', ne_eq, Decidable.not_not, not_true_eq_false] at hb); (try simp (disch := first | omega | assumption | exact id rfl | (simp only [okw_wr]; assumption)) only [RC, RO, RM, RT, AV.cells, Option.map_some, AV.one, AV.all1, i64_wrap, u64_wrap, u32_wrap, u8_wrap, Nat.zero_add, Nat.add_zero, Nat.reduceEqDiff, Nat.reduceLeDiff, Nat.reduceAdd, Nat.left_eq_add, Nat.add_eq_left, Nat.add_left_cancel_iff, reduceIte, eq_self, decide_true, decide_false, Bool.not_true, Bool.not_false, reduceCtorEq, List.getElem?_cons_zero, List.getElem?_cons_succ, List.set_cons_zero, List.set_cons_succ]))) | (refine Dg_split (fun hb => ?_) (fun hb => ?_) <;> (simp only [hb]; (try simp only [decide_eq_true_eq, decide_eq_false_iff_not, Bool.not_eq_true', Bool.not_eq_false', ne_eq, Decidable.not_not, not_true_eq_false] at hb); (try simp (disch := first | omega | assumption | exact id rfl | (simp only [okw_wr]; assumption)) only [RC, RO, RM, RT, AV.cells, Option.map_some, AV.one, AV.all1, i64_wrap, u64_wrap, u32_wrap, u8_wrap, Nat.zero_add, Nat.add_zero, Nat.reduceEqDiff, Nat.reduceLeDiff, Nat.reduceAdd, Nat.left_eq_add, Nat.add_eq_left, Nat.add_left_cancel_iff, reduceIte, eq_self, decide_true, decide_false, Bool.not_true, Bool.not_false, reduceCtorEq, List.getElem?_cons_zero, List.getElem?_cons_succ, List.set_cons_zero, List.set_cons_succ])))))
    · have r : dcmd F d L e = (dcheck d e, e) := by unfold dcmd; rw [if_neg (by rw [hd']; decide), if_pos hb]
      rw [r]
      exact ⟨p, rfl, s1⟩
    · rename_i hne
      have he : e = 0 := by simpa using hb
      have e1' := e1 he
      have l1 := hl.one1
      subst e1'
      simp (disch := first | omega | assumption | exact id rfl | (simp only [okw_wr]; assumption)) only [h.blk, RD, List.nil_append, RC, RO, RM, RT, AV.cells, Option.map_some, AV.one, AV.all1, i64_wrap, u64_wrap, u32_wrap, u8_wrap, Nat.zero_add, Nat.add_zero, Nat.reduceEqDiff, Nat.reduceLeDiff, Nat.reduceAdd, Nat.left_eq_add, Nat.add_eq_left, Nat.add_left_cancel_iff, reduceIte, eq_self, decide_true, decide_false, Bool.not_true, Bool.not_false, reduceCtorEq, List.getElem?_cons_zero, List.getElem?_cons_succ, List.set_cons_zero, List.set_cons_succ]
      refine Acalls_cut fun H2 e2 => ?_
      have hat : DevAt H2 { p with vz := l } { d with zones := L } := by rw [e2]; exact h.zoned hl hn hm hp hlen
      have hn2 : H2.n = H1.n := by rw [e2]
      have hk2 : ∀ c, c ≠ p.b → H2.g c = H1.g c := fun c hc => by rw [e2]; exact upd_ne _ _ hc
      refine (hdo hd' he H2 hn2 hk2 hat).mono ?_
      rintro _ H3 ⟨p3, s3⟩
      simp (disch := first | omega | assumption | exact id rfl | (simp only [okw_wr]; assumption)) only [RC, RO, RM, RT, AV.cells, Option.map_some, AV.one, AV.all1, i64_wrap, u64_wrap, u32_wrap, u8_wrap, Nat.zero_add, Nat.add_zero, Nat.reduceEqDiff, Nat.reduceLeDiff, Nat.reduceAdd, Nat.left_eq_add, Nat.add_eq_left, Nat.add_left_cancel_iff, reduceIte, eq_self, decide_true, decide_false, Bool.not_true, Bool.not_false, reduceCtorEq, List.getElem?_cons_zero, List.getElem?_cons_succ, List.set_cons_zero, List.set_cons_succ]
      have hpb : dp p = dp p3 := by rw [dp, dp, s3.b]
      have cc := c_dev_count (X := No) s3.at'
      rw [← hpb] at cc
      refine cc.mono ?_
      rintro v H4 s4
      simp (disch := first | omega | assumption | exact id rfl | (simp only [okw_wr]; assumption)) only [RC, RO, RM, RT, AV.cells, Option.map_some, AV.one, AV.all1, i64_wrap, u64_wrap, u32_wrap, u8_wrap, Nat.zero_add, Nat.add_zero, Nat.reduceEqDiff, Nat.reduceLeDiff, Nat.reduceAdd, Nat.left_eq_add, Nat.add_eq_left, Nat.add_left_cancel_iff, reduceIte, eq_self, decide_true, decide_false, Bool.not_true, Bool.not_false, reduceCtorEq, List.getElem?_cons_zero, List.getElem?_cons_succ, List.set_cons_zero, List.set_cons_succ]
      have r : dcmd F d L e = (dcount (F { d with zones := L }), 0) := by unfold dcmd; rw [if_neg (by rw [hd']; decide), if_neg (by simpa using he)]
      rw [r]
      refine ⟨p3, rfl, ?_⟩
      have s5 := s3.trans s4
      have q5 := s5.fr.n
      refine ⟨s5.at', s5.b, ?_, ?_, by omega, ?_⟩
      · intro c hc
        rcases s5.fm c hc with h1 | h1
        · exact .inl h1
        · exact .inr (by omega)
      · rcases s5.fz with h1 | h1 | h1
        · exact .inr (.inl h1)
        · exact h1.elim
        · exact .inr (.inr (by omega))
      · intro c hc hmc
        rw [s5.keep ⟨by omega, hmc⟩, hk2 c (fun e => hmc (.inl e))]
end Go.Eng
namespace Go.Eng
open Wr
set_option linter.unusedVariables false
set_option linter.unusedSimpArgs false
theorem fill_w {a : At} {p : Page} : fillA ([AV.int .i64 0, .int .i64 0] ++ List.replicate 64 (AV.int .u8 0)) [(0, 2, .agg (aC a)), (2, 64, .agg (bC p))] = some (wC (a, p)) := by
  have hl := bC_len p
  simp only [fillA, AV.cells, aC_len, hl]
  simp [wC, aC, hl]
theorem fill_w1 {w : At × Page} : fillA (zerosA ([AV.int .i64 0, .int .i64 0] ++ List.replicate 64 (AV.int .u8 0)) 1) [(0, 66, .agg (wC w))] = some (wC w) := by
  have hl := wC_len w
  simp only [fillA, AV.cells, hl]
  simp [zerosA, hl]
theorem DevAt.nowed {H : AH} {p : DP} {d : Dev} (h : DevAt H p d) {x : AB} {M : List (At × Page)} (hm : Mp (upd H.g p.rn x) aK pC p.rn M) : DevAt ⟨upd H.g p.rn x, H.n⟩ p { d with now := M } := by
  obtain ⟨n1, n2, n3, n4, n5, n6, n7, n8, n9, n10⟩ := h.ne
  have hz : ¬ sb p.vz = p.rn := fun e => h.nz (.inr (.inr (.inr (.inl e))))
  refine ⟨(upd_ne _ _ n3).trans h.blk, h.gok, h.zs.fr (upd_ne _ _ hz), h.zl, h.mf.fr (upd_ne _ _ n5), h.ms.fr (upd_ne _ _ n6), hm, ?_, h.lt, h.pos, h.ne, h.nz, h.lr, h.il⟩
  refine ⟨h.cs.el, h.cs.one, h.cs.hlo, ?_⟩
  rcases h.cs.cells with h1 | ⟨c, sl, cs, k1, k2, k3, k4, k5⟩
  · exact .inl h1
  · exact .inr ⟨c, sl, cs, k1, k2, k3, (upd_ne _ _ (Ne.symm n10)).trans k4, k5⟩
theorem c_dev_Write1 {p : DP} {d : Dev} {a : At} {pg : Page} {bp bd ba : Nat} {ep ed ea : TypeId} {H : AH} (h : DevAt H p d) (hp : H.g bp = .cells (bC pg) ep false) (hd : H.g bd = .cells [dp p] ed false) (ha : H.g ba = .cells (aC a) ea false)
    (hlt : (p.b < bd ∧ p.rf < bd ∧ p.rs < bd ∧ p.rn < bd ∧ sb p.vc < bd) ∧ bd < ba ∧ ba < bp ∧ bp < H.n ∧ bp < sb p.vz) (hc : d.cached.length ≤ 1000000) :
    Acalls P0 S0 42 [.ptr (some (bp, 0)), .ptr (some (bd, 0)), .ptr (some (ba, 0))] H fun _ H' => ∃ p', DStep No H p H' p' { d with now := mset d.now a pg, cached := d.cached ++ [(a, pg)] } := by
  refine Acalls.go m42 rfl ?_
  rw [slots0_3]; unfold b42
  have tp := bC_len pg
  obtain ⟨x, hx1, hx2⟩ := h.mn.set key_a a pg
  obtain ⟨⟨l1, l2, l3, l4, l5⟩, l6, l7, l8, l9⟩ := hlt
  have one1 := h.cs.sl.one1
  simp (disch := first | omega | assumption | exact id rfl | (simp only [okw_wr]; assumption)) only [h.blk, RD, hp, hd, ha, hx1, h.us, true_and, fill_w, fill_w1, RC, RO, RM, RT, AV.cells, Option.map_some, AV.one, AV.all1, i64_wrap, u64_wrap, u32_wrap, u8_wrap, Nat.zero_add, Nat.add_zero, Nat.reduceEqDiff, Nat.reduceLeDiff, Nat.reduceAdd, Nat.left_eq_add, Nat.add_eq_left, Nat.add_left_cancel_iff, reduceIte, eq_self, decide_true, decide_false, Bool.not_true, Bool.not_false, reduceCtorEq, List.getElem?_cons_zero, List.getElem?_cons_succ, List.set_cons_zero, List.set_cons_succ]
  have hn := h.nowed hx2
  have z4 := h.lt.2.2.2.2.1
  have o2 : Own ⟨upd (upd (upd H.g p.rn x) H.n (.cells (wC (a, pg)) 87 false)) bd .dead, H.n + 1⟩ 1 66 87 wC p.vc d.cached := by
    refine ⟨hn.cs.el, hn.cs.one, by show 1 ≤ H.n + 1; omega, ?_⟩
    rcases hn.cs.cells with k | ⟨c, sl, cs, k1, k2, k3, k4, k5⟩
    · exact .inl k
    · refine .inr ⟨c, sl, cs, k1, k2, by show sb p.vc < H.n + 1; omega, ?_, k5⟩
      simp (disch := omega) only [upd_ne]
      exact k4
  have sx : Sl (⟨upd (upd (upd H.g p.rn x) H.n (.cells (wC (a, pg)) 87 false)) bd .dead, H.n + 1⟩ : AH).g 66 wC (.slc (some (H.n, 0)) 1 1 0) [(a, pg)] :=
    Sl.ofCells wC_len (by simp (disch := omega) only [upd_ne, upd_same, List.flatMap_cons, List.flatMap_nil, List.append_nil]; rfl) rfl (by omega) (.inl rfl)
  refine Os_app o2 sx (by omega) (by simp; omega) ?_
  intro v' H' ov hnn hk hv
  have hnn' : H.n + 1 ≤ H'.n := hnn
  obtain ⟨c', sl', cs', k1, k2, k3, k4, k5⟩ : ∃ c sl cs, v' = .slc (some (sb v', 0)) (d.cached ++ [(a, pg)]).length c sl ∧ 1 ≤ sb v' ∧ sb v' < H'.n ∧ H'.g (sb v') = .cells cs 87 false ∧ cs.length = c * 66 ∧ (d.cached ++ [(a, pg)]).length ≤ c ∧ cs.take ((d.cached ++ [(a, pg)]).length * 66) = (d.cached ++ [(a, pg)]).flatMap wC ∧ (sl = 0 ∨ sl = 66) := by
    rcases ov.cells with ⟨h1, _⟩ | h1
    · simp at h1
    · exact h1
  have hv' : sb v' = sb p.vc ∨ H.n + 1 ≤ sb v' := by
    rcases hv with h1 | h1 | h1
    · exact .inl h1
    · exact .inr h1
    · rw [h1] at k1; cases k1
  have one2 := ov.sl.one1
  have hkk : ∀ c, c < bd → c ≠ sb p.vc → H'.g c = upd H.g p.rn x c := fun c h1 h2 => by
    rw [hk c (show c < H.n + 1 by omega) (.inl h2)]
    simp (disch := omega) only [upd_ne]
  have hkz : H'.g (sb p.vz) = H.g (sb p.vz) := by
    rw [hk _ (show sb p.vz < H.n + 1 by omega) (.inl (show sb p.vz ≠ sb p.vc by omega))]
    simp (disch := omega) only [upd_ne, h.us]
  have hb9 : H'.g p.b = .cells (dC d.g p.vz p.rf p.rs p.rn p.vc d.left d.down d.illegal) 84 false := by
    rw [hkk _ l1 h.ne.2.2.2.2.2.2.1, h.us.2.2.2.2.2.2.2.2.2.2.2.2.2.2.2.1]; exact h.blk
  simp (disch := first | omega | assumption | exact id rfl | (simp only [okw_wr]; assumption)) only [hb9, RD, restL_nil, RC, RO, RM, RT, AV.cells, Option.map_some, AV.one, AV.all1, i64_wrap, u64_wrap, u32_wrap, u8_wrap, Nat.zero_add, Nat.add_zero, Nat.reduceEqDiff, Nat.reduceLeDiff, Nat.reduceAdd, Nat.left_eq_add, Nat.add_eq_left, Nat.add_left_cancel_iff, reduceIte, eq_self, decide_true, decide_false, Bool.not_true, Bool.not_false, reduceCtorEq, List.getElem?_cons_zero, List.getElem?_cons_succ, List.set_cons_zero, List.set_cons_succ]
  obtain ⟨n1, n2, n3, n4, n5, n6, n7, n8, n9, n10⟩ := h.ne
  have w1 : p.b ≠ sb v' := by rcases hv' with e | e <;> omega
  have w2 : p.rf ≠ sb v' := by rcases hv' with e | e <;> omega
  have w3 : p.rs ≠ sb v' := by rcases hv' with e | e <;> omega
  have w4 : p.rn ≠ sb v' := by rcases hv' with e | e <;> omega
  have w5 : sb v' ≠ bd := by rcases hv' with e | e <;> omega
  have w6 : sb p.vz ≠ sb v' := by rcases hv' with e | e <;> omega
  have hG : ∀ c, c ≠ bd → c ≠ p.b → upd (upd H'.g bd (H.g bd)) p.b (.cells (dC d.g p.vz p.rf p.rs p.rn v' d.left d.down d.illegal) 84 false) c = H'.g c := fun c h1 h2 => by rw [upd_ne _ _ h2, upd_ne _ _ h1]
  refine ⟨{ p with vc := v' }, ?_, rfl, ?_, .inl rfl, ?_⟩
  · refine ⟨upd_same _ _ _, h.gok, h.zs.fr ((hG _ (by omega) (by omega)).trans hkz), h.zl, ?_, ?_, ?_, ?_, ⟨by show p.b < H'.n; omega, by show p.rf < H'.n; omega, by show p.rs < H'.n; omega, by show p.rn < H'.n; omega, by show sb p.vz < H'.n; omega, k3⟩, h.pos, ⟨n1, n2, n3, n4, n5, n6, w1, w2, w3, w4⟩, ?_, h.lr, h.il⟩
    · exact h.mf.fr ((hG _ (by omega) (Ne.symm n1)).trans (by rw [hkk _ l2 n8, upd_ne _ _ n5]))
    · exact h.ms.fr ((hG _ (by omega) (Ne.symm n2)).trans (by rw [hkk _ l3 n9, upd_ne _ _ n6]))
    · exact hx2.fr ((hG _ (by omega) (Ne.symm n3)).trans (by rw [hkk _ l4 n10]))
    · refine ⟨ov.el, ov.one, by show 1 ≤ H'.n; omega, .inr ⟨c', sl', cs', k1, k2, k3, ?_, k5⟩⟩
      show upd (upd H'.g bd _) p.b _ (sb v') = _
      rw [hG _ w5 (Ne.symm w1)]; exact k4
    · rintro (e | e | e | e | e)
      · exact h.nz (.inl e)
      · exact h.nz (.inr (.inl e))
      · exact h.nz (.inr (.inr (.inl e)))
      · exact h.nz (.inr (.inr (.inr (.inl e))))
      · exact w6 e.1
  · rintro c (e | e | e | e | e)
    · exact .inl (.inl e)
    · exact .inl (.inr (.inl e))
    · exact .inl (.inr (.inr (.inl e)))
    · exact .inl (.inr (.inr (.inr (.inl e))))
    · rcases hv' with e2 | e2
      · exact .inl (.inr (.inr (.inr (.inr ⟨e.1.trans e2, e.2⟩))))
      · exact .inr (by rw [e.1]; show H.n ≤ sb v'; omega)
  · refine ⟨by show H.n ≤ H'.n; omega, fun c hc2 hm => ?_⟩
    show upd (upd H'.g bd _) p.b _ c = H.g c
    by_cases e : c = bd
    · subst e
      rw [upd_ne _ _ (fun e => hm (.inl e)), upd_same]
    · have hcc : c ≠ sb p.vc ∨ c < 1 := by
        by_cases e0 : c = sb p.vc
        · right; have : ¬ 1 ≤ c := fun h1 => hm (.inr (.inr (.inr (.inr ⟨e0, h1⟩)))); omega
        · exact .inl e0
      rw [hG _ e (fun e => hm (.inl e)), hk c (by show c < H.n + 1; omega) hcc]
      dsimp only
      rw [upd_ne _ _ e, upd_ne _ _ (by omega), upd_ne _ _ (fun e => hm (.inr (.inr (.inr (.inl e)))))]
end Go.Eng
