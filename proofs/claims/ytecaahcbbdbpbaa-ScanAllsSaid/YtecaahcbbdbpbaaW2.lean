/-
  E17: The engine, part 17: one operation, whichever.
  E16: The engine, part 16: copy, clear, len, min, max; and one operation, whichever.
  E15: The engine, part 15: append, copy, clear, len, min, max.
  E14: The engine, part 14: maps that are written; the builtins.
  E13: The engine, part 13: the operations on maps; the builtins.
  E12: The engine, part 12: maps.
  E11: The engine, part 11: aggregates and slices built and made; maps.
  E10: The engine, part 10: slice expressions, aggregates built, slices made.
  E9: The engine, part 9: places, aggregates, slice expressions, made memory.
-/
import Derived.Test.YtecaahcbbdbpbaaW1
namespace Go.Eng
set_option linter.unusedVariables false
set_option linter.unusedSimpArgs false

section
variable {P : Program} {N : Nat} {μ : Mu} {ok : Ok} {H : AH} {w : World} {nid n' : Nat}

theorem Loc.add (l : Loc) (o n : Nat) : (l.at o).add n = l.at (o + n) := by
  unfold Loc.at Addr.add
  split
  · rename_i h; subst h; rfl
  · simp [Nat.add_assoc]

theorem ti_desc {t : TypeId} {d : TypeDesc} {a : Bool} {s b : Nat} {z : Option (List AV)} (h : ti P t = some ⟨d, a, s, b, z⟩) (w : World) : (underlying t).run P w = .ok d w := under h w

theorem gives_fieldAddr {t : TypeId} {x v : AV} {x' : Value} {f : Nat} (h : afieldAddr P t x f = some v) (hx : VRel μ ok x x') : Gives P μ ok w (Instr.fieldAt t x' f) v := by
  unfold afieldAddr at h
  split at h
  · rename_i fields _ _ _ _ b o hi
    obtain ⟨hok, rfl⟩ := hx.ptr_inv
    split at h
    · rename_i fd hfd
      split at h
      · rename_i i hfi
        split at h
        · rename_i hnz
          obtain rfl := Option.some.inj h
          refine ⟨.pointer (some ((μ b).at (o + fd.offset))), ?_, by simp only [VRel]; exact ⟨hok, trivial⟩⟩
          simp [Instr.fieldAt, ti_desc hi, hfd, Instr.sureAddr, fieldPlace, run_sizeOf hfi, hnz, Loc.add]
        · cases h
      · cases h
    · cases h
  · cases h

theorem part_gives {t : TypeId} {cs : List AV} {v : AV} {off : Nat} (h : apart' P t cs off = some v) {cs' : Array Value} (hr : VRels μ ok cs cs'.toList) : Gives P μ ok w (part t cs' off) v := by
  unfold apart' at h
  split at h
  · rename_i i hi
    split at h
    · rename_i hagg
      split at h
      · rename_i hle
        obtain rfl := Option.some.inj h
        refine ⟨.agg (cs'.extract off (off + i.size)), by simp [part, run_isAgg hi, hagg, run_sizeOf hi], ?_⟩
        simp only [VRel]
        refine ⟨_, rfl, ?_⟩
        have := (hr.drop off).take i.size
        simpa [Array.toList_extract, List.extract_eq_take_drop] using this
      · cases h
    · rename_i hagg
      obtain ⟨u, hu, hur⟩ := hr.get h
      have hu' : cs'[off]? = some u := by simpa using hu
      exact ⟨u, by simp [part, run_isAgg hi, hagg, hu'], hur⟩
  · cases h

theorem gives_field {t : TypeId} {x v : AV} {x' : Value} {f : Nat} (h : afield P t x f = some v) (hx : VRel μ ok x x') : Gives P μ ok w (Instr.field t x' f) v := by
  unfold afield at h
  split at h
  · rename_i fields _ _ _ _ cs hi
    obtain ⟨cs', rfl, hr⟩ := hx.agg_inv
    split at h
    · rename_i fd hfd
      obtain ⟨u, h1, h2⟩ := part_gives (w := w) h hr
      exact ⟨u, by simp [Instr.field, ti_desc hi, hfd, asAgg, h1], h2⟩
    · cases h
  · cases h

theorem gives_index {t : TypeId} {x ix v : AV} {x' ix' : Value} (h : aindex P t x ix = some v) (hx : VRel μ ok x x') (hix : VRel μ ok ix ix') : Gives P μ ok w (Instr.index t x' ix') v := by
  unfold aindex at h
  split at h
  · rename_i len elem _ _ _ _ cs k i hi
    obtain ⟨cs', rfl, hr⟩ := hx.agg_inv
    simp only [VRel] at hix; subst hix
    split at h
    · rename_i ie hie
      split at h
      · rename_i hb
        obtain ⟨u, h1, h2⟩ := part_gives (w := w) h hr
        exact ⟨u, by simp [Instr.index, asIntOf, ti_desc hi, hb, run_sizeOf hie, h1], h2⟩
      · cases h
    · cases h
  · rename_i _ _ _ _ s k i hi
    simp only [VRel] at hx hix; subst hx; subst hix
    split at h
    · rename_i h0
      split at h
      · rename_i b hb
        obtain rfl := Option.some.inj h
        exact ⟨.int .u8 b.toNat, by simp [Instr.index, asIntOf, ti_desc hi, h0, hb], by simp only [VRel]⟩
      · cases h
    · cases h
  · cases h

theorem gives_indexAddr {t : TypeId} {x ix v : AV} {x' ix' : Value} (h : aindexAddr P t x ix = some v) (hx : VRel μ ok x x') (hix : VRel μ ok ix ix') : Gives P μ ok w (Instr.indexAt t x' ix') v := by
  unfold aindexAddr at h
  split at h
  · rename_i len elem _ _ _ _ b o k i hi
    obtain ⟨hok, rfl⟩ := hx.ptr_inv
    simp only [VRel] at hix; subst hix
    split at h
    · rename_i ie hie
      split at h
      · rename_i hb
        obtain rfl := Option.some.inj h
        refine ⟨.pointer (some ((μ b).at (o + i.toNat * ie.size))), ?_, by simp only [VRel]; exact ⟨hok, trivial⟩⟩
        simp [Instr.indexAt, asIntOf, ti_desc hi, Instr.sureAddr, hb, run_sizeOf hie, Loc.add]
      · cases h
    · cases h
  · rename_i elem _ _ _ _ b o len c sl k i hi
    simp only [VRel] at hx hix; subst hix
    obtain ⟨hok, c', rfl, _⟩ := hx
    split at h
    · rename_i ie hie
      split at h
      · rename_i hb
        obtain rfl := Option.some.inj h
        refine ⟨.pointer (some ((μ b).at (o + i.toNat * ie.size))), ?_, by simp only [VRel]; exact ⟨hok, trivial⟩⟩
        simp [Instr.indexAt, asIntOf, ti_desc hi, hb, run_sizeOf hie, Loc.add]
      · cases h
    · cases h
  · cases h

theorem bound_run {v : Option AV} {v' : Option Value} (hv : match v, v' with | none, none => True | some a, some b => VRel μ ok a b | _, _ => False) {dflt top top' n : Nat} (h : abound v dflt top = some n) (ht : top ≤ top') (code : BoundsCode) :
    (match v' with | some x => (Instr.sliceBound x top' code).run P w = .ok n w | none => n = dflt) ∧ (v.isSome → n ≤ top) := by
  unfold abound at h
  split at h
  · cases v' with
    | none => exact ⟨(Option.some.inj h).symm, by simp⟩
    | some x => exact hv.elim
  · rename_i k i
    cases v' with
    | none => exact hv.elim
    | some x =>
      simp only [VRel] at hv; subst hv
      split at h
      · rename_i hb
        obtain rfl := Option.some.inj h
        refine ⟨?_, fun _ => by omega⟩
        have : 0 ≤ i ∧ i ≤ (top' : Int) := ⟨hb.1, by omega⟩
        simp [Instr.sliceBound, asIntOf, this]
      · cases h
  · cases h

def OptRel (μ : Mu) (ok : Ok) (v : Option AV) (v' : Option Value) : Prop := match v, v' with | none, none => True | some a, some b => VRel μ ok a b | _, _ => False

theorem bounds_run {isSlice : Bool} {lo hi mx : Option AV} {lo' hi' mx' : Option Value} (hlo : OptRel μ ok lo lo') (hhi : OptRel μ ok hi hi') (hmx : OptRel μ ok mx mx') {len cap cap' m h l : Nat} (hc : cap ≤ cap')
    (hm : abound mx cap cap = some m) (hh : (if mx.isSome && hi.isNone then none else abound hi len m) = some h) (hl : abound lo 0 h = some l) :
    ∃ m', (Instr.sliceBounds isSlice len cap' lo' hi' mx').run P w = .ok (l, h, m') w ∧ (mx.isSome → m' = m) ∧ (mx = none → m' = cap' ∧ m = cap) ∧ (lo.isSome → l ≤ h) ∧ (hi.isSome → h ≤ m) ∧ (lo = none → l = 0) := by
  have hm' := fun code => bound_run (P := P) (w := w) (top' := cap') hmx hm hc code
  have hl' := fun code => bound_run (P := P) (w := w) (top' := h) hlo hl (Nat.le_refl _) code
  cases mx with
  | none =>
    cases mx' with
    | some x => exact hmx.elim
    | none =>
      simp only [abound, Option.some.injEq] at hm
      subst hm
      simp only [Option.isSome_none, Bool.false_and, Bool.false_eq_true, if_false] at hh
      have hh' := fun code => bound_run (P := P) (w := w) (top' := cap') hhi hh hc code
      refine ⟨cap', ?_, by simp, fun _ => ⟨rfl, rfl⟩, fun e => (hl' .index).2 e, fun e => (hh' .index).2 e, ?_⟩
      · cases hi' with
        | none =>
          have e1 := (hh' .index).1
          simp only at e1
          subst e1
          cases lo' with
          | none => have e2 := (hl' .index).1; simp only at e2; subst e2; simp [Instr.sliceBounds]
          | some y => have e2 := fun c => (hl' c).1; simp only at e2; simp [Instr.sliceBounds, e2]
        | some x =>
          have e1 := fun c => (hh' c).1
          simp only at e1
          cases lo' with
          | none => have e2 := (hl' .index).1; simp only at e2; subst e2; simp [Instr.sliceBounds, e1]
          | some y => have e2 := fun c => (hl' c).1; simp only at e2; simp [Instr.sliceBounds, e1, e2]
      · intro e; subst e; simp only [abound, Option.some.injEq] at hl; exact hl.symm
  | some a =>
    cases mx' with
    | none => exact hmx.elim
    | some x =>
      have e0 := fun c => (hm' c).1
      simp only at e0
      cases hi with
      | none => simp at hh
      | some b =>
        simp only [Option.isSome_some, Option.isNone_some, Bool.and_false, Bool.false_eq_true, if_false] at hh
        have hh' := fun code => bound_run (P := P) (w := w) (top' := m) hhi hh (Nat.le_refl _) code
        cases hi' with
        | none => exact hhi.elim
        | some y =>
          have e1 := fun c => (hh' c).1
          simp only at e1
          refine ⟨m, ?_, fun _ => rfl, by simp, fun e => (hl' .index).2 e, fun e => (hh' .index).2 e, ?_⟩
          · cases lo' with
            | none => have e2 := (hl' .index).1; simp only at e2; subst e2; simp [Instr.sliceBounds, e0, e1]
            | some y => have e2 := fun c => (hl' c).1; simp only at e2; simp [Instr.sliceBounds, e0, e1, e2]
          · intro e; subst e; simp only [abound, Option.some.injEq] at hl; exact hl.symm

end
end Go.Eng
namespace Go.Eng
set_option linter.unusedVariables false
set_option linter.unusedSimpArgs false

section
variable {P : Program} {N : Nat} {μ : Mu} {ok : Ok} {H : AH} {w : World} {nid n' : Nat}

theorem mul_size_sub {a b c l m' s : Nat} (h : a + b + m' * s ≤ c) (hl : l ≤ m') : a + (b + l * s) + (m' - l) * s ≤ c := by
  have : l * s + (m' - l) * s = m' * s := by rw [← Nat.add_mul]; congr 1; omega
  omega

theorem gives_slice {t : TypeId} {x v : AV} {x' : Value} {lo hi mx : Option AV} {lo' hi' mx' : Option Value} (h : aslice P t x lo hi mx = some v) (hx : VRel μ ok x x') (hlo : OptRel μ ok lo lo') (hhi : OptRel μ ok hi hi') (hmx : OptRel μ ok mx mx') :
    Gives P μ ok w (Instr.sliceAt t x' lo' hi' mx') v := by
  unfold aslice at h
  split at h
  · -- a string
    rename_i _ _ _ _ s hi0
    simp only [VRel] at hx; subst hx
    split at h
    · rename_i hh heq
      rw [Option.map_eq_some_iff] at h
      obtain ⟨l, hl, rfl⟩ := h
      have hm : abound none s.size s.size = some s.size := rfl
      have hh2 : (if (none : Option AV).isSome && hi.isNone then none else abound hi s.size s.size) = some hh := by simpa using heq
      obtain ⟨m', hrun, _, _, _, _, _⟩ := bounds_run (P := P) (w := w) (isSlice := false) (len := s.size) hlo hhi (mx := none) (mx' := none) trivial (Nat.le_refl s.size) hm hh2 hl
      cases mx' with
      | some y => exact hmx.elim
      | none =>
        refine ⟨.string (s.extract l hh), ?_, by simp only [VRel]⟩
        simp [Instr.sliceAt, Instr.slice, ti_desc hi0, hrun]
    · cases h
  · rename_i elem _ _ _ _ a len cap sl hi0
    split at h
    · rename_i ie m hie hm
      split at h
      · rename_i hh heq
        split at h
        · rename_i l hl
          obtain ⟨a', cap', rfl, hcap, hshape⟩ : ∃ a' cap', x' = .slice a' len cap' ∧ cap ≤ cap' ∧ (match a, a' with | none, none => cap' = 0 ∧ len = 0 ∧ cap = 0 | some p, some q => ok p.1 ∧ q = (μ p.1).at p.2 ∧ (cap' = cap ∨ (sl ≠ 0 ∧ cap ≤ cap' ∧ (μ p.1).base + p.2 + cap' * sl ≤ (μ p.1).room)) | _, _ => False) := by
            cases a with
            | none => simp only [VRel] at hx; obtain ⟨rfl, rfl, rfl, rfl⟩ := hx; exact ⟨none, 0, rfl, Nat.le_refl _, rfl, rfl, rfl⟩
            | some p =>
              simp only [VRel] at hx
              obtain ⟨hok, c', rfl, hc⟩ := hx
              refine ⟨_, c', rfl, ?_, hok, rfl, hc⟩
              rcases hc with rfl | hc
              · exact Nat.le_refl _
              · exact hc.2.1
          obtain ⟨m', hrun, hm1, hm2, hl1, hh1, hl0⟩ := bounds_run (P := P) (w := w) (isSlice := true) (len := len) hlo hhi hmx hcap hm heq hl
          have hrun' : (Instr.sliceAt t (.slice a' len cap') lo' hi' mx').run P w = .ok (.slice (if m' = l then a' else a'.map (·.add (l * ie.size))) (hh - l) (m' - l)) w := by
            simp [Instr.sliceAt, Instr.slice, ti_desc hi0, hrun, run_sizeOf hie]
          refine ⟨_, hrun', ?_⟩
          cases a with
          | none =>
            cases a' with
            | some q => exact hshape.elim
            | none =>
              obtain ⟨rfl, rfl, rfl⟩ := hshape
              simp only at h
              split at h
              · rename_i hl00; subst hl00
                obtain rfl := Option.some.inj h
                simp only [VRel, Nat.sub_zero]
                have hm0 : m = 0 := by
                  cases mx with
                  | none => exact (hm2 rfl).2
                  | some y => have := (bound_run (P := P) (w := w) hmx hm (Nat.le_refl 0) .index).2 rfl; omega
                have hm0' : m' = 0 := by
                  cases mx with
                  | none => exact (hm2 rfl).1
                  | some y => rw [hm1 rfl, hm0]
                subst hm0; subst hm0'
                have hh0 : hh = 0 := by
                  split at heq
                  · cases heq
                  · cases hi with
                    | none => simp only [abound, Option.some.injEq] at heq; omega
                    | some y => have := hh1 rfl; omega
                subst hh0
                simp
              · cases h
          | some p =>
            obtain ⟨b, o⟩ := p
            cases a' with
            | none => exact hshape.elim
            | some q =>
              obtain ⟨hok, rfl, hc⟩ := hshape
              simp only at h
              split at h
              · cases h
              · rename_i hsl
                have hsl' : sl = 0 ∨ sl = ie.size := by
                  rcases Nat.decEq sl 0 with h0 | h0
                  · rcases Nat.decEq sl ie.size with h1 | h1
                    · exact absurd (by simp [h0, h1]) hsl
                    · exact .inr h1
                  · exact .inl h0
                split at h
                · rename_i hms
                  obtain rfl := Option.some.inj h
                  have e := hm1 hms
                  subst e
                  simp only [VRel]
                  refine ⟨hok, m' - l, ?_, .inl rfl⟩
                  by_cases e2 : m' = l
                  · simp [e2]
                  · simp [e2, Loc.add]
                · rename_i hms
                  have hmn : mx = none := by cases mx <;> simp_all
                  obtain ⟨e1, e2⟩ := hm2 hmn
                  subst e1; subst e2
                  split at h
                  · rename_i hl00; subst hl00
                    obtain rfl := Option.some.inj h
                    simp only [VRel, Nat.sub_zero]
                    refine ⟨hok, m', ?_, hc⟩
                    by_cases e2 : m' = 0
                    · simp [e2]
                    · simp [e2, Nat.zero_mul, Loc.add]
                  · split at h
                    · rename_i hlt
                      obtain ⟨hlt, hnz⟩ := hlt
                      obtain rfl := Option.some.inj h
                      simp only [VRel]
                      have hne : ¬ m' = l := by omega
                      refine ⟨hok, m' - l, by simp [hne, Loc.add], ?_⟩
                      rcases hc with rfl | ⟨h1, h2, h3⟩
                      · exact .inl rfl
                      · refine .inr ⟨h1, by omega, ?_⟩
                        rcases hsl' with h4 | h4
                        · exact absurd h4 h1
                        · rw [h4] at h3 ⊢
                          exact mul_size_sub h3 (by omega)
                    · cases h
        · cases h
      · cases h
    · cases h
  · rename_i n elem _ _ _ _ b o hi0
    obtain ⟨hok, rfl⟩ := hx.ptr_inv
    split at h
    · rename_i ie m hie hm
      split at h
      · rename_i hh heq
        split at h
        · rename_i l hl
          obtain ⟨m', hrun, hm1, hm2, hl1, hh1, hl0⟩ := bounds_run (P := P) (w := w) (isSlice := false) (len := n) hlo hhi hmx (Nat.le_refl n) hm heq hl
          have hmm : m' = m := by
            cases mx with
            | none => obtain ⟨e1, e2⟩ := hm2 rfl; omega
            | some y => exact hm1 rfl
          subst hmm
          have hrun' : (Instr.sliceAt t (.pointer (some ((μ b).at o))) lo' hi' mx').run P w = .ok (.slice (some (if m' = l then (μ b).at o else ((μ b).at o).add (l * ie.size))) (hh - l) (m' - l)) w := by
            simp [Instr.sliceAt, ti_desc hi0, Instr.sureAddr, hrun, run_sizeOf hie]
          refine ⟨_, hrun', ?_⟩
          split at h
          · rename_i e
            obtain rfl := Option.some.inj h
            simp only [VRel]
            exact ⟨hok, m' - l, by simp [e], .inl rfl⟩
          · rename_i e
            obtain rfl := Option.some.inj h
            simp only [VRel]
            exact ⟨hok, m' - l, by simp [Ne.symm e, Loc.add], .inl rfl⟩
        · cases h
      · cases h
    · cases h
  · cases h

/-! ### aggregates built -/

theorem fill_fold {cells : Array Value} : ∀ (vs : List Value) (off k : Nat) (cells : Array Value), off + k + vs.length ≤ cells.size →
    ((vs.zipIdx k).foldl (fun cs (c, j) => cs.setIfInBounds (off + j) c) cells).toList = cells.toList.take (off + k) ++ vs ++ cells.toList.drop (off + k + vs.length)
  | [], off, k, cells, _ => by simp
  | v :: vs, off, k, cells, h => by
    simp only [List.zipIdx_cons, List.foldl_cons]
    rw [fill_fold (cells := cells) vs off (k + 1) (cells.setIfInBounds (off + k) v) (by simp at h ⊢; omega)]
    have e := list_seg_step cells.toList (off + k) v vs (by simp at h ⊢; omega)
    simpa [Array.toList_setIfInBounds, Nat.add_assoc] using e

theorem fill_rel {place : Nat → Option (Nat × Nat)} : ∀ {ps : List (Nat × Nat × AV)} {qs : List (Nat × Value)} {cs : List AV} {cells : Array Value} {out : List AV},
    (∀ i : Nat, (ps[i]?).isSome = (qs[i]?).isSome) → (∀ (i : Nat) p q, ps[i]? = some p → qs[i]? = some q → place q.1 = some (p.1, p.2.1) ∧ VRel μ ok p.2.2 q.2) → VRels μ ok cs cells.toList → fillA cs ps = some out →
    ∃ out', Instr.fill place cells qs = some out' ∧ VRels μ ok out out'.toList
  | [], [], cs, cells, out, _, _, hr, h => by
    simp only [fillA, Option.some.injEq] at h; subst h
    exact ⟨cells, rfl, hr⟩
  | [], q :: qs, _, _, _, hl, _, _, _ => by have := hl 0; simp at this
  | p :: ps, [], _, _, _, hl, _, _, _ => by have := hl 0; simp at this
  | (off, size, v) :: ps, (i, u) :: qs, cs, cells, out, hl, hp, hr, h => by
    simp only [fillA] at h
    split at h
    · rename_i hc
      obtain ⟨h1, h2⟩ := hp 0 _ _ rfl rfl
      have hlen := hr.length
      have hvc := h2.cells
      have hul := hvc.length
      have hsz : u.cells.size = size := by rw [← hc.1, ← hul]; simp
      have hle : off + u.cells.size ≤ cells.size := by rw [hsz]; have : cells.toList.length = cells.size := by simp
                                                       omega
      have hfold : (u.cells.zipIdx.foldl (fun cs (x : Value × Nat) => cs.setIfInBounds (off + x.2) x.1) cells).toList = cells.toList.take off ++ u.cells.toList ++ cells.toList.drop (off + size) := by
        have := fill_fold (cells := cells) u.cells.toList off 0 cells (by simpa using hle)
        rw [← Array.foldl_toList]
        simp only [Array.toList_zipIdx, Nat.add_zero] at this ⊢
        rw [this]
        simp [hsz]
      have hr' : VRels μ ok (cs.take off ++ v.cells ++ cs.drop (off + size)) (u.cells.zipIdx.foldl (fun cs (x : Value × Nat) => cs.setIfInBounds (off + x.2) x.1) cells).toList := by
        rw [hfold]
        exact ((hr.take off).append hvc).append (hr.drop (off + size))
      obtain ⟨out', e1, e2⟩ := fill_rel (ps := ps) (qs := qs) (fun i => by simpa using hl (i + 1)) (fun i p q hpi hqi => hp (i + 1) p q (by simpa using hpi) (by simpa using hqi)) hr' h
      refine ⟨out', ?_, e2⟩
      simp only [Instr.fill, h1]
      rw [if_neg (by simp [hsz]; omega)]
      exact e1
    · cases h

end
end Go.Eng
namespace Go.Eng
set_option linter.unusedVariables false
set_option linter.unusedSimpArgs false

section
variable {P : Program} {N : Nat} {μ : Mu} {ok : Ok} {H : AH} {w : World} {nid n' : Nat}

/-- the parts of a literal -/
def PRel (μ : Mu) (ok : Ok) (ps : List (Nat × AV)) (qs : List (Nat × Value)) : Prop :=
  (∀ i : Nat, (ps[i]?).isSome = (qs[i]?).isSome) ∧ ∀ (i : Nat) p q, ps[i]? = some p → qs[i]? = some q → p.1 = q.1 ∧ VRel μ ok p.2 q.2

theorem parts_rel {ρ : Operand → Option AV} {ρc : Operand → Value} (h : ORel μ ok ρ ρc) : ∀ {xs : List (Nat × Operand)} {ps : List (Nat × AV)}, allOf (fun p : Nat × Operand => (ρ p.2).map fun v => (p.1, v)) xs = some ps → PRel μ ok ps (xs.map fun p => (p.1, ρc p.2))
  | [], ps, e => by simp only [allOf, Option.some.injEq] at e; subst e; exact ⟨by simp, by simp⟩
  | (i, x) :: xs, ps, e => by
    simp only [allOf] at e
    split at e
    · rename_i b bs h1 h2
      rw [Option.map_eq_some_iff] at h1
      obtain ⟨v, hv, rfl⟩ := h1
      obtain rfl := Option.some.inj e
      obtain ⟨g1, g2⟩ := parts_rel h h2
      refine ⟨fun k => ?_, fun k p q hp hq => ?_⟩
      · cases k with
        | zero => simp
        | succ k => simpa using g1 k
      · cases k with
        | zero => simp at hp hq; subst hp; subst hq; exact ⟨rfl, h _ _ hv⟩
        | succ k => exact g2 k p q (by simpa using hp) (by simpa using hq)
    · cases e

theorem allOf_get {α β : Type} {f : α → Option β} : ∀ {xs : List α} {ys : List β}, allOf f xs = some ys → (∀ i : Nat, (xs[i]?).isSome = (ys[i]?).isSome) ∧ ∀ (i : Nat) x y, xs[i]? = some x → ys[i]? = some y → f x = some y
  | [], ys, e => by simp only [allOf, Option.some.injEq] at e; subst e; exact ⟨by simp, by simp⟩
  | x :: xs, ys, e => by
    simp only [allOf] at e
    split at e
    · rename_i b bs h1 h2
      obtain rfl := Option.some.inj e
      obtain ⟨g1, g2⟩ := allOf_get h2
      refine ⟨fun k => ?_, fun k p q hp hq => ?_⟩
      · cases k with
        | zero => simp
        | succ k => simpa using g1 k
      · cases k with
        | zero => simp at hp hq; subst hp; subst hq; exact h1
        | succ k => exact g2 k p q (by simpa using hp) (by simpa using hq)
    · cases e

theorem mapM_run {α β : Type} (P : Program) (w : World) (f : α → Sem β) (g : α → β) : ∀ (l : List α), (∀ x ∈ l, (f x).run P w = .ok (g x) w) → (l.mapM f).run P w = .ok (l.map g) w
  | [], _ => by simp
  | x :: l, h => by
    simp only [List.mapM_cons, Sem.run_bind, h x (by simp), Result.andThen_ok, mapM_run P w f g l (fun y hy => h y (by simp [hy])), Sem.run_pure, List.map_cons]

theorem gives_build {t : TypeId} {ps : List (Nat × AV)} {qs : Array (Nat × Value)} {v : AV} (h : abuild P t ps = some v) (hp : PRel μ ok ps qs.toList) : Gives P μ ok w (Instr.build t qs) v := by
  unfold abuild at h
  split at h
  · rename_i fields _ _ _ z hi
    obtain ⟨zv, hz, hzr⟩ := run_zero hi (z := z) rfl w
    split at h
    · rename_i ps' hps
      split at h
      · rename_i hall
        rw [Option.map_eq_some_iff] at h
        obtain ⟨out, hout, rfl⟩ := h
        obtain ⟨g1, g2⟩ := allOf_get hps
        have sz : ∀ f ∈ fields.toList, ∃ i, ti P f.type = some i := by
          intro f hf
          have := Array.all_eq_true_iff_forall_mem.1 hall f (Array.mem_toList_iff.1 hf)
          exact Option.isSome_iff_exists.1 this
        have hplaces : ∃ places : Array (Nat × Nat), (fields.mapM fun (f : Field) => do pure (f.offset, ← sizeOf f.type)).run P w = .ok places w ∧ ∀ (k : Nat) f i, fields[k]? = some f → ti P f.type = some i → places[k]? = some (f.offset, i.size) := by
          refine ⟨(fields.toList.map fun f : Field => (f.offset, ((ti P f.type).map (·.size)).getD 0)).toArray, ?_, ?_⟩
          · rw [← Array.toArray_toList (xs := fields), ]
            rw [List.mapM_toArray]
            have := mapM_run P w (fun f : Field => do pure (f.offset, ← sizeOf f.type)) (fun f : Field => (f.offset, ((ti P f.type).map (·.size)).getD 0)) fields.toList (fun f hf => by
              obtain ⟨i, hfi⟩ := sz f hf
              simp [run_sizeOf hfi, hfi])
            simp only [Sem.run_map, this, Result.andThen_ok]
          · intro k f i hf hfi
            have : fields.toList[k]? = some f := by simpa using hf
            simp [hf, hfi]
        obtain ⟨places, hpl, hplk⟩ := hplaces
        obtain ⟨out', e1, e2⟩ := fill_rel (place := (places[·]?)) (ps := ps') (qs := qs.toList) (cells := zv.cells) (fun i => (g1 i).symm.trans (hp.1 i)) (fun i p q hpi hqi => by
          have hs : (ps[i]?).isSome = true := by rw [g1 i, hpi]; rfl
          obtain ⟨p0, hp0⟩ := Option.isSome_iff_exists.1 hs
          have hf := g2 i p0 p hp0 hpi
          obtain ⟨j1, j2⟩ := hp.2 i p0 q hp0 hqi
          split at hf
          · rename_i fd hfd
            split at hf
            · rename_i ii hii
              obtain rfl := Option.some.inj hf
              exact ⟨by rw [← j1]; exact hplk _ _ _ hfd hii, j2⟩
            · cases hf
          · cases hf) (hzr μ ok) hout
        refine ⟨.agg out', ?_, by simp only [VRel]; exact ⟨_, rfl, e2⟩⟩
        simp only [bind_pure_comp] at hpl
        simp [Instr.build, hz, ti_desc hi, hpl, e1]
      · cases h
    · cases h
  · rename_i n elem _ _ _ z hi
    obtain ⟨zv, hz, hzr⟩ := run_zero hi (z := z) rfl w
    split at h
    · rename_i ie hie
      rw [Option.map_eq_some_iff] at h
      obtain ⟨out, hout, rfl⟩ := h
      obtain ⟨out', e1, e2⟩ := fill_rel (place := fun i => some (i * ie.size, ie.size)) (ps := ps.map fun p => (p.1 * ie.size, ie.size, p.2)) (qs := qs.toList) (cells := zv.cells) (fun i => by simpa using hp.1 i) (fun i p q hpi hqi => by
        rw [List.getElem?_map, Option.map_eq_some_iff] at hpi
        obtain ⟨p0, hp0, rfl⟩ := hpi
        obtain ⟨j1, j2⟩ := hp.2 i p0 q hp0 hqi
        exact ⟨by rw [j1], j2⟩) (hzr μ ok) hout
      refine ⟨.agg out', ?_, by simp only [VRel]; exact ⟨_, rfl, e2⟩⟩
      simp [Instr.build, hz, ti_desc hi, run_sizeOf hie, e1]
    · cases h
  · cases h

theorem zerosA_length {z : List AV} : ∀ n, (zerosA z n).length = n * z.length
  | 0 => by simp [zerosA]
  | n + 1 => by simp [zerosA, zerosA_length n, Nat.add_mul, Nat.add_comm]

theorem zerosA_get {z : List AV} : ∀ {n i : Nat}, i < n * z.length → (zerosA z n)[i]? = z[i % z.length]?
  | 0, i, h => by simp at h
  | n + 1, i, h => by
    have hz : 0 < z.length := by
      rcases Nat.eq_zero_or_pos z.length with h0 | h0
      · rw [h0] at h; simp at h
      · exact h0
    simp only [zerosA]
    by_cases hi : i < z.length
    · rw [List.getElem?_append_left hi, Nat.mod_eq_of_lt hi]
    · have h1 : i - z.length < n * z.length := by rw [Nat.add_mul, Nat.one_mul] at h; omega
      rw [List.getElem?_append_right (by omega), zerosA_get h1]
      have e : i % z.length = (i - z.length) % z.length := Nat.mod_eq_sub_mod (by omega)
      rw [e]

theorem zeros_rel {z : List AV} {zv : Array Value} (h : VRels μ ok z zv.toList) (n : Nat) : VRels μ ok (zerosA z n) (((Array.range (n * z.length)).map fun i => zv[i % zv.size]!).toList) := by
  have hl : zv.size = z.length := by simpa using h.length
  refine VRels.of_get (by simp [zerosA_length]) fun i a v ha hv => ?_
  have hi : i < n * z.length := by
    have := (List.getElem?_eq_some_iff.1 ha).1
    rwa [zerosA_length] at this
  rw [zerosA_get hi] at ha
  obtain ⟨u, hu, hur⟩ := h.get ha
  have hzpos : i % z.length < z.length := Nat.mod_lt _ (by
    rcases Nat.eq_zero_or_pos z.length with h0 | h0
    · rw [h0] at hi; simp at hi
    · exact h0)
  have hv' : v = zv[i % zv.size]! := by
    simp only [Array.toList_map, Array.toList_range, List.getElem?_map, List.getElem?_range hi, Option.map_some, Option.some.injEq] at hv
    exact hv.symm
  have hu' : zv[i % zv.size]! = u := by
    have hu2 : zv[i % z.length]? = some u := by simpa using hu
    rw [hl, getElem!_def, hu2]
  rw [hv', hu']
  exact hur

theorem fits_buildSlice (S : Sim μ ok H w) (hnid : ¬ ok nid) (hN : N ≤ nid) (h1 : H.n ≤ n') (h2 : nid < n') {t : TypeId} {len : Nat} {ps : List (Nat × AV)} {qs : Array (Nat × Value)} {r : ARes} (h : abuildSlice P nid t len ps = some r) (hp : PRel μ ok ps qs.toList) :
    Fits P N μ ok H w nid n' (Instr.buildSlice t len qs) r := by
  unfold abuildSlice at h
  split at h
  · rename_i elem _ _ _ _ hi
    split at h
    · rename_i ie hie
      split at h
      · rename_i z hz
        split at h
        · rename_i hc
          obtain ⟨hc1, hc2⟩ := hc
          rw [Option.map_eq_some_iff] at h
          obtain ⟨cs, hcs, rfl⟩ := h
          obtain ⟨zv, hzr, hzrel⟩ := run_zero hie hz w
          have hzl : zv.cells.size = z.length := by simpa using (hzrel μ ok).length
          have hzero : ∃ zc : Array Value, (len * ie.size = 0 → zc = #[]) ∧ (len * ie.size ≠ 0 → zc = zv.cells) ∧ VRels μ ok (zerosA z len) ((Array.range (len * ie.size)).map (fun i => zc[i % zc.size]!)).toList := by
            by_cases h0 : len * ie.size = 0
            · refine ⟨#[], fun _ => rfl, fun h => absurd h0 h, ?_⟩
              rw [h0]
              have : zerosA z len = [] := List.eq_nil_of_length_eq_zero (by rw [zerosA_length, hc2, h0])
              rw [this]; simp [VRels]
            · refine ⟨zv.cells, fun h => absurd h h0, fun _ => rfl, ?_⟩
              rw [← hc2]; exact zeros_rel (hzrel μ ok) len
          obtain ⟨zc, hzc0, hzc1, hzcr⟩ := hzero
          obtain ⟨out', e1, e2⟩ := fill_rel (place := fun i => some (i * ie.size, ie.size)) (ps := ps.map fun p => (p.1 * ie.size, ie.size, p.2)) (qs := qs.toList) (fun i => by simpa using hp.1 i) (fun i p q hpi hqi => by
            rw [List.getElem?_map, Option.map_eq_some_iff] at hpi
            obtain ⟨p0, hp0, rfl⟩ := hpi
            obtain ⟨j1, j2⟩ := hp.2 i p0 q hp0 hqi
            exact ⟨by rw [j1], j2⟩) hzcr hcs
          have hle : ¬ (2 ^ 24 < len * ie.size) := by omega
          have hrun : (Instr.buildSlice t len qs).run P w = .ok (.slice (some ⟨w.heap.size, 0, none⟩) len len) (w.alloc (.cells out' elem)) := by
            by_cases h0 : len * ie.size = 0
            · have := hzc0 h0
              subst this
              simp only [Instr.buildSlice, Sem.run_bind, ti_desc hi, Result.andThen_ok, run_sizeOf hie, gt_iff_lt, hle, if_false, if_pos h0, Sem.run_pure, e1, newRow, run_newObj, World.alloc]
            · have := hzc1 h0
              subst this
              simp only [Instr.buildSlice, Sem.run_bind, ti_desc hi, Result.andThen_ok, run_sizeOf hie, gt_iff_lt, hle, if_false, if_neg h0, Sem.run_pure, hzr, e1, newRow, run_newObj, World.alloc]
          exact ⟨_, _, hrun, (fits_new S hnid hN h1 h2 e2 elem).2 len len len 0 (.inl rfl)⟩
        · cases h
      · cases h
    · cases h
  · cases h

theorem fits_makeSlice (S : Sim μ ok H w) (hnid : ¬ ok nid) (hN : N ≤ nid) (h1 : H.n ≤ n') (h2 : nid < n') {t : TypeId} {l c : AV} {l' c' : Value} {r : ARes} (h : amakeSlice P nid t l c = some r) (hl : VRel μ ok l l') (hc : VRel μ ok c c') :
    Fits P N μ ok H w nid n' (Instr.makeSlice t l' c') r := by
  unfold amakeSlice at h
  split at h
  · rename_i elem _ _ _ _ kl l kc c hi
    simp only [VRel] at hl hc; subst hl; subst hc
    split at h
    · rename_i ie hie
      split at h
      · rename_i z hz
        split at h
        · rename_i hcond
          obtain ⟨b1, b2, b3, b4, b5⟩ := hcond
          obtain rfl := Option.some.inj h
          obtain ⟨info, hinfo, hu, _, hs, hb, hzz⟩ := ti_parts hie
          obtain ⟨zv, hzv, hzs, _⟩ := hzz z hz
          have hzr : VRels μ ok z zv.cells.toList := allOf_scalar hzs μ ok
          have hu0 := und hi
          simp only [tooMany] at b3 b4
          have hrun := run_make (P := P) w t elem info zv hu0 hinfo hzv kl kc l c b1 b2 (by rw [hb]; have : (ie.bytes : Int) * c = c * ie.bytes := Int.mul_comm _ _; omega) (by omega)
          have hcells : VRels μ ok (zerosA z c.toNat) (madeCells zv.cells (c.toNat * info.size)).toList := by
            have := zeros_rel hzr c.toNat
            unfold madeCells
            rw [hs, ← b5]; exact this
          exact ⟨_, _, hrun, (fits_new S hnid hN h1 h2 hcells elem).2 l.toNat c.toNat c.toNat 0 (.inl rfl)⟩
        · cases h
      · cases h
    · cases h
  · cases h

theorem fits_makeMap (S : Sim μ ok H w) (hnid : ¬ ok nid) (hN : N ≤ nid) (h1 : H.n ≤ n') (h2 : nid < n') {t : TypeId} :
    Fits P N μ ok H w nid n' (Instr.makeMap t none) (.val (.map (some nid)) { new := some (.map [] 0 false) }) := by
  have hb : BRel (upd μ nid ⟨w.heap.size, 0, 0⟩) (fun b => ok b ∨ b = nid) (w.alloc (.map #[] 0)) ⟨w.heap.size, 0, 0⟩ (.map [] 0 false) :=
    ⟨#[], heap_alloc_new w _, rfl, by simp⟩
  obtain ⟨hs, hst⟩ := S.alloc (N := N) hnid hN h1 h2 (x := .map [] 0 false) rfl (l := ⟨w.heap.size, 0, 0⟩) rfl hb
  refine ⟨.map (some w.heap.size), w.alloc (.map #[] 0), by simp [Instr.makeMap], _, _, ?_, by simpa [AH.appAt, applyWs] using hs, by simpa [AH.appAt, applyWs] using hst, fun b h => h⟩
  simp only [VRel, upd_same]
  exact ⟨.inr trivial, trivial⟩

end
end Go.Eng
namespace Go.Eng
set_option linter.unusedVariables false
set_option linter.unusedSimpArgs false

section
variable {P : Program} {N : Nat} {μ : Mu} {ok : Ok} {H : AH} {w : World} {nid n' : Nat}

theorem keyOk_parts {t : TypeId} {k : AV} (h : keyOk P t k = true) : ∃ i ks, ti P t = some i ∧ leaves P 9 t = some ks ∧ fits ks k.cells = true ∧ (i.agg = true ↔ ∃ cs, k = .agg cs) ∧
    (match i.desc with | .struct fs => ∀ f ∈ fs.toList, ∃ j, ti P f.type = some j ∧ j.agg = false | .array _ _ => False | _ => True) := by
  unfold keyOk at h
  split at h
  · rename_i i ks hi hks
    simp only [Bool.and_eq_true] at h
    obtain ⟨⟨h1, h2⟩, h3⟩ := h
    refine ⟨i, ks, hi, hks, h1, ?_, ?_⟩
    · cases k <;> simp_all
    · generalize i.desc = d at h3
      cases d <;> simp only [Bool.false_eq_true] at h3 ⊢
      rename_i fs
      intro f hf
      have := List.all_eq_true.1 h3 f hf
      split at this
      · rename_i j hj; exact ⟨j, hj, by simpa using this⟩
      · cases this
  · cases h

theorem key_fit {t : TypeId} {i : TI} {k : AV} {k' : Value} {ks : List Leaf} (hi : ti P t = some i) (hks : leaves P 9 t = some ks) (hf : fits ks k.cells = true) (ha : i.agg = true ↔ ∃ cs, k = .agg cs) (hr : VRel μ ok k k') : Fit μ ok i.agg k.cells k' := by
  unfold Fit
  split
  · rename_i hagg
    obtain ⟨cs, rfl⟩ := ha.1 hagg
    exact hr.agg_inv
  · rename_i hagg
    have hn : ¬ ∃ cs, k = .agg cs := fun e => hagg (ha.2 e)
    have hc : k.cells = [k] := by
      cases k <;> first | rfl | exact absurd ⟨_, rfl⟩ hn
    exact ⟨k, hc, hr⟩

theorem check_run {t : TypeId} {k : AV} {k' : Value} (h : keyOk P t k = true) (hr : VRel μ ok k k') (em : Bool) (w : World) : (Instr.checkKey em 10000 t k').run P w = .ok () w := by
  obtain ⟨i, ks, hi, hks, hf, ha, hd⟩ := keyOk_parts h
  have hfit := key_fit hi hks hf ha hr
  have hu := und hi
  have hag := agg_of_desc hi
  have hks' := hks
  simp only [leaves, hi] at hks'
  have key : ∀ n, (Instr.checkKey em (n + 2) t k').run P w = .ok () w := by
    intro n
    generalize hdd : i.desc = d at hd hu hag hks'
    cases d <;> simp only [] at hd hag hks' <;> try (cases hks'; done)
    case bool => simp only [Instr.checkKey, Sem.run_bind, run_underlying hu, Result.andThen_ok]; rfl
    case int => simp only [Instr.checkKey, Sem.run_bind, run_underlying hu, Result.andThen_ok]; rfl
    case string => simp only [Instr.checkKey, Sem.run_bind, run_underlying hu, Result.andThen_ok]; rfl
    case struct fs =>
      rw [hag] at hfit
      simp only [Fit, if_true] at hfit
      obtain ⟨cs', rfl, hcs⟩ := hfit
      rw [show n + 2 = (n + 1) + 1 from rfl, Instr.checkKey]
      simp only [Sem.run_bind, run_underlying hu, Result.andThen_ok]
      rw [← Array.forIn_toList]
      by_cases hst : P.stoodInHeld t = true
      · rw [if_pos hst] at hks'; cases hks'
      · rw [if_neg hst] at hks'
        have hl : ∀ (fl : List Field) (o : Nat) (ks : List Leaf), (∀ f ∈ fl, ∃ j, ti P f.type = some j ∧ j.agg = false) → leavesF P (leaves P 8) o fl = some ks → fits ks (k.cells.drop o) = true →
            (forIn fl PUnit.unit fun f r => (do if f.name ≠ "_" then do { let a ← part f.type cs' f.offset; Instr.checkKey em (n + 1) f.type a; pure (ForInStep.yield PUnit.unit) } else pure (ForInStep.yield PUnit.unit) : Sem (ForInStep PUnit))).run P w = .ok PUnit.unit w := by
          intro fl
          induction fl with
          | nil => intros; simp
          | cons f fl ih =>
            intro o ks hall hlv hfi
            simp only [leavesF] at hlv
            split at hlv
            · rename_i hc
              split at hlv
              · rename_i l j hl1 hj
                split at hlv
                · rename_i hsz
                  rw [Option.map_eq_some_iff] at hlv
                  obtain ⟨ks', hk', rfl⟩ := hlv
                  obtain ⟨p1, p2⟩ := fits_append hfi
                  rw [hsz.1, take_drop_le] at p2
                  have hx := fits_length p1
                  obtain ⟨j', hj', hja⟩ := hall f (by simp)
                  rw [hj] at hj'
                  obtain rfl := Option.some.inj hj'
                  have hs1 := leaves_size hl1 hj hja
                  have hlt : o + j.size ≤ k.cells.length := by simp [hsz.1] at hx; omega
                  obtain ⟨u, r1, f1⟩ := eq_part hj hcs hlt (fun e => (leaves_size hl1 hj e).1) w
                  have hn : f.name ≠ "_" := by simpa using hc.2
                  have hcheck : (Instr.checkKey em (n + 1) f.type u).run P w = .ok () w := by
                    have huj := und hj
                    have haj := agg_of_desc hj
                    have hl1' := hl1
                    simp only [leaves, hj] at hl1'
                    generalize j.desc = dj at huj haj hl1'
                    cases dj <;> simp only [] at haj hl1' <;> first | (cases hl1'; done) | (rw [haj] at hja; cases hja; done) | (simp only [Instr.checkKey, Sem.run_bind, run_underlying huj, Result.andThen_ok]; rfl)
                  have := ih (o + j.size) ks' (fun g hg => hall g (by simp [hg])) hk' p2
                  simp only [List.forIn_cons, Sem.run_bind, hn, ne_eq, not_false_eq_true, if_true, hc.1, r1, Result.andThen_ok, hcheck, Sem.run_pure]
                  exact this
                · cases hlv
              · cases hlv
            · cases hlv
        have := hl fs.toList 0 ks hd hks' (by simpa using hf)
        simp at this ⊢
        simp [this]
  exact key 9998

/-- what a search in a map's entries comes to -/
def ERel (μ : Mu) (ok : Ok) (es : List (AV × AV × Nat)) (es' : List MapEntry) : Prop :=
  es'.length = es.length ∧ ∀ (i : Nat) (e : AV × AV × Nat) (e' : MapEntry), es[i]? = some e → es'[i]? = some e' → VRel μ ok e.1 e'.key ∧ VRel μ ok e.2.1 e'.val ∧ e'.born = e.2.2

theorem ERel.tail {e : AV × AV × Nat} {e' : MapEntry} {es : List (AV × AV × Nat)} {es' : List MapEntry} (h : ERel μ ok (e :: es) (e' :: es')) : (VRel μ ok e.1 e'.key ∧ VRel μ ok e.2.1 e'.val ∧ e'.born = e.2.2) ∧ ERel μ ok es es' :=
  ⟨h.2 0 e e' rfl rfl, by simpa using h.1, fun i x y hx hy => h.2 (i + 1) x y (by simpa using hx) (by simpa using hy)⟩

theorem aeqK_scalar {k e : AV} {b : Bool} (h : ¬ ∃ cs, k = .agg cs) (hb : aeqK k e = some b) : aeq1 k e = some b := by
  cases k <;> cases e <;> first | exact hb | exact absurd ⟨_, rfl⟩ h | simp [aeqK] at hb

theorem aeqK_run {t : TypeId} {k e : AV} {k' e' : Value} {b : Bool} (h : keyOk P t k = true) (hk : VRel μ ok k k') (he : VRel μ ok e e') (hb : aeqK k e = some b) : (Op.equal t k' e').run P w = .ok b w ∧
    (∀ d, P.underlying t = some d → ∀ b', Instr.sameNow d k' e' = some b' → b' = b) := by
  obtain ⟨i, ks, hi, hks, hf, ha, hd⟩ := keyOk_parts h
  have hfit := key_fit hi hks hf ha hk
  have same : ∀ (xs ys : List AV) (ks : List Leaf) b, aeqs xs ys = some b → fits ks xs = true → fits ks ys = true := by
    intro xs
    induction xs with
    | nil => intro ys ks b h1 h2; cases ys with
      | nil => exact h2
      | cons _ _ => simp [aeqs] at h1
    | cons x xs ih =>
      intro ys ks b h1 h2
      cases ys with
      | nil => simp [aeqs] at h1
      | cons y ys =>
        cases ks with
        | nil => simp [fits] at h2
        | cons l ks =>
          simp only [aeqs] at h1
          split at h1
          · rename_i p q hp hq
            simp only [fits, Bool.and_eq_true] at h2 ⊢
            refine ⟨?_, ih ys ks q hq h2.2⟩
            have h3 := h2.1
            cases x <;> cases y <;> simp only [aeq1, reduceCtorEq] at hp <;> cases l <;> simp_all [leafFit]
          · cases h1
  by_cases hg : ∃ cs, k = .agg cs
  · obtain ⟨xs, rfl⟩ := hg
    cases e with
    | agg ys =>
      simp only [aeqK] at hb
      obtain ⟨a, rfl, ra⟩ := hk.agg_inv
      obtain ⟨c, rfl, rc⟩ := he.agg_inv
      have hag : i.agg = true := ha.2 ⟨_, rfl⟩
      refine ⟨eq_run 9 10000 t i ks xs ys _ _ b hks (by omega) hi hf (same _ _ _ _ hb hf) hb hfit (by simp only [Fit, hag, if_true]; exact ⟨_, rfl, rc⟩), ?_⟩
      intro d _ b' hb'
      cases d <;> simp [Instr.sameNow] at hb'
    | _ => simp [aeqK] at hb
  · have hag : i.agg = false := by
      cases hh : i.agg with
      | false => rfl
      | true => exact absurd (ha.1 hh) hg
    have h1 := aeqK_scalar hg hb
    have hc : k.cells = [k] := by cases k <;> first | rfl | exact absurd ⟨_, rfl⟩ hg
    rw [hc] at hf hfit
    have h6 : aeqs [k] [e] = some b := by simp [aeqs, h1]
    refine ⟨eq_run 9 10000 t i ks [k] [e] _ _ b hks (by omega) hi hf (same _ _ _ _ h6 hf) h6 hfit (by simp only [Fit, hag, Bool.false_eq_true, if_false]; exact ⟨e, rfl, he⟩), ?_⟩
    intro d _ b' hb'
    rcases aeq1_rel h1 hk he with ⟨kk, m, n, rfl, rfl, rfl⟩ | ⟨m, n, rfl, rfl, rfl⟩ | ⟨m, n, rfl, rfl, rfl⟩ <;> cases d <;> simp [Instr.sameNow] at hb' <;> exact hb'.symm

theorem findA_ge {k : AV} : ∀ {es : List (AV × AV × Nat)} {i j : Nat} {x : AV × Nat}, findA k es i = some (some (j, x)) → i ≤ j ∧ ∃ key, es[j - i]? = some (key, x)
  | [], i, j, x, h => by simp [findA] at h
  | e :: es, i, j, x, h => by
    simp only [findA] at h
    split at h
    · simp only [Option.some.injEq, Prod.mk.injEq] at h
      obtain ⟨rfl, rfl⟩ := h
      exact ⟨Nat.le_refl _, e.1, by simp⟩
    · obtain ⟨h1, key, h2⟩ := findA_ge h
      refine ⟨by omega, key, ?_⟩
      have : j - i = (j - (i + 1)) + 1 := by omega
      rw [this]; simpa using h2
    · cases h

/-- where a search has ended, in the world's entries -/
def hitOf (es' : List MapEntry) (i : Nat) (r : Option (Nat × AV × Nat)) : Option (Nat × Value) :=
  match r with
  | none => none
  | some x => (es'[x.1 - i]?).map fun e => (x.1, e.val)

theorem findAsking_run {t : TypeId} {k : AV} {k' : Value} (h : keyOk P t k = true) (hk : VRel μ ok k k') : ∀ {es : List (AV × AV × Nat)} {es' : List MapEntry} {i : Nat} {r : Option (Nat × AV × Nat)}, ERel μ ok es es' → findA k es i = some r →
    (Instr.findAsking t k' es' i).run P w = .ok (hitOf es' i r) w ∧
    (∀ d, P.underlying t = some d → ∀ r', Instr.findNow d k' es' i = some r' → r' = (hitOf es' i r))
  | [], es', i, r, he, hf => by
    have : es' = [] := List.eq_nil_of_length_eq_zero (by simpa using he.1)
    subst this
    simp only [findA, Option.some.injEq] at hf
    subst hf
    exact ⟨by simp [Instr.findAsking, hitOf], by intro d _ r' hr; simpa [Instr.findNow, hitOf] using hr.symm⟩
  | e :: es, [], i, r, he, hf => by have := he.1; simp at this
  | e :: es, e' :: es', i, r, he, hf => by
    obtain ⟨⟨g1, g2, g3⟩, ht⟩ := he.tail
    simp only [findA] at hf
    split at hf
    · rename_i hb
      simp only [Option.some.injEq] at hf
      subst hf
      obtain ⟨q1, q2⟩ := aeqK_run (w := w) h hk g1 hb
      refine ⟨by simp [Instr.findAsking, q1, hitOf], ?_⟩
      intro d hd r' hr
      simp only [Instr.findNow] at hr
      split at hr
      · simpa [hitOf] using hr.symm
      · rename_i hs; have := q2 d hd _ hs; cases this
      · cases hr
    · rename_i hb
      obtain ⟨q1, q2⟩ := aeqK_run (w := w) h hk g1 hb
      obtain ⟨p1, p2⟩ := findAsking_run h hk ht hf
      have hres : hitOf es' (i + 1) r = hitOf (e' :: es') i r := by
        cases r with
        | none => rfl
        | some x =>
          obtain ⟨j, x⟩ := x
          obtain ⟨hj, _⟩ := findA_ge hf
          have : j - i = (j - (i + 1)) + 1 := by omega
          simp [hitOf, this]
      refine ⟨by simp only [Instr.findAsking, Sem.run_bind, q1, Result.andThen_ok, Bool.false_eq_true, if_false]; rw [p1, hres], ?_⟩
      intro d hd r' hr
      simp only [Instr.findNow] at hr
      split at hr
      · rename_i hs; have := q2 d hd _ hs; cases this
      · rw [← hres]; exact p2 d hd r' hr
      · cases hr
    · cases hf

theorem findKey_run {t : TypeId} {k : AV} {k' : Value} (h : keyOk P t k = true) (hk : VRel μ ok k k') {es : List (AV × AV × Nat)} {es' : List MapEntry} {r : Option (Nat × AV × Nat)} (he : ERel μ ok es es') (hf : findA k es 0 = some r) (w : World) :
    (Instr.findKey t k' es').run P w = .ok (hitOf es' 0 r) w := by
  obtain ⟨p1, p2⟩ := findAsking_run (w := w) h hk he hf
  obtain ⟨i, ks, hi, _⟩ := keyOk_parts h
  have hu := und hi
  simp only [Instr.findKey, Sem.run_bind, run_underlying hu, Result.andThen_ok]
  split
  · rename_i r' hr
    simp only [Sem.run_pure]
    rw [p2 _ hu _ hr]
  · exact p1

end
end Go.Eng
namespace Go.Eng
set_option linter.unusedVariables false
set_option linter.unusedSimpArgs false

section
variable {P : Program} {N : Nat} {μ : Mu} {ok : Ok} {H : AH} {w : World} {nid n' : Nat}

theorem map_inv {r : Option Nat} {v : Value} (h : VRel μ ok (.map r) v) : v = .map (r.map fun r => (μ r).blk) ∧ ∀ x, r = some x → ok x := by
  cases r <;> simp only [VRel] at h
  · exact ⟨h, by simp⟩
  · exact ⟨h.2, by rintro x ⟨⟩; exact h.1⟩

/-- the world's entries of a map -/
theorem mapOf_rel (S : Sim μ ok H w) {r : Option Nat} {es : List (AV × AV × Nat)} {c : Nat} (h : mapOf H.g r = some (es, c)) :
    (r = none ∧ es = []) ∨ ∃ x es', r = some x ∧ w.heap[(μ x).blk]? = some (.map es' c) ∧ ERel μ ok es es'.toList := by
  unfold mapOf at h
  split at h
  · simp only [Option.some.injEq, Prod.mk.injEq] at h; exact .inl ⟨rfl, h.1.symm⟩
  · rename_i x
    split at h
    · rename_i es0 c0 ro hg
      simp only [Option.some.injEq, Prod.mk.injEq] at h
      obtain ⟨rfl, rfl⟩ := h
      have hB := S.blk x
      rw [hg] at hB
      obtain ⟨es', h1, h2, h3⟩ := hB
      exact .inr ⟨x, es', rfl, h1, by simpa using h2, fun i e e' he he' => h3 i e e' he (by simpa using he')⟩
    · cases h

theorem run_getObj_map {b : Nat} {es : Array MapEntry} {c : Nat} (h : w.heap[b]? = some (.map es c)) : (getObj b).run P w = .ok (.map es c) w := by
  simp [getObj, Sem.run, h]

theorem mk_rel {i : TI} {t : TypeId} (hi : ti P t = some i) {z : List AV} (hz : i.zero = some z) {v : AV} (h : mk i.agg z = some v) (w : World) : ∃ v', (zeroValue t).run P w = .ok v' w ∧ ∀ μ ok, VRel μ ok v v' := by
  obtain ⟨info, h1, h2, h3, h4, h5, h6⟩ := ti_parts hi
  obtain ⟨zv, e1, e2, e3⟩ := h6 z hz
  refine ⟨zv, by simp [zeroValue, typeInfo, h1, e1], fun μ ok => ?_⟩
  have hr := allOf_scalar e2 μ ok
  unfold mk at h
  split at h
  · rename_i ha
    rw [ha] at e3
    obtain rfl := Option.some.inj h
    cases zv <;> simp only [isAggV, Bool.false_eq_true] at e3
    simp only [VRel]
    exact ⟨_, rfl, hr⟩
  · rename_i ha
    have ha' : i.agg = false := by simpa using ha
    rw [ha'] at e3
    split at h
    · rename_i u
      obtain rfl := Option.some.inj h
      cases zv <;> simp only [isAggV, Bool.true_eq_false] at e3 <;> (simp only [Value.cells, VRels] at hr; obtain ⟨v', vs, e, hv, _⟩ := hr; cases e; exact hv)
    · cases h

theorem gives_lookup (S : Sim μ ok H w) {t : TypeId} {m k v : AV} {m' k' : Value} {cok : Bool} (h : alookup P H.g t m k cok = some v) (hm : VRel μ ok m m') (hk : VRel μ ok k k') : Gives P μ ok w (Instr.lookup t m' k' cok) v := by
  unfold alookup at h
  split at h
  · rename_i kt et _ _ _ _ r hi
    obtain ⟨rfl, hok⟩ := map_inv hm
    split at h
    · rename_i es c ie hmo hie
      split at h
      · rename_i hkey
        -- the entries as the model sees them
        have hes : ∃ es' : Array MapEntry, ERel μ ok es es'.toList ∧ ((r = none ∧ es' = #[]) ∨ ∃ x, r = some x ∧ w.heap[(μ x).blk]? = some (.map es' c)) := by
          rcases mapOf_rel S hmo with ⟨rfl, rfl⟩ | ⟨x, es', rfl, hx, he⟩
          · exact ⟨#[], ⟨rfl, by simp⟩, .inl ⟨rfl, rfl⟩⟩
          · exact ⟨es', he, .inr ⟨x, rfl, hx⟩⟩
        obtain ⟨es', he, hcase⟩ := hes
        have fin : ∀ (res : Option (Nat × Value)) (v' : Value) (b : Bool), (Instr.findKey kt k' es'.toList).run P w = .ok res w → (match res with | some p => v' = p.2 ∧ b = true | none => (zeroValue et).run P w = .ok v' w ∧ b = false) →
            (Instr.lookup t (.map (r.map fun r => (μ r).blk)) k' cok).run P w = .ok (if cok then .tuple #[v', .bool b] else v') w := by
          intro res v' b h1 h2
          rcases hcase with ⟨rfl, rfl⟩ | ⟨x, rfl, hx⟩
          · simp only [Instr.lookup, Sem.run_bind, ti_desc hi, Result.andThen_ok, Option.map_none, Sem.run_pure, check_run hkey hk, h1]
            cases res with
            | none => obtain ⟨h3, rfl⟩ := h2; simp [h3]
            | some p => obtain ⟨rfl, rfl⟩ := h2; simp
          · simp only [Instr.lookup, Sem.run_bind, ti_desc hi, Result.andThen_ok, Option.map_some, Sem.run_pure, run_getObj_map (P := P) hx, check_run hkey hk, h1]
            cases res with
            | none => obtain ⟨h3, rfl⟩ := h2; simp [h3]
            | some p => obtain ⟨rfl, rfl⟩ := h2; simp
        split at h
        · rename_i j x born hf
          have hfk := findKey_run hkey hk he hf w
          obtain ⟨_, key, hx⟩ := findA_ge hf
          simp only [Nat.sub_zero] at hx
          have hlt : j < es'.toList.length := by rw [he.1]; exact (List.getElem?_eq_some_iff.1 hx).1
          obtain ⟨e', he'⟩ : ∃ e', es'.toList[j]? = some e' := ⟨_, List.getElem?_eq_getElem hlt⟩
          obtain ⟨_, g2, _⟩ := he.2 j _ e' hx he'
          have hres : hitOf es'.toList 0 (some (j, x, born)) = some (j, e'.val) := by simp only [hitOf, Nat.sub_zero, he', Option.map_some]
          rw [hres] at hfk
          have := fin _ e'.val true hfk ⟨rfl, rfl⟩
          refine ⟨_, this, ?_⟩
          obtain rfl := Option.some.inj h
          cases cok
          · simpa using g2
          · simp [VRel, VRels, g2]
        · rename_i hf
          have hfk := findKey_run hkey hk he hf w
          split at h
          · rename_i z hz
            rw [Option.map_eq_some_iff] at h
            obtain ⟨v0, hv0, rfl⟩ := h
            obtain ⟨v', hv', hvr⟩ := mk_rel hie hz hv0 w
            have := fin _ v' false hfk (by simp [hitOf, hv'])
            refine ⟨_, this, ?_⟩
            cases cok
            · simpa using hvr μ ok
            · simp [VRel, VRels, hvr μ ok]
          · cases h
        · cases h
      · cases h
    · cases h
  · cases h

theorem sameBits_rel {t : TypeId} {k e : AV} {k' e' : Value} (h : keyOk P t k = true) (hk : VRel μ ok k k') (he : VRel μ ok e e') (hb : aeqK k e = some true) : (Instr.keyThatStays e' k').run P w = .ok k' w := by
  have hs : Instr.sameBits 10000 e' k' = true := by
    have scal : ∀ (d : Nat) {a b : AV} {a' b' : Value}, aeq1 a b = some true → VRel μ ok a a' → VRel μ ok b b' → Instr.sameBits d b' a' = true := by
      intro d a b a' b' h1 h2 h3
      rcases aeq1_rel h1 h2 h3 with ⟨kk, m, n, rfl, rfl, e⟩ | ⟨m, n, rfl, rfl, e⟩ | ⟨m, n, rfl, rfl, e⟩
      · have e := beq_iff_eq.1 e.symm; subst e; cases d <;> simp [Instr.sameBits]
      · have e := beq_iff_eq.1 e.symm; subst e; cases d <;> simp [Instr.sameBits]
      · rw [beq_toListBytes] at e; have e := beq_iff_eq.1 e.symm; cases d <;> simp [Instr.sameBits, beq_toListBytes, e]
    by_cases hg : ∃ cs, k = .agg cs
    · obtain ⟨xs, rfl⟩ := hg
      cases e with
      | agg ys =>
        simp only [aeqK] at hb
        obtain ⟨a, rfl, ra⟩ := hk.agg_inv
        obtain ⟨c, rfl, rc⟩ := he.agg_inv
        have all : ∀ (xs ys : List AV) (as cs : List Value), aeqs xs ys = some true → VRels μ ok xs as → VRels μ ok ys cs → cs.length = as.length ∧ (cs.zip as).all (fun (x, y) => Instr.sameBits 9999 x y) = true := by
          intro xs
          induction xs with
          | nil => intro ys as cs h1 h2 h3; cases ys with
            | nil => simp only [VRels] at h2 h3; subst h2; subst h3; simp
            | cons _ _ => simp [aeqs] at h1
          | cons x xs ih =>
            intro ys as cs h1 h2 h3
            cases ys with
            | nil => simp [aeqs] at h1
            | cons y ys =>
              simp only [VRels] at h2 h3
              obtain ⟨u, us, rfl, hu, hus⟩ := h2
              obtain ⟨v, vs, rfl, hv, hvs⟩ := h3
              simp only [aeqs] at h1
              split at h1
              · rename_i p q hp hq
                have hpq := Option.some.inj h1
                simp only [Bool.and_eq_true] at hpq
                obtain ⟨rfl, rfl⟩ := hpq
                obtain ⟨l1, l2⟩ := ih ys us vs hq hus hvs
                exact ⟨by simp [l1], by simp only [List.zip_cons_cons, List.all_cons, l2, Bool.and_true]; exact scal 9999 hp hu hv⟩
              · cases h1
        obtain ⟨l1, l2⟩ := all xs ys _ _ hb ra rc
        have l1' : c.size = a.size := by simpa using l1
        show (c.size == a.size && (c.toList.zip a.toList).all fun (x, y) => Instr.sameBits 9999 x y) = true
        rw [l2, l1']; simp
      | _ => simp [aeqK] at hb
    · exact scal 10000 (aeqK_scalar hg hb) hk he
  simp [Instr.keyThatStays, hs]

/-- a map's block is another one then -/
theorem map_write (S : Sim μ ok H w) {r : Nat} {es : List (AV × AV × Nat)} {c : Nat} (hg : H.g r = .map es c false) {es1 : List (AV × AV × Nat)} {c1 : Nat} {es1' : Array MapEntry} (he : ERel μ ok es1 es1'.toList) :
    ∃ w', (setObj (μ r).blk (.map es1' c1)).run P w = .ok () w' ∧ Sim μ ok { g := upd H.g r (.map es1 c1 false), n := H.n } w' ∧ Step N μ ok H w μ ok { g := upd H.g r (.map es1 c1 false), n := H.n } w' := by
  have hB := S.blk r
  rw [hg] at hB
  obtain ⟨es', h1, h2, h3⟩ := hB
  have hlt : (μ r).blk < w.heap.size := (Array.getElem?_eq_some_iff.1 h1).1
  refine ⟨{ w with heap := w.heap.setIfInBounds (μ r).blk (.map es1' c1) }, by simp [setObj, Sem.run, h1], ?_⟩
  refine S.write (by rw [hg]; rfl) rfl ?_ ?_ (by simp) rfl rfl rfl
  · refine ⟨es1', by simp [hlt], by simpa using he.1, fun i e e' a b => he.2 i e e' a (by simpa using b)⟩
  · intro k hk
    simp [Array.getElem?_setIfInBounds, Ne.symm hk]

end
end Go.Eng
namespace Go.Eng
set_option linter.unusedVariables false
set_option linter.unusedSimpArgs false

section
variable {P : Program} {N : Nat} {μ : Mu} {ok : Ok} {H : AH} {w : World} {nid n' : Nat}

theorem findA_true {k : AV} : ∀ {es : List (AV × AV × Nat)} {i j : Nat} {x : AV × Nat}, findA k es i = some (some (j, x)) → ∃ key, es[j - i]? = some (key, x) ∧ aeqK k key = some true
  | [], i, j, x, h => by simp [findA] at h
  | e :: es, i, j, x, h => by
    simp only [findA] at h
    split at h
    · rename_i hb
      simp only [Option.some.injEq, Prod.mk.injEq] at h
      obtain ⟨rfl, rfl⟩ := h
      exact ⟨e.1, by simp, hb⟩
    · obtain ⟨h1, _⟩ := findA_ge h
      obtain ⟨key, h2, h3⟩ := findA_true h
      refine ⟨key, ?_, h3⟩
      have : j - i = (j - (i + 1)) + 1 := by omega
      rw [this]; simpa using h2
    · cases h

theorem ERel.push {es : List (AV × AV × Nat)} {es' : Array MapEntry} (he : ERel μ ok es es'.toList) {k v : AV} {k' v' : Value} (hk : VRel μ ok k k') (hv : VRel μ ok v v') (c : Nat) :
    ERel μ ok (es ++ [(k, v, c)]) (es'.push { key := k', val := v', born := c }).toList := by
  have hl : es'.size = es.length := by simpa using he.1
  refine ⟨by simp [hl], fun i e e' h1 h2 => ?_⟩
  by_cases hi : i < es.length
  · rw [List.getElem?_append_left hi] at h1
    have h2' : es'.toList[i]? = some e' := by
      simp only [Array.toList_push] at h2
      rwa [List.getElem?_append_left (by simp [hl, hi])] at h2
    exact he.2 i e e' h1 h2'
  · have hlt := (List.getElem?_eq_some_iff.1 h1).1
    simp at hlt
    have : i = es.length := by omega
    subst this
    simp at h1
    subst h1
    have h2' : e' = { key := k', val := v', born := c } := by
      simp only [Array.toList_push] at h2
      rw [List.getElem?_append_right (by simp [hl])] at h2
      simpa [hl] using h2.symm
    subst h2'
    exact ⟨hk, hv, rfl⟩

theorem ERel.set {es : List (AV × AV × Nat)} {es' : Array MapEntry} (he : ERel μ ok es es'.toList) {j : Nat} {k v : AV} {b : Nat} {f : MapEntry → MapEntry} (h : ∀ x e', es[j]? = some x → es'.toList[j]? = some e' → VRel μ ok k (f e').key ∧ VRel μ ok v (f e').val ∧ (f e').born = b) :
    ERel μ ok (es.set j (k, v, b)) (es'.modify j f).toList := by
  have hl : es'.size = es.length := by simpa using he.1
  refine ⟨by simp [hl], fun i e e' h1 h2 => ?_⟩
  rw [Array.toList_modify, List.getElem?_modify, Option.map_eq_map, Option.map_eq_some_iff] at h2
  obtain ⟨a, ha, rfl⟩ := h2
  rw [List.getElem?_set] at h1
  split at h1
  · rename_i hij; subst hij
    split at h1
    · rename_i hlt
      simp only [Option.some.injEq] at h1; subst h1
      simp only [if_true]
      exact h _ a (List.getElem?_eq_getElem hlt) ha
    · cases h1
  · rename_i hij
    simp only [hij, if_false]
    exact he.2 i e a h1 ha

theorem map_at (S : Sim μ ok H w) {r : Nat} {es : List (AV × AV × Nat)} {c : Nat} (hg : H.g r = .map es c false) : ∃ es', w.heap[(μ r).blk]? = some (.map es' c) ∧ ERel μ ok es es'.toList := by
  have hB := S.blk r
  rw [hg] at hB
  obtain ⟨es', h1, h2, h3⟩ := hB
  exact ⟨es', h1, by simpa using h2, fun i e e' a b => h3 i e e' a (by simpa using b)⟩

theorem Out.undef {H' : AH} {v : AV} {v' : Value} {w' : World} {e : Eff} (h : H.appAt nid n' e = H') (hv : VRel μ ok v v') (hs : Sim μ ok H' w') (hst : Step N μ ok H w μ ok H' w') : Out N μ ok H w nid n' v e v' w' :=
  ⟨μ, ok, hv, h ▸ hs, h ▸ hst, fun b h => .inl h⟩

theorem fits_mapUpdate (S : Sim μ ok H w) {t : TypeId} {m k v : AV} {m' k' v' : Value} {r : ARes} (h : amapUpdate P H.g t m k v = some r) (hm : VRel μ ok m m') (hk : VRel μ ok k k') (hv : VRel μ ok v v') : FitsU P N μ ok H w nid n' (Instr.mapUpdate t m' k' v') r := by
  unfold amapUpdate at h
  split at h
  · rename_i kt et _ _ _ _ r0 hi
    obtain ⟨rfl, _⟩ := map_inv hm
    split at h
    · rename_i es c hg
      obtain ⟨es', hw, he⟩ := map_at S hg
      split at h
      · rename_i hkey
        split at h
        · rename_i j x born hf
          obtain rfl := Option.some.inj h
          have hfk := findKey_run hkey hk he hf w
          obtain ⟨key, hx, hb⟩ := findA_true hf
          simp only [Nat.sub_zero] at hx
          have hlt : j < es'.toList.length := by rw [he.1]; exact (List.getElem?_eq_some_iff.1 hx).1
          obtain ⟨e', he'⟩ : ∃ e', es'.toList[j]? = some e' := ⟨_, List.getElem?_eq_getElem hlt⟩
          obtain ⟨g1, g2, g3⟩ := he.2 j _ e' hx he'
          have hstay := sameBits_rel (w := w) hkey hk g1 hb
          have hres : hitOf es'.toList 0 (some (j, x, born)) = some (j, e'.val) := by simp only [hitOf, Nat.sub_zero, he', Option.map_some]
          rw [hres] at hfk
          have hee : es'[j]? = some e' := by simpa using he'
          obtain ⟨w', h1, h2, h3⟩ := map_write (P := P) (N := N) S hg (es1' := es'.modify j fun e => { e with key := k', val := v' }) (c1 := c) (he.set (j := j) (k := k) (v := v) (b := born) fun x0 e0 hx0 he0 => by
            rw [he'] at he0; cases he0; exact ⟨hk, hv, g3⟩)
          refine ⟨w', ?_, Out.undef rfl VRel.undef h2 h3⟩
          simp only [Instr.mapUpdate, Sem.run_bind, ti_desc hi, Result.andThen_ok, Option.map_some, run_getObj_map (P := P) hw, check_run hkey hk, hfk, hee, Option.getD_some, hstay]
          exact h1
        · rename_i hf
          obtain rfl := Option.some.inj h
          have hfk := findKey_run hkey hk he hf w
          simp only [hitOf] at hfk
          obtain ⟨w', h1, h2, h3⟩ := map_write (P := P) (N := N) S hg (c1 := c + 1) (he.push hk hv c)
          refine ⟨w', ?_, Out.undef rfl VRel.undef h2 h3⟩
          simp only [Instr.mapUpdate, Sem.run_bind, ti_desc hi, Result.andThen_ok, Option.map_some, run_getObj_map (P := P) hw, check_run hkey hk, hfk]
          exact h1
        · cases h
      · cases h
    · cases h
  · cases h

theorem fits_mapEntry (S : Sim μ ok H w) {t : TypeId} {m k : AV} {m' k' : Value} {r : ARes} (h : amapEntry P H.g t m k = some r) (hm : VRel μ ok m m') (hk : VRel μ ok k k') : Fits P N μ ok H w nid n' (Instr.mapEntry t m' k') r := by
  unfold amapEntry at h
  split at h
  · rename_i kt et _ _ _ _ r0 hi
    obtain ⟨rfl, _⟩ := map_inv hm
    split at h
    · rename_i es c ie hg hie
      obtain ⟨es', hw, he⟩ := map_at S hg
      split at h
      · rename_i hkey
        split at h
        · rename_i j x born hf
          obtain rfl := Option.some.inj h
          have hfk := findKey_run hkey hk he hf w
          obtain ⟨key, hx, hb⟩ := findA_true hf
          simp only [Nat.sub_zero] at hx
          have hlt : j < es'.toList.length := by rw [he.1]; exact (List.getElem?_eq_some_iff.1 hx).1
          obtain ⟨e', he'⟩ : ∃ e', es'.toList[j]? = some e' := ⟨_, List.getElem?_eq_getElem hlt⟩
          obtain ⟨g1, g2, g3⟩ := he.2 j _ e' hx he'
          have hstay := sameBits_rel (w := w) hkey hk g1 hb
          have hres : hitOf es'.toList 0 (some (j, x, born)) = some (j, e'.val) := by simp only [hitOf, Nat.sub_zero, he', Option.map_some]
          rw [hres] at hfk
          have hee : es'[j]? = some e' := by simpa using he'
          obtain ⟨w', h1, h2, h3⟩ := map_write (P := P) (N := N) S hg (es1' := es'.modify j fun e => { e with key := k' }) (c1 := c) (he.set (j := j) (k := k) (v := x) (b := born) fun x0 e0 hx0 he0 => by
            rw [he'] at he0; cases he0; exact ⟨hk, g2, g3⟩)
          refine ⟨.tuple #[e'.val, goInt born], w', ?_, Out.undef rfl (by simp [VRel, VRels, goInt, g2]) h2 h3⟩
          simp only [Instr.mapEntry, Sem.run_bind, ti_desc hi, Result.andThen_ok, Option.map_some, run_getObj_map (P := P) hw, check_run hkey hk, hfk, hee, Option.getD_some, hstay, h1, Sem.run_pure]
          simp only at g3
          rw [g3]
        · rename_i hf
          have hfk := findKey_run hkey hk he hf w
          simp only [hitOf] at hfk
          split at h
          · rename_i z hz
            rw [Option.map_eq_some_iff] at h
            obtain ⟨v, hv, rfl⟩ := h
            obtain ⟨v', hv', hvr⟩ := mk_rel hie hz hv w
            obtain ⟨w', h1, h2, h3⟩ := map_write (P := P) (N := N) S hg (c1 := c + 1) (he.push hk (hvr μ ok) c)
            refine ⟨.tuple #[v', goInt c], w', ?_, Out.undef rfl (by simp [VRel, VRels, goInt, hvr μ ok]) h2 h3⟩
            simp only [Instr.mapEntry, Sem.run_bind, ti_desc hi, Result.andThen_ok, Option.map_some, run_getObj_map (P := P) hw, check_run hkey hk, hfk, hv', h1, Sem.run_pure]
          · cases h
        · cases h
      · cases h
    · cases h
  · cases h

theorem findIdx_rel {es : List (AV × AV × Nat)} {es' : List MapEntry} (he : ERel μ ok es es') (b : Int) : es.findIdx? (fun e => (e.2.2 : Int) == b) = es'.findIdx? (fun e => (e.born : Int) == b) := by
  induction es generalizing es' with
  | nil =>
    have : es' = [] := List.eq_nil_of_length_eq_zero (by simpa using he.1)
    subst this; rfl
  | cons e es ih =>
    cases es' with
    | nil => have := he.1; simp at this
    | cons e' es' =>
      obtain ⟨⟨_, _, g⟩, ht⟩ := he.tail
      simp only [List.findIdx?_cons, g, ih ht]

theorem fits_entryStore (S : Sim μ ok H w) {t : TypeId} {m s v : AV} {m' s' v' : Value} {r : ARes} (h : aentryStore H.g m s v = some r) (hm : VRel μ ok m m') (hs : VRel μ ok s s') (hv : VRel μ ok v v') : FitsU P N μ ok H w nid n' (Instr.entryStore t m' s' v') r := by
  unfold aentryStore at h
  split at h
  · rename_i r0 kk b
    obtain ⟨rfl, _⟩ := map_inv hm
    simp only [VRel] at hs; subst hs
    split at h
    · rename_i es c hg
      obtain ⟨es', hw, he⟩ := map_at S hg
      split at h
      · rename_i i hidx
        obtain rfl := Option.some.inj h
        have hidx' : es'.findIdx? (fun e => (e.born : Int) == b) = some i := by
          rw [findIdx_rel he b] at hidx
          obtain ⟨l⟩ := es'
          simpa using hidx
        have hl : es'.size = es.length := by simpa using he.1
        obtain ⟨w', h1, h2, h3⟩ := map_write (P := P) (N := N) S hg (es1 := es.modify i fun e => (e.1, v, e.2.2)) (es1' := es'.modify i fun e => { e with val := v' }) (c1 := c) ⟨by simp [hl], fun j e e' a b' => by
          rw [Array.toList_modify, List.getElem?_modify, Option.map_eq_map, Option.map_eq_some_iff] at b'
          rw [List.getElem?_modify, Option.map_eq_map, Option.map_eq_some_iff] at a
          obtain ⟨a0, ha0, rfl⟩ := a
          obtain ⟨b0, hb0, rfl⟩ := b'
          obtain ⟨g1, g2, g3⟩ := he.2 j a0 b0 ha0 hb0
          by_cases hij : i = j
          · simp only [hij, if_true]; exact ⟨g1, hv, g3⟩
          · simp only [hij, if_false]; exact ⟨g1, g2, g3⟩⟩
        refine ⟨w', ?_, Out.undef rfl VRel.undef h2 h3⟩
        simp only [Instr.entryStore, Sem.run_bind, Result.andThen_ok, Option.map_some, run_getObj_map (P := P) hw, asInt, asIntOf, Sem.run_pure, hidx']
        exact h1
      · cases h
    · cases h
  · cases h

theorem fits_delete (S : Sim μ ok H w) {t : TypeId} {ts : Array TypeId} {m k : AV} {m' k' : Value} {r : ARes} (ht : ts[0]? = some t) (h : adelete P H.g t m k = some r) (hm : VRel μ ok m m') (hk : VRel μ ok k k') (ty : TypeId) : Fits P N μ ok H w nid n' (Builtin.delete_ ts ty #[m', k']) r := by
  unfold adelete at h
  split at h
  · rename_i kt et _ _ _ _ r0 hi
    obtain ⟨rfl, _⟩ := map_inv hm
    split at h
    · rename_i hkey
      split at h
      · rename_i es c hg
        obtain ⟨es', hw, he⟩ := map_at S hg
        have hl : es'.size = es.length := by simpa using he.1
        split at h
        · rename_i j x hf
          obtain rfl := Option.some.inj h
          have hfk := findKey_run hkey hk he hf w
          obtain ⟨key, hx, hb⟩ := findA_true hf
          simp only [Nat.sub_zero] at hx
          have hlt : j < es'.toList.length := by rw [he.1]; exact (List.getElem?_eq_some_iff.1 hx).1
          obtain ⟨e', he'⟩ : ∃ e', es'.toList[j]? = some e' := ⟨_, List.getElem?_eq_getElem hlt⟩
          have hres : hitOf es'.toList 0 (some (j, x)) = some (j, e'.val) := by simp only [hitOf, Nat.sub_zero, he', Option.map_some]
          rw [hres] at hfk
          obtain ⟨w', h1, h2, h3⟩ := map_write (P := P) (N := N) S hg (es1 := es.eraseIdx j) (es1' := es'.eraseIdxIfInBounds j) (c1 := c) ⟨by simp [Array.toList_eraseIdxIfInBounds, List.length_eraseIdx, hl], fun i e e'' a b => by
            rw [Array.toList_eraseIdxIfInBounds] at b
            rw [List.getElem?_eraseIdx] at a b
            split at a
            · rename_i hij; rw [if_pos hij] at b; exact he.2 i e e'' a b
            · rename_i hij; rw [if_neg hij] at b; exact he.2 (i + 1) e e'' a b⟩
          refine ⟨.tuple #[], w', ?_, Out.undef rfl (by simp [VRel, VRels]) h2 h3⟩
          simp only [Builtin.delete_, ht, List.getElem?_toArray, List.getElem?_cons_zero, List.getElem?_cons_succ, Sem.run_bind, ti_desc hi, Result.andThen_ok, Option.map_some, run_getObj_map (P := P) hw, check_run hkey hk, hfk, h1, Sem.run_pure]
        · rename_i hf
          obtain rfl := Option.some.inj h
          have hfk := findKey_run hkey hk he hf w
          simp only [hitOf] at hfk
          obtain ⟨w', h1, h2, h3⟩ := map_write (P := P) (N := N) S hg (es1' := es') (c1 := c) he
          refine ⟨.tuple #[], w', ?_, Out.undef rfl (by simp [VRel, VRels]) h2 h3⟩
          simp only [Builtin.delete_, ht, List.getElem?_toArray, List.getElem?_cons_zero, List.getElem?_cons_succ, Sem.run_bind, ti_desc hi, Result.andThen_ok, Option.map_some, run_getObj_map (P := P) hw, check_run hkey hk, hfk, h1, Sem.run_pure]
        · cases h
      · cases h
    · cases h
  · cases h

end
end Go.Eng
namespace Go.Eng
set_option linter.unusedVariables false
set_option linter.unusedSimpArgs false

section
variable {P : Program} {N : Nat} {μ : Mu} {ok : Ok} {H : AH} {w : World} {nid n' : Nat}

theorem slc_inv {a : Option (Nat × Nat)} {l c sl : Nat} {v : Value} (h : VRel μ ok (.slc a l c sl) v) : ∃ c', v = .slice (a.map fun p => (μ p.1).at p.2) l c' ∧ c ≤ c' ∧ (a = none → l = 0 ∧ c' = 0 ∧ c = 0 ∧ sl = 0) ∧
    (∀ p, a = some p → ok p.1 ∧ (c' = c ∨ (sl ≠ 0 ∧ c ≤ c' ∧ (μ p.1).base + p.2 + c' * sl ≤ (μ p.1).room))) := by
  cases a with
  | none => simp only [VRel] at h; obtain ⟨rfl, rfl, rfl, rfl⟩ := h; exact ⟨0, rfl, Nat.le_refl _, fun _ => ⟨rfl, rfl, rfl, rfl⟩, by simp⟩
  | some p =>
    simp only [VRel] at h
    obtain ⟨h1, c', rfl, h2⟩ := h
    refine ⟨c', rfl, ?_, by simp, ?_⟩
    · rcases h2 with rfl | h2
      · exact Nat.le_refl _
      · exact h2.2.1
    · rintro q ⟨⟩; exact ⟨h1, h2⟩

/-- what is appended or copied -/
theorem first_run (S : Sim μ ok H w) {size n : Nat} {x : AV} {x' : Value} {cs : List AV} (h : firstCellsA H.g size n x = some cs) (hx : VRel μ ok x x') :
    ∃ vs : List Value, VRels μ ok cs vs ∧ (∀ b o l c s, x = .slc (some (b, o)) l c s → cs.length = n * size) ∧ ∀ w2 : World, w2.heap = w.heap → (Builtin.firstCells size n x').run P w2 = .ok vs.toArray w2 := by
  unfold firstCellsA at h
  split at h
  · rename_i b o l c s
    obtain ⟨c', rfl, _, _, _⟩ := slc_inv hx
    obtain ⟨vs, hl, hl2, hr, hcell⟩ := cellsAt_rel S h
    refine ⟨vs, hr, fun _ _ _ _ _ _ => hl2, fun w2 hw2 => ?_⟩
    have hcell2 : ∀ j v, vs[j]? = some v → w2.cell? (((μ b).at o).add j) = some v := fun j v hj => by
      have := hcell j v hj
      simpa [World.cell?, hw2] using this
    exact run_firstCells_some (P := P) w2 size n ((μ b).at o) l c' vs hl hcell2
  · obtain ⟨c', rfl, _, hz, _⟩ := slc_inv hx
    obtain rfl := Option.some.inj h
    exact ⟨[], by simp [VRels], by rintro _ _ _ _ _ ⟨⟩, fun w2 _ => by simp [Builtin.firstCells]⟩
  · cases h

theorem lenOf_run {x : AV} {x' : Value} {n : Nat} (h : lenOfA x = some n) (hx : VRel μ ok x x') (w2 : World) : (Builtin.lenOf x').run P w2 = .ok n w2 := by
  unfold lenOfA at h
  split at h
  · obtain ⟨c', rfl, _⟩ := slc_inv hx
    obtain rfl := Option.some.inj h
    rfl
  · cases h

theorem nil_len {x : AV} {x' : Value} {n : Nat} (h : lenOfA x = some n) (hx : VRel μ ok x x') (hn : ∀ b o l c s, x ≠ .slc (some (b, o)) l c s) : n = 0 := by
  unfold lenOfA at h
  split at h
  · rename_i a l c s
    obtain rfl := Option.some.inj h
    cases a with
    | none => simp only [VRel] at hx; exact hx.1
    | some p => exact absurd rfl (hn p.1 p.2 _ _ _)
  · cases h

theorem applyWs_one (g : Nat → AB) (b : Nat) (x : AB) : applyWs g [(b, x)] = upd g b x := rfl

theorem fits_appendB (S : Sim μ ok H w) (hnid : ¬ ok nid) (hN : N ≤ nid) (h1 : H.n ≤ n') (h2 : nid < n') {sT xT ty : TypeId} {s x : AV} {s' x' : Value} {r : ARes} (h : aappend P H.g nid sT xT s x = some r) (hs : VRel μ ok s s') (hx : VRel μ ok x x') :
    Fits P N μ ok H w nid n' (Builtin.append_ #[sT, xT] ty #[s', x']) r := by
  unfold aappend at h
  split at h
  · rename_i elem _ _ _ _ xd _ _ _ _ base len cap sl n hsT hxT hlen
    split at h
    · rename_i xe ie hie
      split at h
      · cases h
      · rename_i new hnew
        split at h
        · cases h
        · rename_i hone
          have hone : new.all AV.one = true := by simpa using hone
          obtain ⟨vs, hvr, hvl, hfirst⟩ := first_run (P := P) S hnew hx
          obtain ⟨info, hinfo, _, _, hsz, hby, hzz⟩ := ti_parts hie
          have hut := und hsT
          have hux := und hxT
          have hnl : vs.length = n * info.size := by
            rw [hsz]
            by_cases hsome : ∃ b o l c s0, x = .slc (some (b, o)) l c s0
            · obtain ⟨b, o, l, c, s0, rfl⟩ := hsome
              rw [hvr.length]; exact hvl b o l c s0 rfl
            · have hn0 := nil_len hlen hx (fun b o l c s0 e => hsome ⟨b, o, l, c, s0, e⟩)
              have hnil : new = [] := by
                unfold firstCellsA at hnew
                split at hnew
                · exact absurd ⟨_, _, _, _, _, rfl⟩ hsome
                · exact (Option.some.inj hnew).symm
                · cases hnew
              subst hnil
              have := hvr.length
              simp at this
              simp [hn0, this]
          have src : ∀ w2 : World, w2.heap = w.heap → Src P info.size xT x' n vs w2 := fun w2 hw2 =>
            ⟨.inl ⟨_, hux⟩, lenOf_run hlen hx, by rw [hsz]; exact hfirst w2 hw2, by rw [hsz]; exact hfirst w2.drew hw2, hnl, hvr.one hone⟩
          have srcw := src w rfl
          obtain ⟨cap', rfl, hcc, hnone, hsome⟩ := slc_inv hs
          split at h
          · rename_i hroom
            split at h
            · -- nil, and nothing appended
              obtain ⟨rfl, rfl, rfl, rfl⟩ := hnone rfl
              have hn0 : n = 0 := by omega
              subst hn0
              obtain rfl := Option.some.inj h
              refine ⟨.slice none 0 0, w, ?_, Out.pure S (by simp [VRel])⟩
              simp [Builtin.append_, run_underlying hut, run_underlying hux, sizeOf, typeInfo, hinfo, srcw.len, srcw.cells]
            · -- there is room
              rename_i b o
              rw [Option.map_eq_some_iff] at h
              obtain ⟨blk, hblk, rfl⟩ := h
              obtain ⟨hok, hc⟩ := hsome _ rfl
              obtain ⟨hb0, w', hst, hsim, hstep⟩ := setCells_rel (N := N) S hblk hvr (hvr.one hone) P
              have hroom' : len + n ≤ cap' := Nat.le_trans hroom hcc
              rw [← hsz, ← Loc.add] at hst
              refine ⟨.slice (some ((μ b).at o)) (len + n) cap', w', ?_, Out.undef (by simp [AH.appAt, applyWs]) (by simp only [VRel]; exact ⟨hok, cap', rfl, hc⟩) hsim hstep⟩
              simp [Builtin.append_, run_underlying hut, run_underlying hux, sizeOf, typeInfo, hinfo, srcw.len, hroom', srcw.cells, hst]
          · rename_i hroom
            split at h
            · rename_i hcond
              obtain ⟨c1, c2, c3, c4, c5⟩ := hcond
              simp only [tooMany] at c1 c2
              rw [Option.map_eq_some_iff] at c4
              obtain ⟨z, hz, hzl⟩ := c4
              obtain ⟨zv, hzv, hzs, _⟩ := hzz z hz
              have hzlen : zv.cells.size = info.size := by
                have := (allOf_scalar hzs μ ok).length
                rw [hsz, ← hzl, ← this]; simp
              have grow : ∀ (olds : List Value), cap' < len + n → (Builtin.firstCells info.size len (.slice (base.map fun p => (μ p.1).at p.2) len cap')).run P w.drew = .ok olds.toArray w.drew →
                  (Builtin.append_ #[sT, xT] ty #[.slice (base.map fun p => (μ p.1).at p.2) len cap', x']).run P w =
                    .ok (.slice (some ⟨w.heap.size, 0, none⟩) (len + n) (grownCap w (len + n) cap' elem)) (w.drew.alloc (.cells ((olds ++ vs).toArray ++ Builtin.zeroCells zv.cells (grownCap w (len + n) cap' elem - (len + n))) elem)) := by
                intro olds hlt hold
                refine run_append_grow_src (P := P) w sT xT ty elem info zv hut hinfo hzv _ len cap' olds hold x' n vs srcw hlt (by omega) ?_
                refine growslice_fits hlt ?_
                rw [hby]; omega
              have newrow : ∀ (H1 : AH) (old : List AV) (olds : List Value), Sim μ ok H1 w → H1.n = H.n → VRels μ ok old olds → olds.length = len * info.size → cap' < len + n →
                  ∃ μ' ok', VRel μ' ok' (.slc (some (nid, 0)) (len + n) (len + n) ie.size) (.slice (some ⟨w.heap.size, 0, none⟩) (len + n) (grownCap w (len + n) cap' elem)) ∧
                    Sim μ' ok' { g := upd H1.g nid (.cells (old ++ new) elem false), n := n' } (w.drew.alloc (.cells ((olds ++ vs).toArray ++ Builtin.zeroCells zv.cells (grownCap w (len + n) cap' elem - (len + n))) elem)) ∧
                    Step N μ ok H1 w μ' ok' { g := upd H1.g nid (.cells (old ++ new) elem false), n := n' } (w.drew.alloc (.cells ((olds ++ vs).toArray ++ Builtin.zeroCells zv.cells (grownCap w (len + n) cap' elem - (len + n))) elem)) ∧
                    ∀ b, ok' b → ok b ∨ b = nid := by
                intro H1 old olds S1 hn1 hor hol hlt
                have Sd : Sim μ ok H1 w.drew := S1.same rfl
                have hrows : VRels μ ok (old ++ new) (olds ++ vs) := hor.append hvr
                have hge := grownCap_ge w (len + n) cap' elem
                have hsize : ((olds ++ vs).toArray ++ Builtin.zeroCells zv.cells (grownCap w (len + n) cap' elem - (len + n))).size = grownCap w (len + n) cap' elem * info.size := by
                  rw [Array.size_append, size_zeroCells, hzlen]
                  simp only [List.size_toArray, List.length_append, hol, hnl]
                  rw [← Nat.add_mul, ← Nat.add_mul]
                  congr 1; omega
                have hb : BRel (upd μ nid ⟨w.heap.size, 0, grownCap w (len + n) cap' elem * info.size⟩) (fun b => ok b ∨ b = nid) (w.drew.alloc (.cells ((olds ++ vs).toArray ++ Builtin.zeroCells zv.cells (grownCap w (len + n) cap' elem - (len + n))) elem)) ⟨w.heap.size, 0, grownCap w (len + n) cap' elem * info.size⟩ (.cells (old ++ new) elem false) := by
                  have hll := hrows.length
                  refine ⟨_, (0, 0), heap_alloc_new w.drew _, ?_, ?_, hsize, fun _ => ⟨rfl, rfl⟩⟩
                  · rw [hsize, ← hll]
                    simp only [Nat.zero_add, List.length_append, hol, hnl]
                    rw [← Nat.add_mul]
                    exact Nat.mul_le_mul_right _ hge
                  · have : (((olds ++ vs).toArray ++ Builtin.zeroCells zv.cells (grownCap w (len + n) cap' elem - (len + n))).toList.drop 0).take (old ++ new).length = olds ++ vs := by
                      rw [← hll]
                      simp only [List.drop_zero, Array.toList_append]
                      rw [List.take_append_of_le_length (by simp), List.take_of_length_le (by simp)]
                    simp only [this]
                    exact hrows.mono fun b h => ⟨.inl h, upd_ne μ _ fun (he : b = nid) => hnid (he ▸ h)⟩
                obtain ⟨hsim, hstep⟩ := Sd.alloc (N := N) hnid hN (by rw [hn1]; exact h1) h2 (x := .cells (old ++ new) elem false) rfl (l := ⟨w.heap.size, 0, grownCap w (len + n) cap' elem * info.size⟩) rfl hb
                refine ⟨_, _, ?_, hsim, (Step.same (N := N) (μ := μ) (ok := ok) (H := H1) (w := w) (w' := w.drew) rfl rfl rfl rfl).trans hstep (Nat.le_refl _), fun b h => h⟩
                simp only [VRel, upd_same, Loc.at]
                exact ⟨.inr trivial, _, rfl, .inr ⟨c3, hge, by rw [← hsz]; simp⟩⟩
              split at h
              · split at h
                · rename_i hl0
                  subst hl0
                  obtain rfl := Option.some.inj h
                  obtain ⟨_, rfl, _, _⟩ := hnone rfl
                  have hg := grow [] (by omega) (by simp [Builtin.firstCells])
                  obtain ⟨μ', ok', q1, q2, q3, q4⟩ := newrow H [] [] S rfl (by simp [VRels]) (by simp) (by omega)
                  exact ⟨_, _, hg, μ', ok', q1, by simpa [AH.appAt, applyWs] using q2, by simpa [AH.appAt, applyWs] using q3, q4⟩
                · cases h
              · rename_i b
                split at h
                · rename_i cs0 e old hgb hold
                  split at h
                  · rename_i he
                    rw [he] at hgb
                    obtain rfl := Option.some.inj h
                    obtain ⟨hok, hc⟩ := hsome _ rfl
                    obtain ⟨olds, hol, _, hor, hocell⟩ := cellsAt_rel S hold
                    by_cases hfit : len + n ≤ cap'
                    · -- in place, in the world
                      have hslack : sl ≠ 0 ∧ cap ≤ cap' ∧ (μ b).base + 0 + cap' * sl ≤ (μ b).room := by
                        rcases hc with rfl | hc
                        · exact absurd hfit hroom
                        · exact hc
                      have hsl : sl = ie.size := by rcases c5 with h | h; exact absurd h hslack.1; exact h
                      have hB := S.blk b
                      rw [hgb] at hB
                      obtain ⟨cur, fr, k1, k2, k3, k4, k5⟩ := hB
                      obtain ⟨hb0, rfl⟩ := k5 rfl
                      have hcur : len * info.size + vs.length ≤ cur.size := by
                        rw [hnl, ← Nat.add_mul, k4]
                        have := hslack.2.2
                        rw [hb0, hsl, ← hsz] at this
                        have h3 : (len + n) * info.size ≤ cap' * info.size := Nat.mul_le_mul_right _ hfit
                        omega
                      have hat : (μ b).at 0 = ⟨(μ b).blk, 0, none⟩ := by simp [Loc.at, hb0]
                      have hst := run_storeCells_at P (μ b).blk (len * info.size) elem vs 0 cur w k1 (by simpa using hcur) (hvr.one hone)
                      simp only [Nat.add_zero] at hst
                      have hrun : (Builtin.append_ #[sT, xT] ty #[.slice (some ((μ b).at 0)) len cap', x']).run P w = .ok (.slice (some ((μ b).at 0)) (len + n) cap') (w.setRow (μ b).blk (cur.toList.take (len * info.size) ++ vs ++ cur.toList.drop (len * info.size + vs.length)).toArray) := by
                        have hadd : (⟨(μ b).blk, 0, none⟩ : Addr).add (len * info.size) = ⟨(μ b).blk, len * info.size, none⟩ := by unfold Addr.add; split <;> simp_all
                        rw [hat]
                        simp [Builtin.append_, run_underlying hut, run_underlying hux, sizeOf, typeInfo, hinfo, srcw.len, hfit, srcw.cells, hadd, hst]
                      have hwri : (H.g b).writable := by rw [hgb]; rfl
                      have holds : olds = cur.toList.take (len * info.size) := by
                        apply List.ext_getElem?
                        intro j
                        by_cases hj : j < len * info.size
                        · have hj' : j < olds.length := by rw [hol, ← hsz]; exact hj
                          have := hocell j _ (List.getElem?_eq_getElem hj')
                          rw [Loc.add, Nat.zero_add] at this
                          simp only [World.cell?, Loc.at, k1, hb0, Nat.zero_add] at this
                          rw [List.getElem?_eq_getElem hj', List.getElem?_take, if_pos hj]
                          simpa using this.symm
                        · rw [List.getElem?_eq_none (by rw [hol, ← hsz]; omega), List.getElem?_take, if_neg hj]
                      obtain ⟨hsim, hstep⟩ := S.adopt (N := N) (w' := w.setRow (μ b).blk (cur.toList.take (len * info.size) ++ vs ++ cur.toList.drop (len * info.size + vs.length)).toArray) hnid hN h1 h2 hwri (x := .cells (old ++ new) elem false) rfl (l := ⟨(μ b).blk, 0, (μ b).room⟩) rfl
                        ⟨_, (0, 0), setRow_heap w _ cur _ elem (0, 0) k1, by
                          have e1 := hor.length
                          have e2 := hvr.length
                          simp only [Nat.zero_add, List.length_append, List.size_toArray, List.length_take, List.length_drop, Array.length_toList]
                          rw [← e1, ← e2, hol, ← hsz]; omega, by
                          have e1 := hor.length
                          have e2 := hvr.length
                          have : ((cur.toList.take (len * info.size) ++ vs ++ cur.toList.drop (len * info.size + vs.length)).toArray.toList.drop 0).take (old ++ new).length = olds ++ vs := by
                            rw [holds]
                            simp only [List.drop_zero]
                            rw [List.take_append_of_le_length (by simp only [List.length_append, ← e1, ← e2, holds]; omega), List.take_of_length_le (by simp only [List.length_append, ← e1, ← e2, holds]; omega)]
                          simp only [this]
                          exact (hor.append hvr).mono fun b h => ⟨.inl h, upd_ne μ _ fun (he : b = nid) => hnid (he ▸ h)⟩, by
                          rw [← k4]
                          simp only [List.size_toArray, List.length_append, List.length_take, List.length_drop, Array.length_toList]; omega, fun _ => ⟨rfl, rfl⟩⟩
                        (fun c hc => setRow_other w _ _ _ hc) (by simp) rfl rfl rfl
                      refine ⟨_, _, hrun, _, _, ?_, by simpa [AH.appAt, applyWs] using hsim, by simpa [AH.appAt, applyWs] using hstep, fun b h => h⟩
                      simp only [VRel, upd_same, Loc.at, hb0]
                      refine ⟨.inr trivial, cap', by simp, .inr ⟨c3, hfit, ?_⟩⟩
                      have := hslack.2.2
                      rw [hb0, hsl] at this
                      simpa using this
                    · -- a new row, in the world
                      have hlt : cap' < len + n := by omega
                      have hold' : (Builtin.firstCells info.size len (.slice (some ((μ b).at 0)) len cap')).run P w.drew = .ok olds.toArray w.drew :=
                        run_firstCells_some (P := P) w.drew info.size len ((μ b).at 0) len cap' olds (by rw [hol, hsz]) (by simpa using hocell)
                      have hg := grow olds hlt hold'
                      obtain ⟨Sk, stk⟩ := S.kill (N := N) b
                      obtain ⟨μ', ok', q1, q2, q3, q4⟩ := newrow { g := upd H.g b .dead, n := H.n } old olds Sk rfl hor (by rw [hol, hsz]) hlt
                      exact ⟨_, _, hg, μ', ok', q1, by simpa [AH.appAt, applyWs] using q2, by simpa [AH.appAt, applyWs] using stk.trans q3 (Nat.le_refl _), q4⟩
                  · cases h
                · cases h
              · cases h
            · cases h
    · cases h
  · cases h

end
end Go.Eng
namespace Go.Eng
set_option linter.unusedVariables false
set_option linter.unusedSimpArgs false

section
variable {P : Program} {N : Nat} {μ : Mu} {ok : Ok} {H : AH} {w : World} {nid n' : Nat}

theorem fits_copy (S : Sim μ ok H w) {ts : Array TypeId} {dT ty : TypeId} {d x : AV} {d' x' : Value} {r : ARes} (ht : ts[0]? = some dT) (h : acopy P H.g dT d x = some r) (hd : VRel μ ok d d') (hx : VRel μ ok x x') :
    Fits P N μ ok H w nid n' (Builtin.copy_ ts ty #[d', x']) r := by
  unfold acopy at h
  split at h
  · rename_i elem _ _ _ _ base dLen dCap sl xl hdT hlen
    split at h
    · rename_i ie hie
      obtain ⟨cap', rfl, hcc, hnone, hsome⟩ := slc_inv hd
      have hl := lenOf_run (P := P) hlen hx w
      split at h
      · rename_i cells hcells
        obtain rfl := Option.some.inj h
        obtain ⟨vs, hvr, _, hfirst⟩ := first_run (P := P) S hcells hx
        refine ⟨goInt (Nat.min xl dLen : Nat), w, ?_, Out.pure S (by simp [VRel, goInt])⟩
        simp [Builtin.copy_, ht, ti_desc hdT, hl, run_sizeOf hie, hfirst w rfl]
      · rename_i cells b o hcells
        split at h
        · cases h
        · rename_i hone
          have hone : cells.all AV.one = true := by simpa using hone
          rw [Option.map_eq_some_iff] at h
          obtain ⟨blk, hblk, rfl⟩ := h
          obtain ⟨vs, hvr, _, hfirst⟩ := first_run (P := P) S hcells hx
          obtain ⟨hb0, w', hst, hsim, hstep⟩ := setCells_rel (N := N) S hblk hvr (hvr.one hone) P
          refine ⟨goInt (Nat.min xl dLen : Nat), w', ?_, Out.undef (by simp [AH.appAt, applyWs]) (by simp [VRel, goInt]) hsim hstep⟩
          simp [Builtin.copy_, ht, ti_desc hdT, hl, run_sizeOf hie, hfirst w rfl, hst]
      · cases h
    · cases h
  · cases h

theorem fits_clear (S : Sim μ ok H w) {ts : Array TypeId} {t ty : TypeId} {x : AV} {x' : Value} {r : ARes} (ht : ts[0]? = some t) (h : aclear P H.g t x = some r) (hx : VRel μ ok x x') :
    Fits P N μ ok H w nid n' (Builtin.clear_ ts ty #[x']) r := by
  unfold aclear at h
  split at h
  · rename_i elem _ _ _ _ base n cap sl hi
    obtain ⟨cap', rfl, hcc, hnone, hsome⟩ := slc_inv hx
    split at h
    · obtain rfl := Option.some.inj h
      refine ⟨.tuple #[], w, ?_, Out.pure S (by simp [VRel, VRels])⟩
      simp [Builtin.clear_, ht, ti_desc hi]
    · obtain rfl := Option.some.inj h
      refine ⟨.tuple #[], w, ?_, Out.pure S (by simp [VRel, VRels])⟩
      cases base <;> simp [Builtin.clear_, ht, ti_desc hi]
    · rename_i b o hn0
      split at h
      · rename_i ie hie
        split at h
        · rename_i z hz
          split at h
          · rename_i hzl
            rw [Option.map_eq_some_iff] at h
            obtain ⟨blk, hblk, rfl⟩ := h
            obtain ⟨zv, hzv, hzr⟩ := run_zero hie hz w
            have hrel : VRels μ ok (zerosA z n) (Builtin.zeroCells zv.cells n).toList := by
              have := zeros_rel (hzr μ ok) n
              have hl : zv.cells.size = z.length := by simpa using (hzr μ ok).length
              unfold Builtin.zeroCells
              rw [hl] at this ⊢
              exact this
            have hone : (zerosA z n).all AV.one = true := by
              obtain ⟨info, h1, h2, h3, h4, h5, h6⟩ := ti_parts hie
              obtain ⟨zv2, _, e2, _⟩ := h6 z hz
              have hz1 : z.all AV.one = true := by
                have : ∀ (vs : List Value) (as : List AV), allOf AV.ofScalar vs = some as → as.all AV.one = true := by
                  intro vs
                  induction vs with
                  | nil => intro as h; simp only [allOf] at h; obtain rfl := Option.some.inj h; rfl
                  | cons v vs ih =>
                    intro as h
                    simp only [allOf] at h
                    split at h
                    · rename_i p q hp hq
                      obtain rfl := Option.some.inj h
                      simp only [List.all_cons, Bool.and_eq_true]
                      refine ⟨?_, ih q hq⟩
                      unfold AV.ofScalar at hp
                      split at hp <;> first | (obtain rfl := Option.some.inj hp; rfl) | cases hp
                    · cases h
                exact this _ _ e2
              have : ∀ k, (zerosA z k).all AV.one = true := by
                intro k
                induction k with
                | zero => rfl
                | succ k ih => simp [zerosA, List.all_append, hz1, ih]
              exact this n
            obtain ⟨hb0, w', hst, hsim, hstep⟩ := setCells_rel (N := N) S hblk hrel (hrel.one hone) P
            obtain ⟨m, rfl⟩ : ∃ m, n = m + 1 := ⟨n - 1, by
              cases n with
              | zero => exact (hn0 rfl).elim
              | succ m => rfl⟩
            refine ⟨.tuple #[], w', ?_, Out.undef (by simp [AH.appAt, applyWs]) (by simp [VRel, VRels]) hsim hstep⟩
            simp [Builtin.clear_, ht, ti_desc hi, hzv, hst]
          · cases h
        · cases h
      · cases h
  · cases h

theorem gives_len (S : Sim μ ok H w) {ts : Array TypeId} {t ty : TypeId} {x v : AV} {x' : Value} {rest : Array Value} (ht : ts[0]? = some t) (h : alen P H.g t x = some v) (hx : VRel μ ok x x') (hrest : rest[0]? = some x') : Gives P μ ok w (Builtin.len_ ts ty rest) v := by
  unfold alen at h
  split at h
  · rename_i hi
    simp only [VRel] at hx; subst hx
    obtain rfl := Option.some.inj h
    exact ⟨_, by simp [Builtin.len_, ht, hrest, ti_desc hi]; rfl, by simp [VRel, goInt]⟩
  · rename_i a n cap sl hi
    obtain ⟨cap', rfl, _⟩ := slc_inv hx
    obtain rfl := Option.some.inj h
    exact ⟨_, by simp [Builtin.len_, ht, hrest, ti_desc hi]; rfl, by simp [VRel, goInt]⟩
  · rename_i m hi
    rw [Option.map_eq_some_iff] at h
    obtain ⟨⟨es, c⟩, hmo, rfl⟩ := h
    obtain ⟨rfl, _⟩ := map_inv hx
    rcases mapOf_rel S hmo with ⟨rfl, rfl⟩ | ⟨r, es', rfl, hw, he⟩
    · exact ⟨_, by simp [Builtin.len_, ht, hrest, ti_desc hi]; rfl, by simp [VRel, goInt]⟩
    · have hl : es'.size = es.length := by simpa using he.1
      refine ⟨goInt es'.size, ?_, by simp [VRel, goInt, hl]⟩
      simp [Builtin.len_, ht, hrest, ti_desc hi, run_getObj_map (P := P) hw]
  · cases h

theorem gives_min {x y v : AV} {x' y' : Value} (h : amin2 true x y = some v) (hx : VRel μ ok x x') (hy : VRel μ ok y y') (ts : Array TypeId) (ty : TypeId) : Gives P μ ok w (Builtin.min_ ts ty #[x', y']) v := by
  unfold amin2 at h
  split at h
  · simp only [VRel] at hx hy; subst hx; subst hy
    split at h
    · rename_i hk; subst hk
      obtain rfl := Option.some.inj h
      exact ⟨_, by simp [Builtin.min_, Builtin.min2]; rfl, by simp [VRel]⟩
    · cases h
  · cases h
theorem gives_max {x y v : AV} {x' y' : Value} (h : amin2 false x y = some v) (hx : VRel μ ok x x') (hy : VRel μ ok y y') (ts : Array TypeId) (ty : TypeId) : Gives P μ ok w (Builtin.max_ ts ty #[x', y']) v := by
  unfold amin2 at h
  split at h
  · simp only [VRel] at hx hy; subst hx; subst hy
    split at h
    · rename_i hk; subst hk
      obtain rfl := Option.some.inj h
      exact ⟨_, by simp [Builtin.max_, Builtin.max2]; rfl, by simp [VRel]⟩
    · cases h
  · cases h

/-- the result of the model's operation: a value, or none (the slot then holds nothing) -/
def Upon (r : Result Next) (v' : Value) (w' : World) : Prop := r = .ok (.value v') w' ∨ (r = .ok .skip w' ∧ v' = undef)

/-- ONE OPERATION: what 'aop' says, the model does. -/
def OpFits (P : Program) (N : Nat) (μ : Mu) (ok : Ok) (H : AH) (w : World) (nid n' : Nat) (r : Result Next) : ARes → Prop
  | .val v e => ∃ v' w', Upon r v' w' ∧ Out N μ ok H w nid n' v e v' w'
  | .call f args => ∃ args' : Array Value, r = (callFunc f args').run P w ∧ VRels μ ok args args'.toList

theorem OpFits.ofFits {s : Sem Value} {a : ARes} (h : Fits P N μ ok H w nid n' s a) : OpFits P N μ ok H w nid n' ((do pure (.value (← s)) : Sem Next).run P w) a := by
  cases a with
  | val v e => obtain ⟨v', w', h1, h2⟩ := h; exact ⟨v', w', .inl (by simp [h1]), h2⟩
  | call f args => exact h.elim

theorem OpFits.ofFitsU {s : Sem Unit} {a : ARes} (h : FitsU P N μ ok H w nid n' s a) : OpFits P N μ ok H w nid n' ((do s; pure .skip : Sem Next).run P w) a := by
  cases a with
  | val v e => obtain ⟨w', h1, h2⟩ := h; exact ⟨undef, w', .inr ⟨by simp [h1], rfl⟩, h2⟩
  | call f args => exact h.elim

theorem opt_rel {ρ : Operand → Option AV} {ρc : Operand → Value} (h : ORel μ ok ρ ρc) {o : Option Operand} {v : Option AV} (e : optA ρ o = some v) : OptRel μ ok v (o.map ρc) := by
  cases o with
  | none => simp only [optA, Option.some.injEq] at e; subst e; trivial
  | some x =>
    simp only [optA, Option.map_eq_some_iff] at e
    obtain ⟨a, ha, rfl⟩ := e
    exact h _ _ ha

end
end Go.Eng
namespace Go.Eng
set_option linter.unusedVariables false
set_option linter.unusedSimpArgs false

section
variable {P : Program} {N : Nat} {μ : Mu} {ok : Ok} {H : AH} {w : World} {nid n' : Nat}

theorem map_pure {o : Option AV} {r : ARes} (h : o.map ARes.pure = some r) : ∃ v, o = some v ∧ r = .pure v := by
  rw [Option.map_eq_some_iff] at h
  obtain ⟨v, h1, h2⟩ := h
  exact ⟨v, h1, h2.symm⟩

theorem two_rel {v y : AV} {av : Array Value} (h : VRels μ ok [v, y] av.toList) : ∃ v' y', av = #[v', y'] ∧ VRel μ ok v v' ∧ VRel μ ok y y' := by
  simp only [VRels] at h
  obtain ⟨v', l, e, h1, y', l', e', h2, e''⟩ := h
  subst e''; subst e'
  exact ⟨v', y', by rw [← Array.toArray_toList (xs := av), e], h1, h2⟩
theorem one_rel {v : AV} {av : Array Value} (h : VRels μ ok [v] av.toList) : ∃ v', av = #[v'] ∧ VRel μ ok v v' := by
  simp only [VRels] at h
  obtain ⟨v', l, e, h1, e'⟩ := h
  subst e'
  exact ⟨v', by rw [← Array.toArray_toList (xs := av), e], h1⟩

theorem aop_sound (S : Sim μ ok H w) (hnid : ¬ ok nid) (hN : N ≤ nid) (h1 : H.n ≤ n') (h2 : nid < n') {ρ : Operand → Option AV} {ρc : Operand → Value} (hρ : ORel μ ok ρ ρc) {o : Oper} {r : ARes} (h : aop P ρ H.g nid o.op = some r) :
    OpFits P N μ ok H w nid n' ((execOp ρc o).run P w) r := by
  obtain ⟨dst, op, type, pos, after, guard⟩ := o
  cases op <;> simp only [aop] at h
  case move x =>
    obtain ⟨v, hv, rfl⟩ := map_pure h
    exact ⟨ρc x, w, .inl rfl, Out.pure S (hρ _ _ hv)⟩
  case assign x =>
    obtain ⟨v, hv, rfl⟩ := map_pure h
    exact ⟨ρc x, w, .inl rfl, Out.pure S (hρ _ _ hv)⟩
  case pick c a b =>
    split at h
    · rename_i t hc
      have hc' := hρ _ _ hc
      simp only [VRel] at hc'
      obtain ⟨v, hv, rfl⟩ := map_pure h
      cases t
      · exact ⟨ρc b, w, .inl (by simp [execOp, hc', asBool]), Out.pure S (hρ _ _ (by simpa using hv))⟩
      · exact ⟨ρc a, w, .inl (by simp [execOp, hc', asBool]), Out.pure S (hρ _ _ (by simpa using hv))⟩
    · cases h
  case alloc e =>
    split at h
    · rename_i i hi
      rw [Option.map_eq_some_iff] at h
      obtain ⟨z, hz, rfl⟩ := h
      exact OpFits.ofFits (fits_alloc S hnid hN h1 h2 hi hz)
    · cases h
  case box e x =>
    rw [Option.map_eq_some_iff] at h
    obtain ⟨v, hv, rfl⟩ := h
    exact OpFits.ofFits (fits_box S hnid hN h1 h2 (hρ _ _ hv))
  case build t ps =>
    split at h
    · rename_i ps' hps
      obtain ⟨v, hv, rfl⟩ := map_pure h
      have := parts_rel hρ hps
      exact OpFits.ofFits (Gives.fits S (gives_build hv (by simpa using this)))
    · cases h
  case buildSlice t len ps =>
    split at h
    · rename_i ps' hps
      have := parts_rel hρ hps
      exact OpFits.ofFits (fits_buildSlice S hnid hN h1 h2 h (by simpa using this))
    · cases h
  case load t a =>
    split at h
    · rename_i a' ha
      obtain ⟨v, hv, rfl⟩ := map_pure h
      exact OpFits.ofFits (fits_load S (hρ _ _ ha) hv)
    · cases h
  case store t a v =>
    split at h
    · rename_i a' v' ha hv
      exact OpFits.ofFitsU (fits_store S (hρ _ _ ha) (hρ _ _ hv) h)
    · cases h
  case nilCheck x =>
    split at h
    · rename_i a ha
      obtain rfl := Option.some.inj h
      have := hρ _ _ ha
      obtain ⟨hok, e⟩ := this.ptr_inv
      exact ⟨_, w, .inl (by simp [execOp, e]; rfl), Out.pure S (by simp only [VRel]; exact ⟨hok, trivial⟩)⟩
    · rename_i f a b ha
      obtain rfl := Option.some.inj h
      have hr := hρ _ _ ha
      have hr0 := hr
      simp only [VRel] at hr
      obtain ⟨x', y', e, _, _⟩ := hr
      exact ⟨_, w, .inl (by simp [execOp, e]; rfl), Out.pure S (by rw [e] at hr0; exact hr0)⟩
    · cases h
  case binOp op t x y yt =>
    split at h
    · rename_i x' y' hx hy
      obtain ⟨v, hv, rfl⟩ := map_pure h
      exact OpFits.ofFits (Gives.fits S (gives_bin hv (hρ _ _ hx) (hρ _ _ hy)))
    · cases h
  case unOp op t x =>
    split at h
    · rename_i x' hx
      obtain ⟨v, hv, rfl⟩ := map_pure h
      exact OpFits.ofFits (Gives.fits S (gives_un hv (hρ _ _ hx)))
    · cases h
  case convert s d x =>
    split at h
    · rename_i x' hx
      obtain ⟨v, hv, rfl⟩ := map_pure h
      exact OpFits.ofFits (Gives.fits S (gives_convert hv (hρ _ _ hx)))
    · cases h
  case makeFunc fn first cap =>
    cases fn <;> simp only [reduceCtorEq] at h
    split at h
    · rename_i a b ha hb
      obtain rfl := Option.some.inj h
      refine ⟨_, w, .inl (by simp [execOp, Instr.makeFunc]; rfl), Out.pure S ?_⟩
      simp only [VRel]
      exact ⟨_, _, rfl, by simpa using allOf_rel hρ ha, by simpa using allOf_rel hρ hb⟩
    · cases h
  case makeMap t r =>
    cases r with
    | some x => simp at h
    | none =>
      simp only [Option.some.injEq] at h
      subst h
      exact OpFits.ofFits (fits_makeMap S hnid hN h1 h2)
  case makeSlice t l c =>
    split at h
    · rename_i l' c' hl hc
      exact OpFits.ofFits (fits_makeSlice S hnid hN h1 h2 h (hρ _ _ hl) (hρ _ _ hc))
    · cases h
  case slice t x lo hi mx =>
    split at h
    · rename_i x' lo' hi' mx' hx hlo hhi hmx
      obtain ⟨v, hv, rfl⟩ := map_pure h
      exact OpFits.ofFits (Gives.fits S (gives_slice hv (hρ _ _ hx) (opt_rel hρ hlo) (opt_rel hρ hhi) (opt_rel hρ hmx)))
    · cases h
  case fieldAddr t x f =>
    split at h
    · rename_i x' hx
      obtain ⟨v, hv, rfl⟩ := map_pure h
      exact OpFits.ofFits (Gives.fits S (gives_fieldAddr hv (hρ _ _ hx)))
    · cases h
  case field t x f =>
    split at h
    · rename_i x' hx
      obtain ⟨v, hv, rfl⟩ := map_pure h
      exact OpFits.ofFits (Gives.fits S (gives_field hv (hρ _ _ hx)))
    · cases h
  case indexAddr t x i =>
    split at h
    · rename_i x' i' hx hi
      obtain ⟨v, hv, rfl⟩ := map_pure h
      exact OpFits.ofFits (Gives.fits S (gives_indexAddr hv (hρ _ _ hx) (hρ _ _ hi)))
    · cases h
  case index t x i =>
    split at h
    · rename_i x' i' hx hi
      obtain ⟨v, hv, rfl⟩ := map_pure h
      exact OpFits.ofFits (Gives.fits S (gives_index hv (hρ _ _ hx) (hρ _ _ hi)))
    · cases h
  case lookup t x k cok =>
    split at h
    · rename_i x' k' hx hk
      obtain ⟨v, hv, rfl⟩ := map_pure h
      exact OpFits.ofFits (Gives.fits S (gives_lookup S hv (hρ _ _ hx) (hρ _ _ hk)))
    · cases h
  case mapUpdate t m k v =>
    split at h
    · rename_i m' k' v' hm hk hv
      exact OpFits.ofFitsU (fits_mapUpdate S h (hρ _ _ hm) (hρ _ _ hk) (hρ _ _ hv))
    · cases h
  case insert t m k v =>
    split at h
    · rename_i m' k' v' hm hk hv
      exact OpFits.ofFitsU (fits_mapUpdate S h (hρ _ _ hm) (hρ _ _ hk) (hρ _ _ hv))
    · cases h
  case mapEntry t m k =>
    split at h
    · rename_i m' k' hm hk
      exact OpFits.ofFits (fits_mapEntry S h (hρ _ _ hm) (hρ _ _ hk))
    · cases h
  case entryStore t m s v =>
    split at h
    · rename_i m' s' v' hm hs hv
      exact OpFits.ofFitsU (fits_entryStore S h (hρ _ _ hm) (hρ _ _ hs) (hρ _ _ hv))
    · cases h
  case extract t i =>
    split at h
    · rename_i vs ht
      obtain ⟨v, hv, rfl⟩ := map_pure h
      have hr := hρ _ _ ht
      simp only [VRel] at hr
      obtain ⟨vs', e, hvs⟩ := hr
      obtain ⟨u, hu, hur⟩ := hvs.get hv
      have hu' : vs'[i]? = some u := by simpa using hu
      exact ⟨u, w, .inl (by simp [execOp, e, Instr.extract, hu']), Out.pure S hur⟩
    · cases h
  case call c =>
    obtain ⟨callee, args, argTypes⟩ := c
    cases callee with
    | invoke recv m => simp at h
    | value f =>
      simp only at h
      split at h
      · rename_i f0 first cap vs hf hvs
        obtain rfl := Option.some.inj h
        have hr := hρ _ _ hf
        simp only [VRel] at hr
        obtain ⟨x', y', e, hx, hy⟩ := hr
        refine ⟨x' ++ args.map ρc ++ y', ?_, ?_⟩
        · simp [execOp, resolve, e, Deferred.ofValue, invoke]
        · have := (hx.append (allOf_rel hρ hvs)).append hy
          simpa using this
      · cases h
    | builtin b =>
      simp only at h
      split at h
      · rename_i vs hvs
        have hr := allOf_rel hρ hvs
        have hargs : (args.map ρc).toList = args.toList.map ρc := by simp
        rw [← hargs] at hr
        obtain ⟨cb, hexec⟩ : ∃ cb, (execOp ρc ⟨dst, .call ⟨.builtin b, args, argTypes⟩, type, pos, after, guard⟩).run P w = (builtin b argTypes type cb (args.map ρc)).run P w := ⟨_, rfl⟩
        rw [hexec]
        generalize args.map ρc = av at hr
        unfold abuiltin at h
        split at h
        · rename_i s x v y hts
          have hts' : argTypes = #[s, x] := by rw [← Array.toArray_toList (xs := argTypes), hts]
          obtain ⟨v', y', rfl, h3, h4⟩ := two_rel hr
          subst hts'
          exact OpFits.ofFits (fits_appendB S hnid hN h1 h2 h h3 h4)
        · rename_i d _ v y hts
          obtain ⟨v', y', rfl, h3, h4⟩ := two_rel hr
          exact OpFits.ofFits (fits_copy S (by rw [← Array.getElem?_toList, hts]; rfl) h h3 h4)
        · rename_i t x hts
          obtain ⟨x', rfl, h3⟩ := one_rel hr
          exact OpFits.ofFits (fits_clear S (by rw [← Array.getElem?_toList, hts]; rfl) h h3)
        · rename_i t _ m k hts
          obtain ⟨v', y', rfl, h3, h4⟩ := two_rel hr
          exact OpFits.ofFits (fits_delete S (by rw [← Array.getElem?_toList, hts]; rfl) h h3 h4 _)
        · rename_i t _ x _ hts
          obtain ⟨v, hv, rfl⟩ := map_pure h
          obtain ⟨x', hx', h3⟩ := hr.get (i := 0) rfl
          exact OpFits.ofFits (Gives.fits S (gives_len S (by rw [← Array.getElem?_toList, hts]; rfl) hv h3 (by simpa using hx')))
        · obtain ⟨v, hv, rfl⟩ := map_pure h
          obtain ⟨v', y', rfl, h3, h4⟩ := two_rel hr
          exact OpFits.ofFits (Gives.fits S (gives_min hv h3 h4 _ _))
        · obtain ⟨v, hv, rfl⟩ := map_pure h
          obtain ⟨v', y', rfl, h3, h4⟩ := two_rel hr
          exact OpFits.ofFits (Gives.fits S (gives_max hv h3 h4 _ _))
        · cases h
      · cases h
  all_goals cases h

end
end Go.Eng
