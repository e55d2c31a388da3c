/-
  M3: The small code, part 3: each small operation is the engine's.
-/
import Derived.Test.YtecaahcbbdbpbaaW4b
import Derived.KernelRfl
namespace Go.Eng
set_option linter.unusedVariables false
set_option linter.unusedSimpArgs false

theorem MX.opt_none (T : Slots) : MX.opt T none = none := rfl

section
variable {P : Program}

/-- the operations that only reckon -/
theorem cOp_pure {op : Op} {m : MO} (h : cOp P op = some m) (T : Slots) (g : Nat → AB) (n : Nat) : aop P (aeval T) g n op = mop P T g n m := by
  cases op with
  | move x => simp only [cOp, Option.map_eq_some_iff] at h; obtain ⟨a, h1, rfl⟩ := h; simp [aop, mop, cX_ok h1 T]
  | assign x => simp only [cOp, Option.map_eq_some_iff] at h; obtain ⟨a, h1, rfl⟩ := h; simp [aop, mop, cX_ok h1 T]
  | pick c a b =>
    simp only [cOp] at h
    split at h
    · rename_i c' a' b' h1 h2 h3
      simp only [Option.some.injEq] at h; subst h
      simp only [aop, mop, cX_ok h1 T, cX_ok h2 T, cX_ok h3 T]
      cases c'.val T <;> first | rfl | skip
      rename_i b; cases b <;> rfl
    · cases h
  | alloc e =>
    simp only [cOp] at h
    split at h
    · rename_i i hi
      simp only [Option.map_eq_some_iff] at h
      obtain ⟨z, hz, rfl⟩ := h
      simp [aop, mop, hi, hz]
    · cases h
  | box e x => simp only [cOp, Option.map_eq_some_iff] at h; obtain ⟨a, h1, rfl⟩ := h; simp [aop, mop, cX_ok h1 T]
  | build t ps =>
    simp only [cOp] at h
    split at h
    · rename_i fields agg size bytes z hi
      split at h
      · rename_i hall
        simp only [Option.map_eq_some_iff] at h
        obtain ⟨ps', h1, rfl⟩ := h
        obtain ⟨vs, e1, e2⟩ := cParts_ok h1 T
        simp only [aop, e1, mop, abuild, hi, hall, if_true]
        erw [e2]
        simp only [Option.map_map]
        rfl
      · cases h
    · rename_i len elem agg size bytes z hi
      split at h
      · rename_i ie hie
        simp only [Option.map_eq_some_iff] at h
        obtain ⟨ps', h1, rfl⟩ := h
        obtain ⟨vs, e1, e2⟩ := cElems_ok h1 T
        simp only [aop, e1, mop, abuild, hi, hie, e2, Option.map_map]
        rfl
      · cases h
    · cases h
  | buildSlice t len ps =>
    simp only [cOp] at h
    split at h
    · rename_i elem agg size bytes z hi
      split at h
      · rename_i ie hie
        split at h
        · rename_i z hz
          split at h
          · rename_i hcond
            simp only [Option.map_eq_some_iff] at h
            obtain ⟨ps', h1, rfl⟩ := h
            obtain ⟨vs, e1, e2⟩ := cElems_ok h1 T
            simp only [aop, e1, mop, abuildSlice, hi, hie, hz, hcond, and_self, if_true, e2]
          · cases h
        · cases h
      · cases h
    · cases h
  | load t a =>
    simp only [cOp] at h
    split at h
    · rename_i i a' hi ha
      simp only [Option.some.injEq] at h
      simp only [aop, cX_ok ha T, aload, hi]
      split at h
      · rename_i hagg
        subst h
        simp only [mop, aldN]
        cases a'.val T <;> first | rfl | skip
        rename_i p; rcases p with _ | ⟨b, o⟩
        · rfl
        · simp only [hagg, if_true]
      · rename_i hagg
        subst h
        simp only [mop, ald1]
        cases a'.val T <;> first | rfl | skip
        rename_i p; rcases p with _ | ⟨b, o⟩
        · rfl
        · simp only [hagg, if_false, Bool.false_eq_true]
          cases g b <;> rfl
    · cases h
  | store t a v =>
    simp only [cOp] at h
    split at h
    · rename_i i a' v' hi ha hv
      simp only [Option.some.injEq] at h; subst h
      simp only [aop, cX_ok ha T, cX_ok hv T, astore, hi, mop, ast]
      cases a'.val T <;> first | rfl | skip
      rename_i p; cases p <;> rfl
    · cases h
  | nilCheck x =>
    simp only [cOp, Option.map_eq_some_iff] at h; obtain ⟨a, h1, rfl⟩ := h; simp only [aop, mop, cX_ok h1 T]
    cases a.val T <;> first | rfl | skip
    rename_i p; cases p <;> rfl
  | binOp op t x y t' =>
    simp only [cOp] at h
    split at h
    · rename_i x' y' hx hy
      simp only [Option.some.injEq] at h; subst h
      simp only [aop, cX_ok hx T, cX_ok hy T, mop]
    · cases h
  | unOp op t x => simp only [cOp, Option.map_eq_some_iff] at h; obtain ⟨a, h1, rfl⟩ := h; simp only [aop, mop, cX_ok h1 T]
  | convert s d x =>
    simp only [cOp] at h
    split at h
    · rename_i i k agg size bytes z x' hs hd hx
      simp only [Option.some.injEq] at h; subst h
      simp only [aop, cX_ok hx T, mop, aconvert, hs, hd]
      cases x'.val T <;> rfl
    · cases h
  | makeFunc fn first cap =>
    cases fn with
    | func f =>
      simp only [cOp] at h
      split at h
      · rename_i a b ha hb
        simp only [Option.some.injEq] at h; subst h
        simp only [aop, cXs_ok ha T, cXs_ok hb T, mop]
      · cases h
    | _ => simp [cOp] at h
  | makeMap t r =>
    cases r with
    | none => simp only [cOp, Option.some.injEq] at h; subst h; rfl
    | some r => simp [cOp] at h
  | makeSlice t l c =>
    simp only [cOp] at h
    split at h
    · rename_i elem agg size bytes z l' c' hi hl hc'
      split at h
      · rename_i ie hie
        split at h
        · rename_i z hz
          split at h
          · rename_i hlen
            simp only [Option.some.injEq] at h; subst h
            simp only [aop, cX_ok hl T, cX_ok hc' T, mop, amakeSlice, hi, amks]
            cases l'.val T <;> first | rfl | skip
            cases c'.val T <;> first | rfl | skip
            simp only [hie, hz, hlen, and_true]
          · cases h
        · cases h
      · cases h
    · cases h
  | slice t x lo hi mx =>
    simp only [cOp] at h
    split at h
    · rename_i elem agg size bytes z x' lo' hi' mx' hi1 hx h1 h2 h3
      simp only [Option.map_eq_some_iff] at h
      obtain ⟨ie, hie, rfl⟩ := h
      simp only [aop, cX_ok hx T, cO_ok h1 T, cO_ok h2 T, cO_ok h3 T, mop, aslice, hi1, aslcS]
      cases x'.val T <;> first | rfl | skip
      rename_i a1 len1 cap1 sl1
      simp only [hie]
      cases abound (MX.opt T mx') cap1 cap1 <;> rfl
    · rename_i n elem agg size bytes z x' lo' hi' mx' hi1 hx h1 h2 h3
      simp only [Option.map_eq_some_iff] at h
      obtain ⟨ie, hie, rfl⟩ := h
      simp only [aop, cX_ok hx T, cO_ok h1 T, cO_ok h2 T, cO_ok h3 T, mop, aslice, hi1, aslcA]
      cases x'.val T <;> first | rfl | skip
      rename_i p; rcases p with _ | ⟨b, o⟩
      · rfl
      · simp only [hie]
        cases abound (MX.opt T mx') n n <;> rfl
    · rename_i agg size bytes z x' lo' hi' hi1 hx h1 h2 h3
      simp only [Option.some.injEq] at h; subst h
      simp only [aop, cX_ok hx T, cO_ok h1 T, cO_ok h2 T, cO_ok h3 T, mop, aslice, hi1, aslcT, MX.opt_none]
      cases x'.val T <;> first | rfl | skip
      rename_i s
      simp only []
      cases abound (MX.opt T hi') s.size s.size <;> first | rfl | kernel_rfl
    · cases h
  | fieldAddr t x f =>
    simp only [cOp] at h
    split at h
    · rename_i fields agg size bytes z x' hi hx
      split at h
      · rename_i fd hf
        split at h
        · rename_i i hfi
          split at h
          · rename_i hs
            simp only [Option.some.injEq] at h; subst h
            simp only [aop, cX_ok hx T, mop, afieldAddr, hi]
            cases x'.val T <;> first | rfl | skip
            rename_i p; cases p <;> first | rfl | skip
            simp only [hf, hfi, hs, ne_eq, not_false_eq_true, if_true]; rfl
          · cases h
        · cases h
      · cases h
    · cases h
  | field t x f =>
    simp only [cOp] at h
    split at h
    · rename_i fields agg size bytes z x' hi hx
      split at h
      · rename_i fd hf
        simp only [Option.map_eq_some_iff] at h
        obtain ⟨i, hfi, rfl⟩ := h
        simp only [aop, cX_ok hx T, mop, afield, hi, afld]
        cases x'.val T <;> first | rfl | skip
        simp only [hf, apart', hfi]
      · cases h
    · cases h
  | indexAddr t x i =>
    simp only [cOp] at h
    split at h
    · rename_i len elem agg size bytes z x' i' hi hx hix
      simp only [Option.map_eq_some_iff] at h
      obtain ⟨ie, hie, rfl⟩ := h
      simp only [aop, cX_ok hx T, cX_ok hix T, mop, aindexAddr, hi, aixP]
      cases x'.val T <;> first | rfl | skip
      rename_i p; cases p <;> first | rfl | skip
      cases i'.val T <;> first | rfl | skip
      simp only [hie]
    · rename_i elem agg size bytes z x' i' hi hx hix
      simp only [Option.map_eq_some_iff] at h
      obtain ⟨ie, hie, rfl⟩ := h
      simp only [aop, cX_ok hx T, cX_ok hix T, mop, aindexAddr, hi, aixS]
      cases x'.val T <;> first | rfl | skip
      rename_i p _ _ _; cases p <;> first | rfl | skip
      cases i'.val T <;> first | rfl | skip
      simp only [hie]
    · cases h
  | index t x i =>
    simp only [cOp] at h
    split at h
    · rename_i len elem agg size bytes z x' i' hi hx hix
      simp only [Option.map_eq_some_iff] at h
      obtain ⟨ie, hie, rfl⟩ := h
      simp only [aop, cX_ok hx T, cX_ok hix T, mop, aindex, hi, aixA]
      cases x'.val T <;> first | rfl | skip
      cases i'.val T <;> first | rfl | skip
      simp only [hie, apart', afld]
    · rename_i agg size bytes z x' i' hi hx hix
      simp only [Option.some.injEq] at h; subst h
      simp only [aop, cX_ok hx T, cX_ok hix T, mop, aindex, hi, aixT]
      cases x'.val T <;> first | rfl | skip
      cases i'.val T <;> first | rfl | skip
    · cases h
  | lookup t x k ok =>
    simp only [cOp] at h
    split at h
    · rename_i kt et agg size bytes z x' k' hi hx hk
      split at h
      · rename_i ks kagg ie hkey hie
        split at h
        · rename_i z hz
          simp only [Option.map_eq_some_iff] at h
          obtain ⟨zv, hzv, rfl⟩ := h
          simp only [aop, cX_ok hx T, cX_ok hk T, mop, alookup, hi, alook]
          cases x'.val T <;> first | rfl | skip
          rename_i r
          simp only []
          cases mapOf g r with
          | none => cases ti P et <;> rfl
          | some p =>
            obtain ⟨es, c⟩ := p
            simp only [hie, cKey_ok hkey, hz, hzv, Option.map_some]
            kernel_rfl
        · cases h
      · cases h
    · cases h
  | mapUpdate t m' k v =>
    simp only [cOp] at h
    split at h
    · rename_i kt et agg size bytes z m1 k1 v1 hi hm hk hv
      simp only [Option.map_eq_some_iff] at h
      obtain ⟨c, hkey, rfl⟩ := h
      simp only [aop, cX_ok hm T, cX_ok hk T, cX_ok hv T, mop, amapUpdate, hi, amset]
      cases m1.val T <;> first | rfl | skip
      rename_i p; cases p <;> first | rfl | skip
      simp only [cKey_ok hkey]
      kernel_rfl
    · cases h
  | insert t m' k v =>
    simp only [cOp] at h
    split at h
    · rename_i kt et agg size bytes z m1 k1 v1 hi hm hk hv
      simp only [Option.map_eq_some_iff] at h
      obtain ⟨c, hkey, rfl⟩ := h
      simp only [aop, cX_ok hm T, cX_ok hk T, cX_ok hv T, mop, amapUpdate, hi, amset]
      cases m1.val T <;> first | rfl | skip
      rename_i p; cases p <;> first | rfl | skip
      simp only [cKey_ok hkey]
      kernel_rfl
    · cases h
  | mapEntry t m' k =>
    simp only [cOp] at h
    split at h
    · rename_i kt et agg size bytes z m1 k1 hi hm hk
      split at h
      · rename_i ks kagg ie hkey hie
        split at h
        · rename_i z hz
          simp only [Option.map_eq_some_iff] at h
          obtain ⟨zv, hzv, rfl⟩ := h
          simp only [aop, cX_ok hm T, cX_ok hk T, mop, amapEntry, hi, ament]
          cases m1.val T <;> first | rfl | skip
          rename_i p; cases p <;> first | rfl | skip
          rename_i r
          simp only []
          cases g r with
          | dead => cases ti P et <;> rfl
          | cells cs e ro => cases ti P et <;> rfl
          | map es c ro =>
            cases ro with
            | true => cases ti P et <;> rfl
            | false =>
              simp only [hie, cKey_ok hkey, hz, hzv, Option.map_some]
              kernel_rfl
        · cases h
      · cases h
    · cases h
  | entryStore t m' s v =>
    simp only [cOp] at h
    split at h
    · rename_i m1 s1 v1 hm hs hv
      simp only [Option.some.injEq] at h; subst h
      simp only [aop, cX_ok hm T, cX_ok hs T, cX_ok hv T, mop]
    · cases h
  | extract t i =>
    simp only [cOp, Option.map_eq_some_iff] at h; obtain ⟨a, h1, rfl⟩ := h; simp only [aop, mop, cX_ok h1 T]
    cases a.val T <;> rfl
  | call c =>
    obtain ⟨callee, args, argTypes⟩ := c
    cases callee with
    | builtin b =>
      simp only [cOp] at h
      split at h
      · rename_i s x v y hts hargs
        split at h
        · rename_i elem _ _ _ _ _ _ _ _ _ hs hx
          split at h
          · rename_i ie hie
            split at h
            · rename_i hcond
              simp only [Option.some.injEq] at h; subst h
              simp only [aop, cXs_ok hargs T, MX.vals, hts, abuiltin, aappend, hs, hx, mop, aapp]
              cases v.val T <;> first | rfl | skip
              rename_i a1 len1 cap1 sl1
              cases lenOfA (y.val T) with
              | none => rfl
              | some k =>
                simp only [hie, hcond.1, hcond.2, ne_eq, not_false_eq_true, true_and]
                kernel_rfl
            · cases h
          · cases h
        · cases h
      · rename_i d x v y hts hargs
        split at h
        · rename_i elem _ _ _ _ hd
          simp only [Option.map_eq_some_iff] at h
          obtain ⟨ie, hie, rfl⟩ := h
          simp only [aop, cXs_ok hargs T, MX.vals, hts, abuiltin, acopy, hd, mop, acpy]
          cases v.val T <;> first | rfl | skip
          rename_i a1 len1 cap1 sl1
          cases lenOfA (y.val T) with
          | none => rfl
          | some k =>
            simp only [hie]
            kernel_rfl
        · cases h
      · rename_i t x hts hargs
        split at h
        · rename_i elem _ _ _ _ hd
          split at h
          · rename_i ie hie
            split at h
            · rename_i z hz
              split at h
              · rename_i hlen
                simp only [Option.some.injEq] at h; subst h
                simp only [aop, cXs_ok hargs T, MX.vals, hts, abuiltin, aclear, hd, mop, aclrS]
                cases x.val T <;> first | rfl | skip
                simp only [hie, hz, hlen, if_true]
                kernel_rfl
              · cases h
            · cases h
          · cases h
        · cases h
      · rename_i t ts m' k' hts hargs
        split at h
        · rename_i kt et _ _ _ _ hd
          simp only [Option.map_eq_some_iff] at h
          obtain ⟨c, hkey, rfl⟩ := h
          simp only [aop, cXs_ok hargs T, MX.vals, hts, abuiltin, adelete, hd, mop, amdel]
          cases m'.val T <;> first | rfl | skip
          rename_i p; cases p <;> first | rfl | skip
          simp only [cKey_ok hkey]
          kernel_rfl
        · cases h
      · rename_i t ts x xs hts hargs
        split at h
        · rename_i hd
          simp only [Option.some.injEq] at h; subst h
          simp only [aop, cXs_ok hargs T, MX.vals, hts, abuiltin, alen, hd, mop]
          cases x.val T <;> rfl
        · rename_i hd
          simp only [Option.some.injEq] at h; subst h
          simp only [aop, cXs_ok hargs T, MX.vals, hts, abuiltin, alen, hd, mop]
          cases x.val T <;> first | rfl | skip
          simp only [Option.map_map]; rfl
        · rename_i hd
          simp only [Option.some.injEq] at h; subst h
          simp only [aop, cXs_ok hargs T, MX.vals, hts, abuiltin, alen, hd, mop]
          cases x.val T <;> rfl
        · cases h
      · rename_i x y hargs
        simp only [Option.some.injEq] at h; subst h
        simp only [aop, cXs_ok hargs T, MX.vals, abuiltin, mop]
      · rename_i x y hargs
        simp only [Option.some.injEq] at h; subst h
        simp only [aop, cXs_ok hargs T, MX.vals, abuiltin, mop]
      · cases h
    | value f => simp [cOp] at h
    | invoke r m => simp [cOp] at h
  | _ => simp [cOp] at h

end
end Go.Eng
