/-
  K5: The engine's kit, part 5: what stays, and slices of plain elements in memory.
  K4: The engine's kit, part 4: more operations, by their kind: len, extract, addresses of elements, what is built.
  K3: The engine's kit, part 3: one operation at a time, by its kind.
  K2: The engine's kit, part 2: code, by what it comes to.
  K1: The engine's kit, part 1: more rounds and deeper calls answer the same; calls by what they answer.
-/
import Derived.Test.YtecaahcbbdbpbaaW3
namespace Go.Eng
set_option linter.unusedVariables false
set_option linter.unusedSimpArgs false

section
variable {P : Program}

def CfLe (cf cf' : CallF) : Prop := ∀ f args H r, cf f args H = some r → cf' f args H = some r

theorem ostep_mono {cf cf' : CallF} (h : CfLe cf cf') {sz : Nat} {ops : Array Oper} {o : Oper} {T : Slots} {H : AH} {r : Slots × AH} (e : ostep P cf sz ops o T H = some r) : ostep P cf' sz ops o T H = some r := by
  unfold ostep at e ⊢
  split at e
  · rename_i h1
    rw [if_pos h1]
    split at e
    · rename_i h2
      rw [if_pos h2]
      split at e
      · rename_i ha; exact e
      · rename_i f args ha
        try simp only [ha]
        split at e
        · rename_i hc; rw [h _ _ _ _ hc]; exact e
        · cases e
      · cases e
    · rename_i h2; rw [if_neg h2]; exact e
  · cases e

theorem aops_mono {cf cf' : CallF} (h : CfLe cf cf') {sz : Nat} {ops : Array Oper} : ∀ (l : List Oper) {T : Slots} {H : AH} {r : Slots × AH}, aops P cf sz ops l T H = some r → aops P cf' sz ops l T H = some r
  | [], T, H, r, e => e
  | o :: l, T, H, r, e => by
    simp only [aops] at e ⊢
    split at e
    · rename_i h1; rw [ostep_mono h h1]; exact aops_mono h l e
    · cases e

theorem dstep_mono {quiet : FuncId → Bool} {cf cf' : CallF} (h : CfLe cf cf') {sz : Nat} {ops : Array Oper} {n0 : Nat} {B : Nat → Nat → Bool} {i : Nat} {o : Oper} {T : Slots} {H : AH} {r : Slots × AH} (e : dstep P quiet cf sz ops n0 B i o T H = some r) : dstep P quiet cf' sz ops n0 B i o T H = some r := by
  unfold dstep at e ⊢
  split at e
  · rename_i h1
    rw [if_pos h1]
    split at e
    · rename_i h2
      rw [if_pos h2]
      simp only at e ⊢
      split at e
      · rename_i hk
        try simp only [hk]
        split at e
        · rename_i ha; exact e
        · rename_i ha
          try simp only [ha]
          split at e
          · rename_i hc; rw [h _ _ _ _ hc]; exact e
          · cases e
        · cases e
      · exact e
      · rename_i hk
        try simp only [hk]
        split at e
        · rename_i ha; exact e
        · rename_i ha
          try simp only [ha]
          split at e
          · rename_i hc; rw [h _ _ _ _ hc]; exact e
          · cases e
        · cases e
    · rename_i h2; rw [if_neg h2]; exact e
  · cases e

theorem dops_mono {quiet : FuncId → Bool} {cf cf' : CallF} (h : CfLe cf cf') {sz : Nat} {ops : Array Oper} {n0 : Nat} {B : Nat → Nat → Bool} : ∀ (l : List (Nat × Oper)) {T : Slots} {H : AH} {r : Slots × AH}, dops P quiet cf sz ops n0 B l T H = some r → dops P quiet cf' sz ops n0 B l T H = some r
  | [], T, H, r, e => e
  | (i, o) :: l, T, H, r, e => by
    simp only [dops] at e ⊢
    split at e
    · rename_i h1; rw [dstep_mono h h1]; exact dops_mono h l e
    · cases e

theorem adraw_mono {quiet : FuncId → Bool} {cf cf' : CallF} (h : CfLe cf cf') {sz : Nat} {ops : Array Oper} {T : Slots} {H : AH} {r : Slots × AH} (e : adraw P quiet cf sz ops T H = some r) : adraw P quiet cf' sz ops T H = some r := by
  unfold adraw at e ⊢
  split at e
  · rename_i h1; rw [if_pos h1]; exact dops_mono h _ e
  · cases e

def BodyLe (b b' : Slots → AH → Run) : Prop := ∀ T H r, b T H = some r → b' T H = some r

theorem aloop_mono {b b' : Slots → AH → Run} (h : BodyLe b b') : ∀ (k k' : Nat), k ≤ k' → ∀ {T : Slots} {H : AH} {r}, aloop b k T H = some r → aloop b' k' T H = some r
  | 0, k', hk, T, H, r, e => by simp [aloop] at e
  | k + 1, 0, hk, T, H, r, e => by omega
  | k + 1, k' + 1, hk, T, H, r, e => by
    simp only [aloop] at e ⊢
    split at e
    · rename_i h1; rw [h _ _ _ h1]; exact aloop_mono h k k' (by omega) e
    · rename_i hne
      cases hb : b T H with
      | none => rw [hb] at e; cases e
      | some x =>
        rw [hb] at e
        obtain rfl := Option.some.inj e
        rw [h _ _ _ hb]
        obtain ⟨e1, T1, H1⟩ := x
        cases e1 with
        | normal => exact absurd hb (hne _ _)
        | exit i => rfl
        | ret => rfl

theorem acode_mono {quiet : FuncId → Bool} {cf cf' : CallF} (h : CfLe cf cf') {sz lf lf' : Nat} (hl : lf ≤ lf') : ∀ (c : Code), BodyLe (acode P quiet cf sz lf c) (acode P quiet cf' sz lf' c) := by
  intro c
  induction c with
  | region id ops draw =>
    intro T H r e
    simp only [acode] at e ⊢
    split at e
    · rename_i T1 H1 h1
      cases draw with
      | true =>
        have h1' : adraw P quiet cf sz ops T H = some (T1, H1) := by simpa using h1
        have := adraw_mono h h1'
        simp only [if_true, this]; exact e
      | false =>
        have h1' : aops P cf sz ops ops.toList T H = some (T1, H1) := by simpa using h1
        have := aops_mono h _ h1'
        simp only [Bool.false_eq_true, if_false, this]; exact e
    · cases e
  | seq x y ihx ihy =>
    intro T H r e
    simp only [acode] at e ⊢
    split at e
    · rename_i h1; rw [ihx _ _ _ h1]; exact ihy _ _ _ e
    · rename_i hne
      cases hb : acode P quiet cf sz lf x T H with
      | none => rw [hb] at e; cases e
      | some z =>
        rw [hb] at e
        obtain rfl := Option.some.inj e
        rw [ihx _ _ _ hb]
        obtain ⟨e1, T1, H1⟩ := z
        cases e1 with
        | normal => exact absurd hb (hne _ _)
        | exit i => rfl
        | ret => rfl
  | cond c x y ihx ihy =>
    intro T H r e
    simp only [acode] at e ⊢
    split at e
    · exact ihx _ _ _ e
    · exact ihy _ _ _ e
    · cases e
  | block id c ih =>
    intro T H r e
    simp only [acode] at e ⊢
    split at e
    · rename_i h1; rw [ih _ _ _ h1]; exact e
    · rename_i hne
      cases hb : acode P quiet cf sz lf c T H with
      | none => rw [hb] at e; cases e
      | some z =>
        rw [hb] at e
        obtain rfl := Option.some.inj e
        rw [ih _ _ _ hb]
        obtain ⟨e1, T1, H1⟩ := z
        cases e1 with
        | exit i => exact absurd hb (hne _ _ _)
        | normal => rfl
        | ret => rfl
  | loop c ih =>
    intro T H r e
    simp only [acode] at e ⊢
    exact aloop_mono ih lf lf' hl e
  | _ => intro T H r e; simp only [acode] at e ⊢; exact e

theorem abody_mono {S : Sums} {cf cf' : CallF} (h : CfLe cf cf') {k k' : Nat} (hk : k ≤ k') {fn : Func} {c : Code} {args : List AV} {H : AH} {r : AV × AH} (e : abody P S cf k fn c args H = some r) : abody P S cf' k' fn c args H = some r := by
  unfold abody at e ⊢
  split at e
  · rename_i h1
    rw [if_pos h1]
    split at e
    · cases e
    · rename_i e1 T1 H1 hne hc
      rw [acode_mono h hk c _ _ _ hc]
      cases e1 with
      | exit i => exact absurd hc (fun hc => hne i rfl)
      | normal => exact e
      | ret => exact e
    · cases e
  · cases e

theorem acall_mono {S : Sums} : ∀ (k k' : Nat), k ≤ k' → CfLe (acall P S k) (acall P S k')
  | 0, k', hk => fun f args H r e => by simp [acall] at e
  | k + 1, 0, hk => by omega
  | k + 1, k' + 1, hk => fun f args H r e => by
    simp only [acall] at e ⊢
    split at e
    · exact e
    · split at e
      · rename_i fn hf
        split at e
        · rename_i c hb
          exact abody_mono (acall_mono k k' (by omega)) (by omega) e
        · cases e
      · cases e

/-- A CALL, BY WHAT IT ANSWERS: at some depth it answers, and so. -/
def Acalls (P : Program) (S : Sums) (f : FuncId) (args : List AV) (H : AH) (Q : AV → AH → Prop) : Prop := ∃ k v H', acall P S k f args H = some (v, H') ∧ Q v H'

theorem Acalls.mono {S : Sums} {f : FuncId} {args : List AV} {H : AH} {Q Q' : AV → AH → Prop} (h : Acalls P S f args H Q) (hq : ∀ v H', Q v H' → Q' v H') : Acalls P S f args H Q' :=
  let ⟨k, v, H', h1, h2⟩ := h; ⟨k, v, H', h1, hq _ _ h2⟩

/-- ONE ANSWER. -/
theorem Acalls.and {S : Sums} {f : FuncId} {args : List AV} {H : AH} {Q Q' : AV → AH → Prop} (h : Acalls P S f args H Q) (h' : Acalls P S f args H Q') : Acalls P S f args H fun v H' => Q v H' ∧ Q' v H' := by
  obtain ⟨k, v, H1, e, q⟩ := h
  obtain ⟨k', v', H1', e', q'⟩ := h'
  have h1 := acall_mono k (max k k') (Nat.le_max_left _ _) _ _ _ _ e
  have h2 := acall_mono k' (max k k') (Nat.le_max_right _ _) _ _ _ _ e'
  rw [h1] at h2
  obtain ⟨rfl, rfl⟩ := Prod.mk.inj (Option.some.inj h2)
  exact ⟨k, v, H1, e, q, q'⟩

/-! ### code, by what it comes to -/

/-- operations in their order -/
def evO (P : Program) (S : Sums) (sz : Nat) (ops : Array Oper) : List Oper → Slots → AH → (Slots → AH → Prop) → Prop
  | [], T, H, Q => Q T H
  | o :: l, T, H, Q =>
    if dstOk sz o.dst then
      if Region.wanted o (ayield ops T) then
        match aop P (aeval T) H.g H.n o.op with
        | some (.val v e) => evO P S sz ops l (put T o.dst v) (H.app e) Q
        | some (.call f args) => Acalls P S f args H fun v H' => evO P S sz ops l (put T o.dst v) H' Q
        | none => False
      else evO P S sz ops l (put T o.dst .undef) H Q
    else False

theorem evO_sound {S : Sums} {sz : Nat} {ops : Array Oper} : ∀ (l : List Oper) {T : Slots} {H : AH} {Q : Slots → AH → Prop}, evO P S sz ops l T H Q → ∃ k T' H', aops P (acall P S k) sz ops l T H = some (T', H') ∧ Q T' H'
  | [], T, H, Q, h => ⟨0, T, H, rfl, h⟩
  | o :: l, T, H, Q, h => by
    simp only [evO] at h
    split at h
    · rename_i h1
      split at h
      · rename_i h2
        split at h
        · rename_i v e ha
          obtain ⟨k, T', H', e1, q⟩ := evO_sound l h
          refine ⟨k, T', H', ?_, q⟩
          simp only [aops, ostep, h1, h2, if_true, ha]; exact e1
        · rename_i f args ha
          obtain ⟨k1, v, H1, e1, h3⟩ := h
          obtain ⟨k, T', H', e2, q⟩ := evO_sound l h3
          refine ⟨max k1 k, T', H', ?_, q⟩
          have e1' := acall_mono k1 (max k1 k) (Nat.le_max_left _ _) _ _ _ _ e1
          simp only [aops, ostep, h1, h2, if_true, ha, e1']
          exact aops_mono (acall_mono k (max k1 k) (Nat.le_max_right _ _)) _ e2
        · exact h.elim
      · rename_i h2
        obtain ⟨k, T', H', e1, q⟩ := evO_sound l h
        refine ⟨k, T', H', ?_, q⟩
        simp only [aops, ostep, h1, h2, if_true, if_false]; exact e1
    · exact h.elim

/-- .. of a region that draws -/
def evD (P : Program) (S : Sums) (sz : Nat) (ops : Array Oper) (n0 : Nat) (B : Nat → Nat → Bool) : List (Nat × Oper) → Slots → AH → (Slots → AH → Prop) → Prop
  | [], T, H, Q => Q T H
  | (i, o) :: l, T, H, Q =>
    if dstOk sz o.dst then
      if Region.wanted o (ayield ops T) then
        match kindOf S.quiet o.op with
        | .quiet =>
          match aop P (aeval T) (hide (hidden S.quiet ops n0 B i) H.g) H.n o.op with
          | some (.val v e) => protOk S.quiet ops B i (aeval T) o.op = true ∧ evD P S sz ops n0 B l (put T o.dst v) H Q
          | some (.call f args) => Acalls P S f args { g := roAll (hide (hidden S.quiet ops n0 B i) H.g), n := H.n } fun v _ => v.flatT = true ∧ evD P S sz ops n0 B l (put T o.dst v) H Q
          | none => False
        | .new =>
          match aop P (aeval T) (hide (hidden S.quiet ops n0 B i) H.g) (n0 + rank S.quiet ops i) o.op with
          | some (.val v { ws := [], new := some x }) => evD P S sz ops n0 B l (put T o.dst v) { g := upd H.g (n0 + rank S.quiet ops i) x, n := H.n } Q
          | _ => False
        | .write =>
          match aop P (aeval T) (hide (hidden S.quiet ops n0 B i) H.g) H.n o.op with
          | some (.val v e) => evD P S sz ops n0 B l (put T o.dst v) { g := restore (hidden S.quiet ops n0 B i) H.g (AH.app { g := hide (hidden S.quiet ops n0 B i) H.g, n := H.n } e).g, n := (AH.app { g := hide (hidden S.quiet ops n0 B i) H.g, n := H.n } e).n } Q
          | some (.call f args) => Acalls P S f args { g := hide (hidden S.quiet ops n0 B i) H.g, n := H.n } fun v H1 => evD P S sz ops n0 B l (put T o.dst v) { g := restore (hidden S.quiet ops n0 B i) H.g H1.g, n := H1.n } Q
          | none => False
      else evD P S sz ops n0 B l (put T o.dst .undef) H Q
    else False

theorem evD_sound {S : Sums} {sz : Nat} {ops : Array Oper} {n0 : Nat} {B : Nat → Nat → Bool} : ∀ (l : List (Nat × Oper)) {T : Slots} {H : AH} {Q : Slots → AH → Prop}, evD P S sz ops n0 B l T H Q → ∃ k T' H', dops P S.quiet (acall P S k) sz ops n0 B l T H = some (T', H') ∧ Q T' H'
  | [], T, H, Q, h => ⟨0, T, H, rfl, h⟩
  | (i, o) :: l, T, H, Q, h => by
    simp only [evD] at h
    split at h
    · rename_i h1
      split at h
      · rename_i h2
        split at h
        · rename_i hk
          split at h
          · rename_i v e ha
            obtain ⟨k, T', H', e1, q⟩ := evD_sound l h.2
            refine ⟨k, T', H', ?_, q⟩
            simp only [dops, dstep, h1, h2, if_true, hk, ha, h.1]; exact e1
          · rename_i f args ha
            obtain ⟨k1, v, H1, e1, h3, h4⟩ := h
            obtain ⟨k, T', H', e2, q⟩ := evD_sound l h4
            refine ⟨max k1 k, T', H', ?_, q⟩
            have e1' := acall_mono k1 (max k1 k) (Nat.le_max_left _ _) _ _ _ _ e1
            simp only [dops, dstep, h1, h2, if_true, hk, ha, e1', h3]
            exact dops_mono (acall_mono k (max k1 k) (Nat.le_max_right _ _)) _ e2
          · exact h.elim
        · rename_i hk
          split at h
          · rename_i v x ha
            obtain ⟨k, T', H', e1, q⟩ := evD_sound l h
            refine ⟨k, T', H', ?_, q⟩
            simp only [dops, dstep, h1, h2, if_true, hk, ha]; exact e1
          · exact h.elim
        · rename_i hk
          split at h
          · rename_i v e ha
            obtain ⟨k, T', H', e1, q⟩ := evD_sound l h
            refine ⟨k, T', H', ?_, q⟩
            simp only [dops, dstep, h1, h2, if_true, hk, ha]; exact e1
          · rename_i f args ha
            obtain ⟨k1, v, H1, e1, h4⟩ := h
            obtain ⟨k, T', H', e2, q⟩ := evD_sound l h4
            refine ⟨max k1 k, T', H', ?_, q⟩
            have e1' := acall_mono k1 (max k1 k) (Nat.le_max_left _ _) _ _ _ _ e1
            simp only [dops, dstep, h1, h2, if_true, hk, ha, e1']
            exact dops_mono (acall_mono k (max k1 k) (Nat.le_max_right _ _)) _ e2
          · exact h.elim
      · rename_i h2
        obtain ⟨k, T', H', e1, q⟩ := evD_sound l h
        refine ⟨k, T', H', ?_, q⟩
        simp only [dops, dstep, h1, h2, if_true, if_false]; exact e1
    · exact h.elim

end
end Go.Eng
namespace Go.Eng
set_option linter.unusedVariables false
set_option linter.unusedSimpArgs false

section
variable {P : Program}

abbrev Post := AE → Slots → AH → Prop

/-- behind a part: on, or out -/
def AE.then (next : Slots → AH → Prop) (Q : Post) : Post
  | .normal, T, H => next T H
  | .exit i, T, H => Q (.exit i) T H
  | .ret, T, H => Q .ret T H
def AE.inBlock (id : Nat) (Q : Post) : Post
  | .exit i, T, H => Q (if i = id then .normal else .exit i) T H
  | .normal, T, H => Q .normal T H
  | .ret, T, H => Q .ret T H

def evL (body : Slots → AH → Post → Prop) (Q : Post) : Nat → Slots → AH → Prop
  | 0, _, _ => False
  | k + 1, T, H => body T H (AE.then (evL body Q k) Q)

def evC (P : Program) (S : Sums) (sz : Nat) : Code → Slots → AH → Post → Prop
  | .skip, T, H, Q => Q .normal T H
  | .label _, T, H, Q => Q .normal T H
  | .region _ ops false, T, H, Q => evO P S sz ops ops.toList T H (Q .normal)
  | .region _ ops true, T, H, Q => drawOk S.quiet ops = true ∧ evD P S sz ops H.n (keepOff ops T) (numbered ops.toList 0) T { H with n := H.n + rank S.quiet ops ops.size } (Q .normal)
  | .seq a b, T, H, Q => evC P S sz a T H (AE.then (fun T H => evC P S sz b T H Q) Q)
  | .cond c x y, T, H, Q => match aeval T c with
    | some (.bool b) => (b = true → evC P S sz x T H Q) ∧ (b = false → evC P S sz y T H Q)
    | _ => False
  | .block id c, T, H, Q => evC P S sz c T H (AE.inBlock id Q)
  | .loop c, T, H, Q => ∃ k, evL (evC P S sz c) Q k T H
  | .exit id, T, H, Q => Q (.exit id) T H
  | .ret, T, H, Q => Q .ret T H
  | _, _, _, _ => False

/-- it comes to this at some depth -/
def Comes' (P : Program) (S : Sums) (sz : Nat) (c : Code) (T : Slots) (H : AH) (Q : Post) : Prop :=
  ∃ k e T' H', (∀ k', k ≤ k' → acode P S.quiet (acall P S k') sz k' c T H = some (e, T', H')) ∧ Q e T' H'

theorem evC_sound {S : Sums} {sz : Nat} : ∀ (c : Code) {T : Slots} {H : AH} {Q : Post}, evC P S sz c T H Q → Comes' P S sz c T H Q := by
  intro c
  induction c with
  | skip => intro T H Q h; exact ⟨0, .normal, T, H, fun _ _ => rfl, h⟩
  | label l => intro T H Q h; exact ⟨0, .normal, T, H, fun _ _ => rfl, h⟩
  | exit id => intro T H Q h; exact ⟨0, .exit id, T, H, fun _ _ => rfl, h⟩
  | ret => intro T H Q h; exact ⟨0, .ret, T, H, fun _ _ => rfl, h⟩
  | region id ops draw =>
    intro T H Q h
    cases draw with
    | false =>
      obtain ⟨k, T', H', e, q⟩ := evO_sound _ h
      refine ⟨k, .normal, T', H', fun k' hk => ?_, q⟩
      have := aops_mono (acall_mono (S := S) k k' hk) _ e
      simp [acode, this]
    | true =>
      obtain ⟨hd, h⟩ := h
      obtain ⟨k, T', H', e, q⟩ := evD_sound _ h
      refine ⟨k, .normal, T', H', fun k' hk => ?_, q⟩
      have := dops_mono (acall_mono (S := S) k k' hk) _ e
      simp [acode, adraw, hd, this]
  | seq x y ihx ihy =>
    intro T H Q h
    obtain ⟨k, e, T1, H1, e1, q⟩ := ihx h
    cases e with
    | normal =>
      obtain ⟨k2, e2, T2, H2, e3, q2⟩ := ihy q
      refine ⟨max k k2, e2, T2, H2, fun k' hk => ?_, q2⟩
      simp only [acode, e1 k' (by omega), e3 k' (by omega)]
    | exit i => exact ⟨k, .exit i, T1, H1, fun k' hk => by simp only [acode, e1 k' hk], q⟩
    | ret => exact ⟨k, .ret, T1, H1, fun k' hk => by simp only [acode, e1 k' hk], q⟩
  | cond c x y ihx ihy =>
    intro T H Q h
    simp only [evC] at h
    split at h
    · rename_i b hb
      cases b with
      | true =>
        obtain ⟨k, e, T1, H1, e1, q⟩ := ihx (h.1 rfl)
        exact ⟨k, e, T1, H1, fun k' hk => by simp only [acode, hb, e1 k' hk], q⟩
      | false =>
        obtain ⟨k, e, T1, H1, e1, q⟩ := ihy (h.2 rfl)
        exact ⟨k, e, T1, H1, fun k' hk => by simp only [acode, hb, e1 k' hk], q⟩
    · exact h.elim
  | block id c ih =>
    intro T H Q h
    obtain ⟨k, e, T1, H1, e1, q⟩ := ih h
    cases e with
    | normal => exact ⟨k, .normal, T1, H1, fun k' hk => by simp only [acode, e1 k' hk], q⟩
    | exit i => exact ⟨k, _, T1, H1, fun k' hk => by simp only [acode, e1 k' hk], q⟩
    | ret => exact ⟨k, .ret, T1, H1, fun k' hk => by simp only [acode, e1 k' hk], q⟩
  | loop c ih =>
    intro T H Q h
    obtain ⟨n, h⟩ := h
    have key : ∀ n {T : Slots} {H : AH}, evL (evC P S sz c) Q n T H → ∃ k e T' H', (∀ k' m, k ≤ k' → n ≤ m → aloop (acode P S.quiet (acall P S k') sz k' c) m T H = some (e, T', H')) ∧ Q e T' H' := by
      intro n
      induction n with
      | zero => intro T H h; exact h.elim
      | succ n ihn =>
        intro T H h
        obtain ⟨k, e, T1, H1, e1, q⟩ := ih h
        have pos : ∀ m, n + 1 ≤ m → ∃ j, m = j + 1 ∧ n ≤ j := fun m hm => ⟨m - 1, by omega, by omega⟩
        cases e with
        | normal =>
          obtain ⟨k2, e2, T2, H2, e3, q2⟩ := ihn q
          refine ⟨max k k2, e2, T2, H2, fun k' m hk hm => ?_, q2⟩
          obtain ⟨j, rfl, hj⟩ := pos m hm
          simp only [aloop, e1 k' (by omega), e3 k' j (by omega) hj]
        | exit i => exact ⟨k, .exit i, T1, H1, fun k' m hk hm => by obtain ⟨j, rfl, hj⟩ := pos m hm; simp only [aloop, e1 k' hk], q⟩
        | ret => exact ⟨k, .ret, T1, H1, fun k' m hk hm => by obtain ⟨j, rfl, hj⟩ := pos m hm; simp only [aloop, e1 k' hk], q⟩
    obtain ⟨k, e, T', H', e1, q⟩ := key n h
    exact ⟨max k n, e, T', H', fun k' hk => by simp only [acode]; exact e1 k' k' (by omega) (by omega), q⟩
  | _ => intro T H Q h; exact h.elim

theorem AE.then_mono {n n' : Slots → AH → Prop} {Q Q' : Post} (hn : ∀ T H, n T H → n' T H) (hq : ∀ e T H, Q e T H → Q' e T H) : ∀ e T H, AE.then n Q e T H → AE.then n' Q' e T H := by
  intro e T H h; cases e with
  | normal => exact hn _ _ h
  | exit i => exact hq _ _ _ h
  | ret => exact hq _ _ _ h
theorem AE.inBlock_mono {id : Nat} {Q Q' : Post} (hq : ∀ e T H, Q e T H → Q' e T H) : ∀ e T H, AE.inBlock id Q e T H → AE.inBlock id Q' e T H := by
  intro e T H h; cases e with
  | normal => exact hq _ _ _ h
  | exit i => exact hq _ _ _ h
  | ret => exact hq _ _ _ h

theorem evO_mono {S : Sums} {sz : Nat} {ops : Array Oper} : ∀ (l : List Oper) {T : Slots} {H : AH} {Q Q' : Slots → AH → Prop}, (∀ T H, Q T H → Q' T H) → evO P S sz ops l T H Q → evO P S sz ops l T H Q'
  | [], T, H, Q, Q', hq, h => hq _ _ h
  | o :: l, T, H, Q, Q', hq, h => by
    simp only [evO] at h ⊢
    split at h
    · rename_i h1
      rw [if_pos h1]
      split at h
      · rename_i h2
        rw [if_pos h2]
        split at h
        · exact evO_mono l hq h
        · exact h.mono fun v H' h => evO_mono l hq h
        · exact h.elim
      · rename_i h2; rw [if_neg h2]; exact evO_mono l hq h
    · exact h.elim

theorem evD_mono {S : Sums} {sz : Nat} {ops : Array Oper} {n0 : Nat} {B : Nat → Nat → Bool} : ∀ (l : List (Nat × Oper)) {T : Slots} {H : AH} {Q Q' : Slots → AH → Prop}, (∀ T H, Q T H → Q' T H) → evD P S sz ops n0 B l T H Q → evD P S sz ops n0 B l T H Q'
  | [], T, H, Q, Q', hq, h => hq _ _ h
  | (i, o) :: l, T, H, Q, Q', hq, h => by
    simp only [evD] at h ⊢
    split at h
    · rename_i h1
      rw [if_pos h1]
      split at h
      · rename_i h2
        rw [if_pos h2]
        split at h
        · split at h
          · exact ⟨h.1, evD_mono l hq h.2⟩
          · exact h.mono fun v H' h => ⟨h.1, evD_mono l hq h.2⟩
          · exact h.elim
        · split at h
          · exact evD_mono l hq h
          · exact h.elim
        · split at h
          · exact evD_mono l hq h
          · exact h.mono fun v H' h => evD_mono l hq h
          · exact h.elim
      · rename_i h2; rw [if_neg h2]; exact evD_mono l hq h
    · exact h.elim

theorem evC_mono {S : Sums} {sz : Nat} : ∀ (c : Code) {T : Slots} {H : AH} {Q Q' : Post}, (∀ e T H, Q e T H → Q' e T H) → evC P S sz c T H Q → evC P S sz c T H Q' := by
  intro c
  induction c with
  | skip => intro T H Q Q' hq h; exact hq _ _ _ h
  | label l => intro T H Q Q' hq h; exact hq _ _ _ h
  | exit id => intro T H Q Q' hq h; exact hq _ _ _ h
  | ret => intro T H Q Q' hq h; exact hq _ _ _ h
  | region id ops draw =>
    intro T H Q Q' hq h
    cases draw with
    | false => exact evO_mono _ (hq _) h
    | true => exact ⟨h.1, evD_mono _ (hq _) h.2⟩
  | seq x y ihx ihy => intro T H Q Q' hq h; exact ihx (AE.then_mono (fun T H h => ihy hq h) hq) h
  | cond c x y ihx ihy =>
    intro T H Q Q' hq h
    simp only [evC] at h ⊢
    split at h
    · exact ⟨fun hb => ihx hq (h.1 hb), fun hb => ihy hq (h.2 hb)⟩
    · exact h.elim
  | block id c ih => intro T H Q Q' hq h; exact ih (AE.inBlock_mono hq) h
  | loop c ih =>
    intro T H Q Q' hq h
    obtain ⟨k, h⟩ := h
    have key : ∀ k {T : Slots} {H : AH}, evL (evC P S sz c) Q k T H → evL (evC P S sz c) Q' k T H := by
      intro k
      induction k with
      | zero => intro T H h; exact h
      | succ k ihk => intro T H h; exact ih (AE.then_mono (fun T H h => ihk h) hq) h
    exact ⟨k, key k h⟩
  | _ => intro T H Q Q' hq h; exact h.elim

/-- A LOOP: what holds ahead of each round, with a number that goes down. -/
theorem evC_loop {S : Sums} {sz : Nat} {c : Code} {T : Slots} {H : AH} {Q : Post} (I : Nat → Slots → AH → Prop) {n : Nat} (h0 : I n T H)
    (hr : ∀ n T H, I n T H → evC P S sz c T H (AE.then (fun T' H' => ∃ m, m < n ∧ I m T' H') Q)) : evC P S sz (.loop c) T H Q := by
  have key : ∀ n T H, I n T H → evL (evC P S sz c) Q (n + 1) T H := by
    intro n
    induction n using Nat.strongRecOn with
    | _ n ih =>
      intro T H h
      refine evC_mono c (AE.then_mono ?_ fun _ _ _ h => h) (hr n T H h)
      rintro T' H' ⟨m, hm, hI⟩
      have h1 := ih m hm T' H' hI
      have up : ∀ (k : Nat) {T : Slots} {H : AH}, evL (evC P S sz c) Q k T H → ∀ j, k ≤ j → evL (evC P S sz c) Q j T H := by
        intro k
        induction k with
        | zero => intro T H h; exact h.elim
        | succ k ihk =>
          intro T H h j hj
          obtain ⟨j, rfl⟩ : ∃ i, j = i + 1 := ⟨j - 1, by omega⟩
          exact evC_mono c (AE.then_mono (fun T H h => ihk h j (by omega)) fun _ _ _ h => h) h
      exact up (m + 1) h1 n (by omega)
  exact ⟨n + 1, key n T H h0⟩

/-- A CALL, out of its body. -/
theorem Acalls.body {S : Sums} {f : FuncId} {fn : Func} {c : Code} (hs : S.sum f = none) (hf : P.funcs[f]? = some fn) (hb : fn.body = some c) {args : List AV} {H : AH} {Q : AV → AH → Prop} (hl : args.length ≤ fn.ntmps)
    (h : evC P S fn.ntmps c (slots0 args) H fun e T H' => (∀ i, e ≠ .exit i) ∧ ∃ v, aresults P fn T H' = some v ∧ Q v H') : Acalls P S f args H Q := by
  obtain ⟨k, e, T', H', e1, hne, v, hv, q⟩ := evC_sound c h
  refine ⟨k + 1, v, H', ?_, q⟩
  simp only [acall, hs, hf, hb, abody, if_pos hl, e1 k (Nat.le_refl _)]
  cases e with
  | normal => simp [hv]
  | ret => simp [hv]
  | exit i => exact absurd rfl (hne i)

end
end Go.Eng
namespace Go.Eng
set_option linter.unusedVariables false
set_option linter.unusedSimpArgs false

theorem upd_self {α : Type} {f : Nat → α} {i : Nat} {x : α} (h : f i = x) : upd f i x = f := by
  funext j; by_cases hj : j = i <;> simp [upd, hj, h]

/-- a region's operations in the text's order; 'qd': it is one that draws (no operation of it makes a block): its quiet calls leave nothing -/
def evP (P : Program) (S : Sums) (sz : Nat) (qd : Bool) (ops : Array Oper) : List Oper → Slots → AH → (Slots → AH → Prop) → Prop
  | [], T, H, Q => Q T H
  | o :: l, T, H, Q =>
    if dstOk sz o.dst then
      if Region.wanted o (ayield ops T) then
        match aop P (aeval T) H.g H.n o.op with
        | some (.val v e) => evP P S sz qd ops l (put T o.dst v) (H.app e) Q
        | some (.call f args) =>
          if qd && (decide (kindOf S.quiet o.op = .quiet)) then Acalls P S f args ⟨roAll H.g, H.n⟩ fun v _ => v.flatT = true ∧ evP P S sz qd ops l (put T o.dst v) H Q
          else Acalls P S f args H fun v H' => evP P S sz qd ops l (put T o.dst v) H' Q
        | none => False
      else evP P S sz qd ops l (put T o.dst .undef) H Q
    else False

theorem evP_text {P : Program} {S : Sums} {sz : Nat} {ops : Array Oper} : ∀ (l : List Oper) {T : Slots} {H : AH} {Q : Slots → AH → Prop}, evP P S sz false ops l T H Q → evO P S sz ops l T H Q
  | [], T, H, Q, h => h
  | o :: l, T, H, Q, h => by
    simp only [evP] at h
    simp only [evO]
    split at h
    · rename_i h1
      rw [if_pos h1]
      split at h
      · rename_i h2
        rw [if_pos h2]
        split at h
        · rename_i v e ha
          try simp only [ha]
          exact evP_text l h
        · rename_i f args ha
          try simp only [ha]
          simp only [Bool.false_and, Bool.false_eq_true, if_false] at h
          exact h.mono fun v H' h => evP_text l h
        · exact h.elim
      · rename_i h2
        rw [if_neg h2]
        exact evP_text l h
    · exact h.elim

section
variable {P : Program} {S : Sums} {sz : Nat} {qd : Bool} {ops : Array Oper} {l : List Oper} {T : Slots} {H : AH} {g : Nat → AB} {n : Nat} {Q : Slots → AH → Prop}

theorem o_gen {o : Oper} {d : Tmp} {v : AV} {e : Eff} (hd : o.dst = some d) (hg : o.guard = none) (hs : d < sz) (ha : aop P (aeval T) H.g H.n o.op = some (.val v e)) (h : evP P S sz qd ops l (upd T d v) (H.app e) Q) : evP P S sz qd ops (o :: l) T H Q := by
  simp only [evP, dstOk, hd, hs, decide_true, if_true, Region.wanted, hg, ha, put]; exact h
theorem o_gen0 {o : Oper} {v : AV} {e : Eff} (hd : o.dst = none) (hg : o.guard = none) (ha : aop P (aeval T) H.g H.n o.op = some (.val v e)) (h : evP P S sz qd ops l T (H.app e) Q) : evP P S sz qd ops (o :: l) T H Q := by
  simp only [evP, dstOk, hd, if_true, Region.wanted, hg, ha, put]; exact h
theorem o_on {o : Oper} {j : Nat} {w : Bool} (hg : o.guard = some (j, w)) (hy : ayield ops T j = some w) (h : evP P S sz qd ops ({ o with guard := none } :: l) T H Q) : evP P S sz qd ops (o :: l) T H Q := by
  have hw : Region.wanted o (ayield ops T) = true := by simp [Region.wanted, hg, hy]
  have hw' : Region.wanted { o with guard := none } (ayield ops T) = true := rfl
  simp only [evP, hw'] at h
  simp only [evP, hw]; exact h
theorem o_off {o : Oper} {j : Nat} {w w' : Bool} (hg : o.guard = some (j, w)) (hy : ayield ops T j = some w') (hne : w' = !w) {dd : Option Tmp} (hdd : o.dst = dd) (hd : dstOk sz dd = true) (h : evP P S sz qd ops l (put T dd .undef) H Q) : evP P S sz qd ops (o :: l) T H Q := by
  subst hdd
  have hw : Region.wanted o (ayield ops T) = false := by simp [Region.wanted, hg, hy, hne]
  simp only [evP, hw, hd, if_true]; simpa using h
theorem o_skip {o : Oper} {j : Nat} {w w' : Bool} {d : Tmp} (hg : o.guard = some (j, w)) (hy : ayield ops T j = some w') (hne : w' = !w) (hd : o.dst = some d) (hs : d < sz) (h : evP P S sz qd ops l (upd T d .undef) H Q) : evP P S sz qd ops (o :: l) T H Q :=
  o_off hg hy hne hd (by simp [dstOk, hs]) h
theorem o_skip0 {o : Oper} {j : Nat} {w w' : Bool} (hg : o.guard = some (j, w)) (hy : ayield ops T j = some w') (hne : w' = !w) (hd : o.dst = none) (h : evP P S sz qd ops l T H Q) : evP P S sz qd ops (o :: l) T H Q :=
  o_off hg hy hne hd rfl h
theorem o_if {o : Oper} {j : Nat} {w b : Bool} (hg : o.guard = some (j, w)) (hy : ayield ops T j = some b) (hd : dstOk sz o.dst = true)
    (h1 : b = w → evP P S sz qd ops ({ o with guard := none } :: l) T H Q) (h2 : b = !w → evP P S sz qd ops l (put T o.dst .undef) H Q) : evP P S sz qd ops (o :: l) T H Q := by
  by_cases hb : b = w
  · exact o_on hg (by rw [hy, hb]) (h1 hb)
  · have : b = !w := by cases b <;> cases w <;> simp_all
    exact o_off hg hy this rfl hd (h2 this)

variable {d : Tmp} {ty : TypeId} {pos : String} {after : Array Edge}

theorem o_move {x : Operand} {v : AV} (hs : d < sz) (hx : aeval T x = some v) (h : evP P S sz qd ops l (upd T d v) H Q) : evP P S sz qd ops (⟨some d, .move x, ty, pos, after, none⟩ :: l) T H Q :=
  o_gen rfl rfl hs (by simp only [aop, hx]; rfl) h
theorem o_assign {x : Operand} {v : AV} (hs : d < sz) (hx : aeval T x = some v) (h : evP P S sz qd ops l (upd T d v) H Q) : evP P S sz qd ops (⟨some d, .assign x, ty, pos, after, none⟩ :: l) T H Q :=
  o_gen rfl rfl hs (by simp only [aop, hx]; rfl) h
theorem o_pick {c x y : Operand} {b : Bool} {v : AV} (hs : d < sz) (hc : aeval T c = some (.bool b)) (hx : (if b = true then aeval T x else aeval T y) = some v) (h : evP P S sz qd ops l (upd T d v) H Q) : evP P S sz qd ops (⟨some d, .pick c x y, ty, pos, after, none⟩ :: l) T H Q :=
  o_gen rfl rfl hs (by simp only [aop, hc, hx]; rfl) h
theorem o_box {x : Operand} {e : TypeId} {v : AV} {cs : List AV} (hs : d < sz) (hx : aeval T x = some v) (hc : v.cells = cs) (h : evP P S sz qd ops l (upd T d (.ptr (some (n, 0)))) ⟨upd g n (.cells cs e false), n + 1⟩ Q) : evP P S sz qd ops (⟨some d, .box e x, ty, pos, after, none⟩ :: l) T ⟨g, n⟩ Q := by
  subst hc
  exact o_gen rfl rfl hs (by simp only [aop, hx]; rfl) h
theorem o_alloc {e : TypeId} {i : TI} {z : List AV} (hs : d < sz) (hi : ti P e = some i) (hz : i.zero = some z) (h : evP P S sz qd ops l (upd T d (.ptr (some (n, 0)))) ⟨upd g n (.cells z e false), n + 1⟩ Q) : evP P S sz qd ops (⟨some d, .alloc e, ty, pos, after, none⟩ :: l) T ⟨g, n⟩ Q :=
  o_gen rfl rfl hs (by simp only [aop, hi, hz]; rfl) h
theorem o_load {a : Operand} {t : TypeId} {p v : AV} (hs : d < sz) (hx : aeval T a = some p) (hv : aload P g t p = some v) (h : evP P S sz qd ops l (upd T d v) ⟨g, n⟩ Q) : evP P S sz qd ops (⟨some d, .load t a, ty, pos, after, none⟩ :: l) T ⟨g, n⟩ Q :=
  o_gen rfl rfl hs (by simp only [aop, hx, hv]; rfl) h
theorem o_store {x a : Operand} {t : TypeId} {i : TI} {b o : Nat} {v : AV} {blk : AB} (ha : aeval T a = some (.ptr (some (b, o)))) (hx : aeval T x = some v) (hi : ti P t = some i) (hl : v.cells.length = i.size) (h1 : v.cells.all AV.one = true) (hb : setCells g b o v.cells = some blk)
    (h : evP P S sz qd ops l T ⟨upd g b blk, n⟩ Q) : evP P S sz qd ops (⟨none, .store t a x, ty, pos, after, none⟩ :: l) T ⟨g, n⟩ Q :=
  o_gen0 (e := { ws := [(b, blk)] }) rfl rfl (by simp only [aop, ha, hx, astore, hi, hl, h1, hb, and_self, if_true]; rfl) h
theorem o_nilCheckP {x : Operand} {a : Nat × Nat} (hs : d < sz) (hx : aeval T x = some (.ptr (some a))) (h : evP P S sz qd ops l (upd T d (.ptr (some a))) H Q) : evP P S sz qd ops (⟨some d, .nilCheck x, ty, pos, after, none⟩ :: l) T H Q :=
  o_gen rfl rfl hs (by simp only [aop, hx]; rfl) h
theorem o_nilCheckF {x : Operand} {f : FuncId} {a b : List AV} (hs : d < sz) (hx : aeval T x = some (.fn f a b)) (h : evP P S sz qd ops l (upd T d (.fn f a b)) H Q) : evP P S sz qd ops (⟨some d, .nilCheck x, ty, pos, after, none⟩ :: l) T H Q :=
  o_gen rfl rfl hs (by simp only [aop, hx]; rfl) h
theorem o_binOp {op : BinOp} {t t' : TypeId} {x y : Operand} {vx vy v : AV} (hs : d < sz) (hx : aeval T x = some vx) (hy : aeval T y = some vy) (hv : abin P op t vx vy = some v) (h : evP P S sz qd ops l (upd T d v) H Q) : evP P S sz qd ops (⟨some d, .binOp op t x y t', ty, pos, after, none⟩ :: l) T H Q :=
  o_gen rfl rfl hs (by simp only [aop, hx, hy, hv]; rfl) h
/-- a comparison: both ways -/
theorem o_cmp {op : BinOp} {t t' : TypeId} {x y : Operand} {vx vy : AV} {b : Bool} (hs : d < sz) (hx : aeval T x = some vx) (hy : aeval T y = some vy) (hv : abin P op t vx vy = some (.bool b))
    (h1 : b = true → evP P S sz qd ops l (upd T d (.bool true)) H Q) (h2 : b = false → evP P S sz qd ops l (upd T d (.bool false)) H Q) : evP P S sz qd ops (⟨some d, .binOp op t x y t', ty, pos, after, none⟩ :: l) T H Q := by
  cases b
  · exact o_binOp hs hx hy hv (h2 rfl)
  · exact o_binOp hs hx hy hv (h1 rfl)
theorem ay_of {T : Slots} {j : Nat} {d : Tmp} {b : Bool} (hd : (ops[j]?).bind (·.dst) = some d) (hv : aeval T (.tmp d) = some (.bool b)) : ayield ops T j = some b := by
  simp only [aeval, Option.some.injEq] at hv
  simp only [ayield, hd, hv]
theorem o_unOp {op : UnOp} {t : TypeId} {x : Operand} {vx v : AV} (hs : d < sz) (hx : aeval T x = some vx) (hv : aun op vx = some v) (h : evP P S sz qd ops l (upd T d v) H Q) : evP P S sz qd ops (⟨some d, .unOp op t x, ty, pos, after, none⟩ :: l) T H Q :=
  o_gen rfl rfl hs (by simp only [aop, hx, hv]; rfl) h
theorem o_convert {s t : TypeId} {x : Operand} {vx v : AV} (hs : d < sz) (hx : aeval T x = some vx) (hv : aconvert P s t vx = some v) (h : evP P S sz qd ops l (upd T d v) H Q) : evP P S sz qd ops (⟨some d, .convert s t x, ty, pos, after, none⟩ :: l) T H Q :=
  o_gen rfl rfl hs (by simp only [aop, hx, hv]; rfl) h
theorem o_fieldAddr {t : TypeId} {x : Operand} {f : Nat} {vx v : AV} (hs : d < sz) (hx : aeval T x = some vx) (hv : afieldAddr P t vx f = some v) (h : evP P S sz qd ops l (upd T d v) H Q) : evP P S sz qd ops (⟨some d, .fieldAddr t x f, ty, pos, after, none⟩ :: l) T H Q :=
  o_gen rfl rfl hs (by simp only [aop, hx, hv]; rfl) h
theorem o_field {t : TypeId} {x : Operand} {f : Nat} {vx v : AV} (hs : d < sz) (hx : aeval T x = some vx) (hv : afield P t vx f = some v) (h : evP P S sz qd ops l (upd T d v) H Q) : evP P S sz qd ops (⟨some d, .field t x f, ty, pos, after, none⟩ :: l) T H Q :=
  o_gen rfl rfl hs (by simp only [aop, hx, hv]; rfl) h
theorem o_indexAddr {t : TypeId} {x i : Operand} {vx vi v : AV} (hs : d < sz) (hx : aeval T x = some vx) (hi : aeval T i = some vi) (hv : aindexAddr P t vx vi = some v) (h : evP P S sz qd ops l (upd T d v) H Q) : evP P S sz qd ops (⟨some d, .indexAddr t x i, ty, pos, after, none⟩ :: l) T H Q :=
  o_gen rfl rfl hs (by simp only [aop, hx, hi, hv]; rfl) h
theorem o_index {t : TypeId} {x i : Operand} {vx vi v : AV} (hs : d < sz) (hx : aeval T x = some vx) (hi : aeval T i = some vi) (hv : aindex P t vx vi = some v) (h : evP P S sz qd ops l (upd T d v) H Q) : evP P S sz qd ops (⟨some d, .index t x i, ty, pos, after, none⟩ :: l) T H Q :=
  o_gen rfl rfl hs (by simp only [aop, hx, hi, hv]; rfl) h
theorem o_extract {x : Operand} {i : Nat} {vs : List AV} {v : AV} (hs : d < sz) (hx : aeval T x = some (.tup vs)) (hv : vs[i]? = some v) (h : evP P S sz qd ops l (upd T d v) H Q) : evP P S sz qd ops (⟨some d, .extract x i, ty, pos, after, none⟩ :: l) T H Q :=
  o_gen rfl rfl hs (by simp only [aop, hx, hv]; rfl) h
theorem call_kind (q : FuncId → Bool) (f : FuncId) (args : Array Operand) (ts : Array TypeId) : decide (kindOf q (.call { callee := .value (.func f), args := args, argTypes := ts }) = .quiet) = q f := by
  simp only [kindOf]; by_cases h : q f = true <;> simp [h]
theorem o_call {f : FuncId} {args : Array Operand} {ts : Array TypeId} {vs : List AV} (hs : d < sz) (hx : allOf (aeval T) args.toList = some vs) (hq : (qd && S.quiet f) = false) (h : Acalls P S f vs ⟨g, n⟩ fun v H' => evP P S sz qd ops l (upd T d v) H' Q) :
    evP P S sz qd ops (⟨some d, .call { callee := .value (.func f), args := args, argTypes := ts }, ty, pos, after, none⟩ :: l) T ⟨g, n⟩ Q := by
  simp only [evP, dstOk, hs, decide_true, if_true, Region.wanted, aop, aeval, hx, List.nil_append, List.append_nil, put, call_kind, hq, Bool.false_eq_true, if_false]; exact h
theorem o_callQ {f : FuncId} {args : Array Operand} {ts : Array TypeId} {vs : List AV} (hs : d < sz) (hx : allOf (aeval T) args.toList = some vs) (hq : (qd && S.quiet f) = true) (h : Acalls P S f vs ⟨roAll g, n⟩ fun v _ => v.flatT = true ∧ evP P S sz qd ops l (upd T d v) ⟨g, n⟩ Q) :
    evP P S sz qd ops (⟨some d, .call { callee := .value (.func f), args := args, argTypes := ts }, ty, pos, after, none⟩ :: l) T ⟨g, n⟩ Q := by
  simp only [evP, dstOk, hs, decide_true, if_true, Region.wanted, aop, aeval, hx, List.nil_append, List.append_nil, put, call_kind, hq]; exact h
theorem o_call0 {f : FuncId} {args : Array Operand} {ts : Array TypeId} {vs : List AV} (hx : allOf (aeval T) args.toList = some vs) (hq : (qd && S.quiet f) = false) (h : Acalls P S f vs ⟨g, n⟩ fun v H' => evP P S sz qd ops l T H' Q) :
    evP P S sz qd ops (⟨none, .call { callee := .value (.func f), args := args, argTypes := ts }, ty, pos, after, none⟩ :: l) T ⟨g, n⟩ Q := by
  simp only [evP, dstOk, if_true, Region.wanted, aop, aeval, hx, List.nil_append, List.append_nil, put, call_kind, hq, Bool.false_eq_true, if_false]; exact h
theorem o_builtin {b : Builtin} {args : Array Operand} {ts : Array TypeId} {vs : List AV} {v : AV} {e : Eff} (hs : d < sz) (hx : allOf (aeval T) args.toList = some vs) (hv : abuiltin P g n b ts.toList vs = some (.val v e)) (h : evP P S sz qd ops l (upd T d v) (AH.app ⟨g, n⟩ e) Q) :
    evP P S sz qd ops (⟨some d, .call { callee := .builtin b, args := args, argTypes := ts }, ty, pos, after, none⟩ :: l) T ⟨g, n⟩ Q :=
  o_gen rfl rfl hs (by simp only [aop, hx, hv]) h

/-- a cell of a block -/
def cellOf (cs : List AV) (o : Nat) : Option AV := cs[o]?
def cellsOf (cs : List AV) (o n : Nat) : Option (List AV) := if o + n ≤ cs.length then some ((cs.drop o).take n) else none
def putCells (cs : List AV) (o : Nat) (vs : List AV) : Option (List AV) := if o + vs.length ≤ cs.length then some (cs.take o ++ vs ++ cs.drop (o + vs.length)) else none
theorem o_load1 {a : Operand} {t e : TypeId} {i : TI} {b o : Nat} {cs : List AV} {ro : Bool} {v : AV} (hs : d < sz) (hx : aeval T a = some (.ptr (some (b, o)))) (hi : ti P t = some i) (ha : i.agg = false) (hg : g b = .cells cs e ro) (hc : cellOf cs o = some v)
    (h : evP P S sz qd ops l (upd T d v) ⟨g, n⟩ Q) : evP P S sz qd ops (⟨some d, .load t a, ty, pos, after, none⟩ :: l) T ⟨g, n⟩ Q :=
  o_load hs hx (by simp only [aload, hi, ha, hg]; simpa [cellOf] using hc) h
theorem o_loadN {a : Operand} {t e : TypeId} {i : TI} {b o : Nat} {cs vs : List AV} {ro : Bool} (hs : d < sz) (hx : aeval T a = some (.ptr (some (b, o)))) (hi : ti P t = some i) (ha : i.agg = true) (hg : g b = .cells cs e ro) (hc : cellsOf cs o i.size = some vs)
    (h : evP P S sz qd ops l (upd T d (.agg vs)) ⟨g, n⟩ Q) : evP P S sz qd ops (⟨some d, .load t a, ty, pos, after, none⟩ :: l) T ⟨g, n⟩ Q :=
  o_load hs hx (by simp only [aload, hi, ha, if_true, cellsAt, hg]; rw [cellsOf] at hc; rw [hc]; rfl) h
theorem o_storeN {x a : Operand} {t e : TypeId} {i : TI} {b o : Nat} {v : AV} {cs cs' : List AV} (ha : aeval T a = some (.ptr (some (b, o)))) (hx : aeval T x = some v) (hi : ti P t = some i) (hl : v.cells.length = i.size) (h1 : v.cells.all AV.one = true) (hg : g b = .cells cs e false)
    (hc : putCells cs o v.cells = some cs') (h : evP P S sz qd ops l T ⟨upd g b (.cells cs' e false), n⟩ Q) : evP P S sz qd ops (⟨none, .store t a x, ty, pos, after, none⟩ :: l) T ⟨g, n⟩ Q :=
  o_store ha hx hi hl h1 (by
    simp only [setCells, hg]
    unfold putCells at hc
    split at hc
    · rename_i h; rw [if_pos h]; cases hc; rfl
    · cases hc) h

/-! ### regions that draw, of which no operation makes a block and no call is quiet -/
def notNew : Kd → Bool
  | .new => false
  | _ => true
/-- no load and no write that don't wait for one another -/
def noKeep (q : FuncId → Bool) (ops : Array Oper) : Bool :=
  (List.range ops.size).all fun i => match ops[i]? with
    | some o => !isLoad o.op || (List.range ops.size).all fun j => !isWriteAt q ops j || isBefore (befores ops) i j || isBefore (befores ops) j i
    | none => true
def plainOps (q : FuncId → Bool) (ops : Array Oper) : Bool := (ops.toList.all fun o => notNew (kindOf q o.op)) && noKeep q ops

theorem noKeep_at {q : FuncId → Bool} (h : noKeep q ops = true) {i j : Nat} {o : Oper} (hi : ops[i]? = some o) (hl : isLoad o.op = true) (hj : j < ops.size) (hw : isWriteAt q ops j = true) : isBefore (befores ops) i j = true ∨ isBefore (befores ops) j i = true := by
  unfold noKeep at h
  rw [List.all_eq_true] at h
  have h1 := h i (List.mem_range.2 (Array.getElem?_eq_some_iff.1 hi).1)
  simp only [hi, hl, Bool.not_true, Bool.false_or, List.all_eq_true, List.mem_range] at h1
  have := h1 j hj
  simpa [hw] using this
theorem isWriteAt_lt {q : FuncId → Bool} {j : Nat} (hw : isWriteAt q ops j = true) : j < ops.size := by
  unfold isWriteAt at hw
  cases h : ops[j]? with
  | none => rw [h] at hw; cases hw
  | some o => exact (Array.getElem?_eq_some_iff.1 h).1
theorem keepOff_plain {q : FuncId → Bool} (h : noKeep q ops = true) (T : Slots) {j : Nat} (hw : isWriteAt q ops j = true) (b : Nat) : keepOff ops T j b = false := by
  unfold keepOff
  rw [List.any_eq_false]
  intro i hi
  cases ho : ops[i]? with
  | none => simp
  | some o =>
    simp only
    split
    · rename_i t a hop
      have := noKeep_at h ho (by rw [hop]; rfl) (isWriteAt_lt hw) hw
      rcases this with h1 | h1 <;> simp [h1]
    · simp
theorem protOk_plain {q : FuncId → Bool} (h : noKeep q ops = true) (B : Nat → Nat → Bool) {i : Nat} {o : Oper} (hi : ops[i]? = some o) (ρ : Operand → Option AV) : protOk q ops B i ρ o.op = true := by
  have key : isLoad o.op = true → ∀ b, ((List.range ops.size).all fun j => !isWriteAt q ops j || isBefore (befores ops) i j || isBefore (befores ops) j i || B j b) = true ∧ ((List.range ops.size).all fun j => !isWriteAt q ops j || isBefore (befores ops) i j || isBefore (befores ops) j i) = true := by
    intro hl b
    constructor <;>
    · rw [List.all_eq_true]
      intro j hj
      cases hw : isWriteAt q ops j with
      | false => simp
      | true =>
        have := noKeep_at h hi hl (List.mem_range.1 hj) hw
        rcases this with h1 | h1 <;> simp [h1]
  unfold protOk
  split
  · rename_i t a hop
    split
    · exact (key (by rw [hop]; rfl) _).1
    · rfl
  · rename_i args ts hop
    split
    · exact (key (by rw [hop]; rfl) 0).2
    · rfl
  · rfl
theorem hidden_plain {q : FuncId → Bool} (h : plainOps q ops = true) (T : Slots) (n0 i b : Nat) : hidden q ops n0 (keepOff ops T) i b = false := by
  unfold plainOps at h
  rw [Bool.and_eq_true] at h
  unfold hidden
  rw [Bool.or_eq_false_iff]
  constructor
  · rw [List.any_eq_false]
    intro k hk
    cases ho : ops[k]? with
    | none => simp
    | some o =>
      have hm : o ∈ ops.toList := Array.mem_def.mp (Array.mem_of_getElem? ho)
      have h1 := List.all_eq_true.mp h.1 o hm
      cases hk : kindOf q o.op <;> simp_all [notNew]
  · cases hw : isWriteAt q ops i with
    | false => rfl
    | true => rw [keepOff_plain h.2 T hw]; rfl

theorem evD_plain (hp : plainOps S.quiet ops = true) (n0 : Nat) (T0 : Slots) : ∀ (l : List (Nat × Oper)) {T : Slots} {H : AH} {Q : Slots → AH → Prop}, (∀ p ∈ l, ops[p.1]? = some p.2) → evP P S sz true ops (l.map Prod.snd) T H Q → evD P S sz ops n0 (keepOff ops T0) l T H Q
  | [], T, H, Q, hl, h => h
  | (i, o) :: l, T, H, Q, hl, h => by
    have hh : hidden S.quiet ops n0 (keepOff ops T0) i = fun _ => false := funext fun b => hidden_plain hp T0 n0 i b
    have e1 : ∀ g : Nat → AB, hide (fun _ => false) g = g := fun g => rfl
    have e2 : ∀ g g' : Nat → AB, restore (fun _ => false) g g' = g' := fun g g' => rfl
    have hi : ops[i]? = some o := hl (i, o) List.mem_cons_self
    have hp' := hp
    unfold plainOps at hp'
    rw [Bool.and_eq_true] at hp'
    have ho := List.all_eq_true.mp hp'.1 o (Array.mem_def.mp (Array.mem_of_getElem? hi))
    have ih := fun {T H Q} => evD_plain hp n0 T0 l (T := T) (H := H) (Q := Q) fun p hp => hl p (List.mem_cons_of_mem _ hp)
    simp only [List.map_cons, evP] at h
    simp only [evD, hh, e1, e2]
    split at h
    · rename_i h1
      rw [if_pos h1]
      split at h
      · rename_i h2
        rw [if_pos h2]
        cases hk : kindOf S.quiet o.op with
        | new => rw [hk] at ho; simp [notNew] at ho
        | quiet =>
          simp only [hk, decide_true, Bool.and_self, if_true] at h
          simp only
          split at h
          · rename_i v e ha
            have := quiet_eff hk ha
            subst this
            try simp only [ha]
            exact ⟨protOk_plain hp'.2 _ hi _, ih h⟩
          · rename_i f args ha
            try simp only [ha]
            exact h.mono fun v H' h => ⟨h.1, ih h.2⟩
          · exact h.elim
        | write =>
          simp only [hk, reduceCtorEq, decide_false, Bool.and_false, Bool.false_eq_true, if_false] at h
          simp only
          split at h
          · rename_i v e ha
            try simp only [ha]
            exact ih h
          · rename_i f args ha
            try simp only [ha]
            exact h.mono fun v H' h => ih h
          · exact h.elim
      · rename_i h2
        rw [if_neg h2]
        exact ih h
    · exact h.elim

theorem numbered_snd : ∀ (l : List Oper) (k : Nat), (numbered l k).map Prod.snd = l
  | [], k => rfl
  | o :: l, k => by simp [numbered, numbered_snd l]
theorem rank_plain (hp : plainOps S.quiet ops = true) (i : Nat) : rank S.quiet ops i = 0 := by
  unfold rank
  rw [List.length_eq_zero_iff, List.filter_eq_nil_iff]
  intro o ho hk
  unfold plainOps at hp
  rw [Bool.and_eq_true] at hp
  have h1 := List.all_eq_true.mp hp.1 o (List.mem_of_mem_take ho)
  simp_all [notNew]

/-- such a region, in the text's order -/
theorem c_draw {id : Nat} {T : Slots} {H : AH} {Q : Post} (hd : (drawOk S.quiet ops && plainOps S.quiet ops) = true) (h : evP P S sz true ops ops.toList T H (Q .normal)) : evC P S sz (.region id ops true) T H Q := by
  rw [Bool.and_eq_true] at hd
  refine ⟨hd.1, ?_⟩
  rw [rank_plain hd.2]
  refine evD_plain hd.2 _ _ _ ?_ (by rw [numbered_snd]; exact h)
  intro p hp
  have key : ∀ (l : List Oper) (k : Nat) (p : Nat × Oper), p ∈ numbered l k → k ≤ p.1 ∧ l[p.1 - k]? = some p.2 := by
    intro l
    induction l with
    | nil => intro k p hp; simp [numbered] at hp
    | cons o l ih =>
      intro k p hp
      simp only [numbered, List.mem_cons] at hp
      rcases hp with rfl | hp
      · simp
      · obtain ⟨h1, h2⟩ := ih (k + 1) p hp
        refine ⟨by omega, ?_⟩
        rw [show p.1 - k = (p.1 - (k + 1)) + 1 from by omega]
        simpa using h2
  have := (key ops.toList 0 p hp).2
  simpa using this
theorem c_text {id : Nat} {T : Slots} {H : AH} {Q : Post} (h : evP P S sz false ops ops.toList T H (Q .normal)) : evC P S sz (.region id ops false) T H Q := evP_text _ h
theorem c_seq {a b : Code} {T : Slots} {H : AH} {Q : Post} (h : evC P S sz a T H (AE.then (fun T H => evC P S sz b T H Q) Q)) : evC P S sz (.seq a b) T H Q := h
theorem c_block {id : Nat} {c : Code} {T : Slots} {H : AH} {Q : Post} (h : evC P S sz c T H (AE.inBlock id Q)) : evC P S sz (.block id c) T H Q := h
theorem c_cond {c : Operand} {x y : Code} {b : Bool} {T : Slots} {H : AH} {Q : Post} (hc : aeval T c = some (.bool b)) (h1 : b = true → evC P S sz x T H Q) (h2 : b = false → evC P S sz y T H Q) : evC P S sz (.cond c x y) T H Q := by
  simp only [evC, hc]; exact ⟨h1, h2⟩

theorem o_nil (h : Q T H) : evP P S sz qd ops [] T H Q := h
theorem c_skip {T : Slots} {H : AH} {Q : Post} (h : Q .normal T H) : evC P S sz .skip T H Q := h
theorem c_ret {T : Slots} {H : AH} {Q : Post} (h : Q .ret T H) : evC P S sz .ret T H Q := h
theorem c_exit {i : Nat} {T : Slots} {H : AH} {Q : Post} (h : Q (.exit i) T H) : evC P S sz (.exit i) T H Q := h
theorem c_then {n : Slots → AH → Prop} {T : Slots} {H : AH} {Q : Post} (h : n T H) : AE.then n Q .normal T H := h
theorem c_thenR {n : Slots → AH → Prop} {T : Slots} {H : AH} {Q : Post} (h : Q .ret T H) : AE.then n Q .ret T H := h
theorem c_thenE {n : Slots → AH → Prop} {i : Nat} {T : Slots} {H : AH} {Q : Post} (h : Q (.exit i) T H) : AE.then n Q (.exit i) T H := h
theorem c_inN {id : Nat} {T : Slots} {H : AH} {Q : Post} (h : Q .normal T H) : AE.inBlock id Q .normal T H := h
theorem c_inR {id : Nat} {T : Slots} {H : AH} {Q : Post} (h : Q .ret T H) : AE.inBlock id Q .ret T H := h
theorem c_inE {id : Nat} {T : Slots} {H : AH} {Q : Post} (h : Q .normal T H) : AE.inBlock id Q (.exit id) T H := by simp only [AE.inBlock, if_true]; exact h
theorem c_inO {id i : Nat} {T : Slots} {H : AH} {Q : Post} (hi : (i == id) = false) (h : Q (.exit i) T H) : AE.inBlock id Q (.exit i) T H := by
  have : ¬ i = id := by simpa using hi
  simp only [AE.inBlock, if_neg this]; exact h

/-- what a function's end asks -/
def notExit : AE → Bool
  | .exit _ => false
  | _ => true
theorem c_done {fn : Func} {e : AE} {v : AV} {T : Slots} {H : AH} {Q : AV → AH → Prop} (he : notExit e = true) (hv : aresults P fn T H = some v) (h : Q v H) :
    (∀ i, e ≠ .exit i) ∧ ∃ v, aresults P fn T H = some v ∧ Q v H := by
  refine ⟨?_, v, hv, h⟩
  intro i hi; subst hi; simp [notExit] at he

theorem c_condT {c : Operand} {x y : Code} {T : Slots} {H : AH} {Q : Post} (hc : aeval T c = some (.bool true)) (h1 : evC P S sz x T H Q) : evC P S sz (.cond c x y) T H Q := c_cond hc (fun _ => h1) (fun h => by cases h)
theorem c_condF {c : Operand} {x y : Code} {T : Slots} {H : AH} {Q : Post} (hc : aeval T c = some (.bool false)) (h1 : evC P S sz y T H Q) : evC P S sz (.cond c x y) T H Q := c_cond hc (fun h => by cases h) (fun _ => h1)
theorem c_done1 {fn : Func} {e : AE} {t : Tmp} {v : AV} {T : Slots} {H : AH} {Q : AV → Prop} (he : notExit e = true) (hr : fn.results = #[.tmp t]) (hv : aeval T (.tmp t) = some v) (h : Q v) :
    (∀ i, e ≠ .exit i) ∧ ∃ v, aresults P fn T H = some v ∧ Q v :=
  c_done (Q := fun v _ => Q v) he (by rw [aresults, hr]; simp only [allOf, resA]; simpa [aeval] using hv) h
theorem c_done2 {fn : Func} {e : AE} {t u : Tmp} {v w : AV} {T : Slots} {H : AH} {Q : AV → Prop} (he : notExit e = true) (hr : fn.results = #[.tmp t, .tmp u]) (hv : aeval T (.tmp t) = some v) (hw : aeval T (.tmp u) = some w) (h : Q (.tup [v, w])) :
    (∀ i, e ≠ .exit i) ∧ ∃ v, aresults P fn T H = some v ∧ Q v :=
  c_done (Q := fun v _ => Q v) he (by rw [aresults, hr]; simp only [allOf, resA]; simp only [aeval, Option.some.injEq] at hv hw; rw [hv, hw]) h
theorem c_done0 {fn : Func} {e : AE} {T : Slots} {H : AH} {Q : AV → Prop} (he : notExit e = true) (hr : fn.results = #[]) (h : Q (.tup [])) :
    (∀ i, e ≠ .exit i) ∧ ∃ v, aresults P fn T H = some v ∧ Q v :=
  c_done (Q := fun v _ => Q v) he (by rw [aresults, hr]; rfl) h

end

theorem slots0_0 : slots0 [] = fun _ => .undef := by funext i; simp [slots0]
theorem slots0_snoc (vs : List AV) (v : AV) : slots0 (vs ++ [v]) = upd (slots0 vs) vs.length v := by
  funext i
  simp only [slots0, upd, List.getD_eq_getElem?_getD]
  split
  · rename_i h; subst h; simp
  · rename_i h
    rcases Nat.lt_or_ge i vs.length with h1 | h1
    · rw [List.getElem?_append_left h1]
    · have h2 : vs.length < i := by omega
      rw [List.getElem?_eq_none (l := vs) (by omega), List.getElem?_eq_none (by simp; omega)]
theorem slots0_1 (a : AV) : slots0 [a] = upd (fun _ => .undef) 0 a := by rw [show [a] = [] ++ [a] from rfl, slots0_snoc, slots0_0]; rfl
theorem slots0_2 (a b : AV) : slots0 [a, b] = upd (upd (fun _ => .undef) 0 a) 1 b := by rw [show [a, b] = [a] ++ [b] from rfl, slots0_snoc, slots0_1]; rfl
theorem slots0_3 (a b c : AV) : slots0 [a, b, c] = upd (upd (upd (fun _ => .undef) 0 a) 1 b) 2 c := by rw [show [a, b, c] = [a, b] ++ [c] from rfl, slots0_snoc, slots0_2]; rfl
theorem slots0_4 (a b c d : AV) : slots0 [a, b, c, d] = upd (upd (upd (upd (fun _ => .undef) 0 a) 1 b) 2 c) 3 d := by rw [show [a, b, c, d] = [a, b, c] ++ [d] from rfl, slots0_snoc, slots0_3]; rfl
theorem slots0_5 (a b c d e : AV) : slots0 [a, b, c, d, e] = upd (upd (upd (upd (upd (fun _ => .undef) 0 a) 1 b) 2 c) 3 d) 4 e := by rw [show [a, b, c, d, e] = [a, b, c, d] ++ [e] from rfl, slots0_snoc, slots0_4]; rfl

end Go.Eng
namespace Go.Eng
set_option linter.unusedVariables false
set_option linter.unusedSimpArgs false

section
variable {P : Program} {S : Sums} {sz : Nat} {qd : Bool} {ops : Array Oper} {l : List Oper} {T : Slots} {H : AH} {g : Nat → AB} {n : Nat} {Q : Slots → AH → Prop}
variable {d : Tmp} {ty : TypeId} {pos : String} {after : Array Edge}

theorem o_lenS {x : Operand} {t e : TypeId} {i : TI} {a : Option (Nat × Nat)} {k c sl : Nat} (hs : d < sz) (hx : aeval T x = some (.slc a k c sl)) (hi : ti P t = some i) (hd : i.desc = .slice e) (h : evP P S sz qd ops l (upd T d (.int .i64 k)) ⟨g, n⟩ Q) :
    evP P S sz qd ops (⟨some d, .call { callee := .builtin .len, args := #[x], argTypes := #[t] }, ty, pos, after, none⟩ :: l) T ⟨g, n⟩ Q := by
  obtain ⟨desc, agg, size, bytes, zero⟩ := i
  simp only at hd
  subst hd
  refine o_gen (e := {}) rfl rfl hs ?_ h
  simp only [aop, allOf, hx, abuiltin, alen, hi]; rfl

theorem o_elemS {x ix : Operand} {t e : TypeId} {i ie : TI} {b o k c sl : Nat} {kd : IntKind} {j : Int} (hs : d < sz) (hx : aeval T x = some (.slc (some (b, o)) k c sl)) (hj : aeval T ix = some (.int kd j)) (hi : ti P t = some i) (hd : i.desc = .slice e) (hie : ti P e = some ie) (h0 : 0 ≤ j) (h1 : j < k)
    (h : evP P S sz qd ops l (upd T d (.ptr (some (b, o + j.toNat * ie.size)))) ⟨g, n⟩ Q) :
    evP P S sz qd ops (⟨some d, .indexAddr t x ix, ty, pos, after, none⟩ :: l) T ⟨g, n⟩ Q := by
  obtain ⟨desc, agg, size, bytes, zero⟩ := i
  simp only at hd
  subst hd
  refine o_indexAddr hs hx hj ?_ h
  simp only [aindexAddr, hi, hie, h0, h1, and_self, if_true]

theorem o_elemA {x ix : Operand} {t e : TypeId} {i ie : TI} {b o len : Nat} {kd : IntKind} {j : Int} (hs : d < sz) (hx : aeval T x = some (.ptr (some (b, o)))) (hj : aeval T ix = some (.int kd j)) (hi : ti P t = some i) (hd : i.desc = .array len e) (hie : ti P e = some ie) (h0 : 0 ≤ j) (h1 : j < len)
    (h : evP P S sz qd ops l (upd T d (.ptr (some (b, o + j.toNat * ie.size)))) ⟨g, n⟩ Q) :
    evP P S sz qd ops (⟨some d, .indexAddr t x ix, ty, pos, after, none⟩ :: l) T ⟨g, n⟩ Q := by
  obtain ⟨desc, agg, size, bytes, zero⟩ := i
  simp only at hd
  subst hd
  refine o_indexAddr hs hx hj ?_ h
  simp only [aindexAddr, hi, hie, h0, h1, and_self, if_true]

theorem o_int {s t : TypeId} {is it : TI} {x : Operand} {kd ke : IntKind} {j : Int} (hs : d < sz) (hx : aeval T x = some (.int kd j)) (h1 : ti P s = some is) (h2 : ti P t = some it) (hd : it.desc = .int ke) (h : evP P S sz qd ops l (upd T d (.int ke (ke.wrap j))) ⟨g, n⟩ Q) :
    evP P S sz qd ops (⟨some d, .convert s t x, ty, pos, after, none⟩ :: l) T ⟨g, n⟩ Q := by
  obtain ⟨desc, agg, size, bytes, zero⟩ := it
  simp only at hd
  subst hd
  refine o_convert hs hx ?_ h
  simp only [aconvert, h1, h2]

end
end Go.Eng
namespace Go.Eng
set_option linter.unusedVariables false
set_option linter.unusedSimpArgs false

/-- old blocks stay as they were -/
def Keeps (H H' : AH) : Prop := H.n ≤ H'.n ∧ ∀ b, b < H.n → H'.g b = H.g b
theorem Keeps.refl (H : AH) : Keeps H H := ⟨Nat.le_refl _, fun b h => rfl⟩
theorem Keeps.trans {H1 H2 H3 : AH} (h : Keeps H1 H2) (h' : Keeps H2 H3) : Keeps H1 H3 :=
  ⟨Nat.le_trans h.1 h'.1, fun b hb => (h'.2 b (Nat.lt_of_lt_of_le hb h.1)).trans (h.2 b hb)⟩
theorem Keeps.new {H : AH} {g : Nat → AB} {n : Nat} (x : AB) (h : Keeps H ⟨g, n⟩) : Keeps H ⟨upd g n x, n + 1⟩ :=
  ⟨Nat.le_succ_of_le h.1, fun b hb => by
    have h1 : b < n := Nat.lt_of_lt_of_le hb h.1
    show upd g n x b = _
    rw [upd_ne _ _ (by omega)]; exact h.2 b hb⟩
theorem Keeps.set {H : AH} {g : Nat → AB} {n b : Nat} (x : AB) (hb : H.n ≤ b) (h : Keeps H ⟨g, n⟩) : Keeps H ⟨upd g b x, n⟩ :=
  ⟨h.1, fun c hc => by
    show upd g b x c = _
    rw [upd_ne _ _ (by omega)]; exact h.2 c hc⟩

/-- a slice of elements of k cells each, that lies at cells cs -/
def SlAt (g : Nat → AB) (k : Nat) (v : AV) (n : Nat) (cs : List AV) : Prop :=
  cs.length = n * k ∧ ((∃ c sl, v = .slc none n c sl ∧ n = 0) ∨
    ∃ b o c sl xs e ro, v = .slc (some (b, o)) n c sl ∧ g b = .cells xs e ro ∧ o + n * k ≤ xs.length ∧ (xs.drop o).take (n * k) = cs)
theorem SlAt.frame {g g' : Nat → AB} {k n : Nat} {v : AV} {cs : List AV} (h : SlAt g k v n cs) (hb : ∀ b o c sl, v = .slc (some (b, o)) n c sl → g' b = g b) : SlAt g' k v n cs := by
  refine ⟨h.1, ?_⟩
  rcases h.2 with h | ⟨b, o, c, sl, xs, e, ro, h1, h2, h3⟩
  · exact .inl h
  · exact .inr ⟨b, o, c, sl, xs, e, ro, h1, (hb b o c sl h1).trans h2, h3⟩

theorem cellsOf_elem {xs cs : List AV} {o n k i : Nat} (h1 : o + n * k ≤ xs.length) (h2 : (xs.drop o).take (n * k) = cs) (hi : i < n) : cellsOf xs (o + i * k) k = some ((cs.drop (i * k)).take k) := by
  have hm : (i + 1) * k ≤ n * k := Nat.mul_le_mul_right _ hi
  rw [Nat.add_mul, Nat.one_mul] at hm
  unfold cellsOf
  rw [if_pos (by omega), ← h2, List.drop_take, List.drop_drop, List.take_take, Nat.min_eq_left (by omega)]

/-- slots of which some are known, written as a chain -/
def chain (l : List (Nat × AV)) (T : Slots) : Slots := l.foldr (fun p T => upd T p.1 p.2) T
theorem chain_ex {T : Slots} : ∀ (l : List (Nat × AV)), (∀ p ∈ l, T p.1 = p.2) → ∃ T0, T = chain l T0
  | [], _ => ⟨T, rfl⟩
  | p :: l, h => by
    refine ⟨T, ?_⟩
    have e : ∀ l : List (Nat × AV), (∀ p ∈ l, T p.1 = p.2) → chain l T = T := by
      intro l
      induction l with
      | nil => intro _; rfl
      | cons q l ih =>
        intro h
        show upd (chain l T) q.1 q.2 = T
        rw [ih fun p hp => h p (List.mem_cons_of_mem _ hp)]
        exact upd_self (h q List.mem_cons_self)
    exact (e _ h).symm

end Go.Eng
