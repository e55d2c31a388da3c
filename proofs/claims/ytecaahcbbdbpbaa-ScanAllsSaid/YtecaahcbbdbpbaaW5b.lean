/-
  M4: The small code, part 4: what it comes to; the engine's code comes to the same.
-/
import Derived.Test.YtecaahcbbdbpbaaW5
import Derived.KernelRfl
namespace Go.Eng
set_option linter.unusedVariables false
set_option linter.unusedSimpArgs false

section
variable (P : Program) (S : Sums)

def doM (m : MO) (d : Option Nat) (T : Slots) (H : AH) (K : Slots → AH → Prop) : Prop :=
  match m with
  | .call f args => Acalls P S f (MX.vals T args) H fun v H' => K (put T d v) H'
  | .callq f args => Acalls P S f (MX.vals T args) ⟨roAll H.g, H.n⟩ fun v _ => v.flatT = true ∧ K (put T d v) H
  | .callv x args => match x.val T with
    | .fn f a b => Acalls P S f (a ++ MX.vals T args ++ b) H fun v H' => K (put T d v) H'
    | _ => False
  | m => match mop P T H.g H.n m with
    | some (.val v e) => K (put T d v) (H.app e)
    | _ => False

def evMO : List MI → Slots → AH → (Slots → AH → Prop) → Prop
  | [], T, H, Q => Q T H
  | ⟨d, none, m⟩ :: l, T, H, Q => doM P S m d T H fun T H => evMO l T H Q
  | ⟨d, some (j, w), m⟩ :: l, T, H, Q =>
    match T j with
    | .bool b => (b = w → doM P S m d T H fun T H => evMO l T H Q) ∧ (b = !w → evMO l (put T d .undef) H Q)
    | _ => False

def bkOf : AV → Option Nat
  | .ptr (some (b, _)) => some b
  | _ => none
def dBlk (n0 : Nat) (T0 : Slots) (hid roots : List Nat) : List Nat := hid.map (n0 + ·) ++ roots.filterMap fun r => bkOf (T0 r)
/-- blocks that aren't there -/
def hideL : List Nat → (Nat → AB) → Nat → AB
  | [], g => g
  | b :: bs, g => upd (hideL bs g) b .dead
def restL (g : Nat → AB) : List Nat → (Nat → AB) → Nat → AB
  | [], g1 => g1
  | b :: bs, g1 => upd (restL g bs g1) b (g b)
def protM (T0 T : Slots) : Option Nat → MO → Prop
  | none, _ => True
  | some r, .ld1 a => bkOf (a.val T) = bkOf (T0 r)
  | some r, .ldN _ a => bkOf (a.val T) = bkOf (T0 r)
  | some _, _ => False

def doD (n0 : Nat) (T0 : Slots) (x : DI) (T : Slots) (H : AH) (K : Slots → AH → Prop) : Prop :=
  match x.kd with
  | .quiet => protM T0 T x.prot x.it.m ∧ doM P S x.it.m x.it.d T ⟨hideL (dBlk n0 T0 x.hid x.roots) H.g, H.n⟩ fun T' _ => K T' H
  | .new r => doM P S x.it.m x.it.d T ⟨hideL (dBlk n0 T0 x.hid x.roots) H.g, n0 + r⟩ fun T' H1 => K T' ⟨upd H.g (n0 + r) (H1.g (n0 + r)), H.n⟩
  | .write => doM P S x.it.m x.it.d T ⟨hideL (dBlk n0 T0 x.hid x.roots) H.g, H.n⟩ fun T' H1 => K T' ⟨restL H.g (dBlk n0 T0 x.hid x.roots) H1.g, H1.n⟩

/-- operations of a region with blocks of its own: their numbers are set apart ahead of it -/
def evDO (n0 : Nat) (T0 : Slots) : List DI → Slots → AH → (Slots → AH → Prop) → Prop
  | [], T, H, Q => Q T H
  | x :: l, T, H, Q => match x.it.g with
    | none => doD P S n0 T0 x T H fun T H => evDO n0 T0 l T H Q
    | some (j, w) => match T j with
      | .bool b => (b = w → doD P S n0 T0 x T H fun T H => evDO n0 T0 l T H Q) ∧ (b = !w → evDO n0 T0 l (put T x.it.d .undef) H Q)
      | _ => False

def evM : MC → Slots → AH → Post → Prop
  | .skip, T, H, Q => Q .normal T H
  | .ops l, T, H, Q => evMO P S l T H (Q .normal)
  | .dops R l, T, H, Q => evDO P S H.n T l T ⟨H.g, H.n + R⟩ (Q .normal)
  | .seq a b, T, H, Q => evM a T H (AE.then (fun T H => evM b T H Q) Q)
  | .cond x a b, T, H, Q => match x.val T with
    | .bool c => (c = true → evM a T H Q) ∧ (c = false → evM b T H Q)
    | _ => False
  | .block id c, T, H, Q => evM c T H (AE.inBlock id Q)
  | .loop c, T, H, Q => ∃ k, evL (evM c) Q k T H
  | .exit id, T, H, Q => Q (.exit id) T H
  | .ret, T, H, Q => Q .ret T H
  | .raw c, T, H, Q => ∀ sz, evC P S sz c T H Q

end

section
variable {P : Program} {S : Sums} {sz : Nat} {qd : Bool} {ops : Array Oper}

theorem cOpc_val {q : FuncId → Bool} {op : Op} {m : MO} (h : cOpc P q op = some m) (hc : m.isCall = false) (T : Slots) (g : Nat → AB) (n : Nat) : aop P (aeval T) g n op = mop P T g n m := by
  unfold cOpc at h
  split at h
  · split at h
    · split at h
      · simp only [Option.some.injEq] at h; subst h
        split at hc <;> simp [MO.isCall] at hc
      · simp only [Option.map_eq_some_iff] at h
        obtain ⟨x, _, rfl⟩ := h
        simp [MO.isCall] at hc
    · cases h
  · split at h
    · rename_i m' hm
      split at h
      · cases h
      · simp only [Option.some.injEq] at h; subst h
        exact cOp_pure hm T g n
    · cases h

/-- one operation -/
theorem doM_ok {q : FuncId → Bool} (hq : ∀ f, q f = (qd && S.quiet f)) {op : Op} {m : MO} (h : cOpc P q op = some m) {d : Option Nat} {T : Slots} {H : AH} {l : List Oper} {Q : Slots → AH → Prop} (hd : doM P S m d T H fun T H => evP P S sz qd ops l T H Q) :
    match aop P (aeval T) H.g H.n op with
    | some (.val v e) => evP P S sz qd ops l (put T d v) (H.app e) Q
    | some (.call f args) =>
      if qd && (decide (kindOf S.quiet op = .quiet)) then Acalls P S f args ⟨roAll H.g, H.n⟩ fun v _ => v.flatT = true ∧ evP P S sz qd ops l (put T d v) H Q
      else Acalls P S f args H fun v H' => evP P S sz qd ops l (put T d v) H' Q
    | none => False := by
  cases hc : m.isCall with
  | false =>
    rw [cOpc_val h hc]
    have : ∀ K, doM P S m d T H K = (match mop P T H.g H.n m with | some (.val v e) => K (put T d v) (H.app e) | _ => False) := by
      intro K; cases m <;> first | rfl | (simp [MO.isCall] at hc)
    rw [this] at hd
    split at hd
    · rename_i v e hv; simp only [hv]; exact hd
    · exact hd.elim
  | true =>
    unfold cOpc at h
    split at h
    · rename_i fo args ts
      split at h
      · rename_i a ha
        split at h
        · rename_i f
          simp only [Option.some.injEq] at h; subst h
          simp only [aop, aeval, cXs_ok ha T, List.nil_append, List.append_nil, call_kind]
          cases hqf : q f with
          | true =>
            have := hq f; rw [hqf] at this
            simp only [hqf, if_true, doM] at hd
            rw [← this]
            simpa using hd
          | false =>
            have := hq f; rw [hqf] at this
            simp only [hqf, Bool.false_eq_true, if_false, doM] at hd
            rw [← this]
            simpa using hd
        · rename_i hne
          simp only [Option.map_eq_some_iff] at h
          obtain ⟨x, hx, rfl⟩ := h
          have hk : ∀ (as : Array Operand) (tt : Array TypeId), decide (kindOf S.quiet (.call { callee := .value fo, args := as, argTypes := tt }) = .quiet) = false := by
            intro as tt
            cases fo with
            | func f => exact absurd rfl (hne f)
            | _ => rfl
          simp only [aop, cX_ok hx T, cXs_ok ha T, hk, Bool.and_false, Bool.false_eq_true, if_false]
          simp only [doM] at hd
          split at hd
          · rename_i f fa fb hv
            simp only [hv]; exact hd
          · exact hd.elim
      · cases h
    · split at h
      · split at h
        · cases h
        · simp only [Option.some.injEq] at h; subst h
          simp_all
      · cases h

theorem doM_val {m : MO} (hc : m.isCall = false) {d : Option Nat} {T : Slots} {H : AH} (K : Slots → AH → Prop) :
    doM P S m d T H K = (match mop P T H.g H.n m with | some (.val v e) => K (put T d v) (H.app e) | _ => False) := by
  cases m <;> first | rfl | (simp [MO.isCall] at hc)

theorem doM_mono {m : MO} {d : Option Nat} {T : Slots} {H : AH} {K K' : Slots → AH → Prop} (hk : ∀ T H, K T H → K' T H) (h : doM P S m d T H K) : doM P S m d T H K' := by
  cases hc : m.isCall with
  | false =>
    rw [doM_val hc] at h ⊢
    split at h
    · rename_i v e hv; exact hk _ _ h
    · exact h.elim
  | true =>
    cases m with
    | call f args => exact Acalls.mono h fun v H' h => hk _ _ h
    | callq f args => exact Acalls.mono h fun v H' h => ⟨h.1, hk _ _ h.2⟩
    | callv x args =>
      simp only [doM] at h ⊢
      split at h
      · exact h.mono fun v H' h => hk _ _ h
      · exact h.elim
    | _ => simp [MO.isCall] at hc

theorem evMO_mono : ∀ (l : List MI) {T : Slots} {H : AH} {Q Q' : Slots → AH → Prop}, (∀ T H, Q T H → Q' T H) → evMO P S l T H Q → evMO P S l T H Q'
  | [], T, H, Q, Q', hq, h => hq _ _ h
  | ⟨d, none, m⟩ :: l, T, H, Q, Q', hq, h => by
    simp only [evMO] at h ⊢
    exact doM_mono (fun T H h => evMO_mono l hq h) h
  | ⟨d, some (j, w), m⟩ :: l, T, H, Q, Q', hq, h => by
    simp only [evMO] at h ⊢
    split at h
    · exact ⟨fun e => doM_mono (fun T H h => evMO_mono l hq h) (h.1 e), fun e => evMO_mono l hq (h.2 e)⟩
    · exact h.elim

theorem doD_mono {n0 : Nat} {T0 : Slots} {x : DI} {T : Slots} {H : AH} {K K' : Slots → AH → Prop} (hk : ∀ T H, K T H → K' T H) (h : doD P S n0 T0 x T H K) : doD P S n0 T0 x T H K' := by
  unfold doD at h ⊢
  split at h
  · exact ⟨h.1, doM_mono (fun T H h => hk _ _ h) h.2⟩
  · exact doM_mono (fun T H h => hk _ _ h) h
  · exact doM_mono (fun T H h => hk _ _ h) h
theorem evDO_mono {n0 : Nat} {T0 : Slots} : ∀ (l : List DI) {T : Slots} {H : AH} {Q Q' : Slots → AH → Prop}, (∀ T H, Q T H → Q' T H) → evDO P S n0 T0 l T H Q → evDO P S n0 T0 l T H Q'
  | [], T, H, Q, Q', hq, h => hq _ _ h
  | x :: l, T, H, Q, Q', hq, h => by
    simp only [evDO] at h ⊢
    split at h
    · exact doD_mono (fun T H h => evDO_mono l hq h) h
    · split at h
      · exact ⟨fun e => doD_mono (fun T H h => evDO_mono l hq h) (h.1 e), fun e => evDO_mono l hq (h.2 e)⟩
      · exact h.elim

theorem hideL_eq (bs : List Nat) (g : Nat → AB) (b : Nat) : hideL bs g b = if b ∈ bs then .dead else g b := by
  induction bs with
  | nil => simp [hideL]
  | cons c bs ih =>
    simp only [hideL, upd, ih, List.mem_cons]
    by_cases h : b = c <;> simp [h]
theorem restL_eq (g : Nat → AB) (bs : List Nat) (g1 : Nat → AB) (b : Nat) : restL g bs g1 b = if b ∈ bs then g b else g1 b := by
  induction bs with
  | nil => simp [restL]
  | cons c bs ih =>
    simp only [restL, upd, ih, List.mem_cons]
    by_cases h : b = c <;> simp [h]

theorem keepOff_iff {ops : Array Oper} {T : Slots} {j b : Nat} : keepOff ops T j b = true ↔ b ∈ (looseRoots ops j).filterMap fun r => bkOf (T r) := by
  unfold keepOff looseRoots
  simp only [List.any_eq_true, List.mem_range, List.mem_filterMap]
  constructor
  · rintro ⟨i, hi, h⟩
    split at h
    · rename_i o ho
      split at h
      · rename_i t a hop
        simp only [Bool.and_eq_true] at h
        obtain ⟨⟨h1, h2⟩, h3⟩ := h
        refine ⟨rootOf ops 9 a, ⟨i, hi, ?_⟩, ?_⟩
        · simp only [ho, hop, looseAt, h1, h2, Bool.and_self, if_true]
        · split at h3
          · rename_i b' o' hb
            simp only [hb, bkOf]
            have : b = b' := by simpa using h3
            rw [this]
          · cases h3
      · cases h
    · cases h
  · rintro ⟨r, ⟨i, hi, h⟩, hb⟩
    refine ⟨i, hi, ?_⟩
    split at h
    · rename_i o ho
      split at h
      · rename_i t a hop
        split at h
        · rename_i hl
          simp only [Option.some.injEq] at h; subst h
          simp only [looseAt, Bool.and_eq_true] at hl
          unfold bkOf at hb
          split at hb
          · rename_i b' o' hb'
            simp only [Option.some.injEq] at hb; subst hb
            rw [ho]
            simp only [hop, hl.1, hl.2, Bool.true_and, hb', beq_self_eq_true]
          · cases hb
        · cases h
      · cases h
    · cases h

theorem hidden_iff {ops : Array Oper} {n0 : Nat} {T0 : Slots} {i b : Nat} : hidden S.quiet ops n0 (keepOff ops T0) i b = true ↔ b ∈ dBlk n0 T0 (hidRanks S.quiet ops i) (if isWriteAt S.quiet ops i then looseRoots ops i else []) := by
  unfold hidden dBlk
  rw [Bool.or_eq_true, List.mem_append]
  refine or_congr ?_ ?_
  · unfold hidRanks
    simp only [List.any_eq_true, List.mem_range, List.mem_map, List.mem_filter]
    constructor
    · rintro ⟨k, hk, h⟩
      split at h
      · rename_i o ho
        simp only [Bool.and_eq_true] at h
        obtain ⟨⟨⟨h1, h2⟩, h3⟩, h4⟩ := h
        have h3' : b = n0 + rank S.quiet ops k := by simpa using h3
        refine ⟨rank S.quiet ops k, ⟨k, ⟨hk, ?_⟩, rfl⟩, h3'.symm⟩
        rw [ho]
        simp only [h1, h2, h4, Bool.and_self]
      · cases h
    · rintro ⟨r, ⟨k, ⟨hk, h⟩, rfl⟩, rfl⟩
      refine ⟨k, hk, ?_⟩
      split at h
      · rename_i o ho
        simp only [Bool.and_eq_true] at h
        obtain ⟨⟨h1, h2⟩, h4⟩ := h
        rw [ho]
        simp only [h1, h2, h4, Bool.and_self, beq_self_eq_true]
      · cases h
  · rw [Bool.and_eq_true]
    by_cases hw : isWriteAt S.quiet ops i = true
    · simp only [hw, if_true, true_and]; exact keepOff_iff
    · simp [hw]

theorem hide_eq {ops : Array Oper} {n0 : Nat} {T0 : Slots} {i : Nat} (g : Nat → AB) : hide (hidden S.quiet ops n0 (keepOff ops T0) i) g = hideL (dBlk n0 T0 (hidRanks S.quiet ops i) (if isWriteAt S.quiet ops i then looseRoots ops i else [])) g := by
  funext b
  rw [hideL_eq]
  unfold hide
  by_cases h : hidden S.quiet ops n0 (keepOff ops T0) i b = true
  · rw [if_pos h, if_pos (hidden_iff.mp h)]
  · rw [if_neg h, if_neg fun h' => h (hidden_iff.mpr h')]
theorem rest_eq {ops : Array Oper} {n0 : Nat} {T0 : Slots} {i : Nat} (g g1 : Nat → AB) : restore (hidden S.quiet ops n0 (keepOff ops T0) i) g g1 = restL g (dBlk n0 T0 (hidRanks S.quiet ops i) (if isWriteAt S.quiet ops i then looseRoots ops i else [])) g1 := by
  funext b
  rw [restL_eq]
  unfold restore
  by_cases h : hidden S.quiet ops n0 (keepOff ops T0) i b = true
  · rw [if_pos h, if_pos (hidden_iff.mp h)]
  · rw [if_neg h, if_neg fun h' => h (hidden_iff.mpr h')]

theorem new_form {op : Op} (hk : kindOf S.quiet op = .new) {ρ : Operand → Option AV} {g : Nat → AB} {nid : Nat} {r : ARes} (h : aop P ρ g nid op = some r) : ∃ v x, r = .val v { ws := [], new := some x } := by
  cases op with
  | alloc e =>
    simp only [aop] at h
    split at h
    · simp only [Option.map_eq_some_iff] at h; obtain ⟨z, _, rfl⟩ := h; exact ⟨_, _, rfl⟩
    · cases h
  | box e x => simp only [aop, Option.map_eq_some_iff] at h; obtain ⟨z, _, rfl⟩ := h; exact ⟨_, _, rfl⟩
  | buildSlice t len ps =>
    simp only [aop] at h
    split at h
    · unfold abuildSlice at h
      repeat' split at h
      all_goals first | (simp only [Option.map_eq_some_iff] at h; obtain ⟨z, _, rfl⟩ := h; exact ⟨_, _, rfl⟩) | cases h
    · cases h
  | makeMap t r' =>
    cases r' with
    | none => simp only [aop, Option.some.injEq] at h; subst h; exact ⟨_, _, rfl⟩
    | some r => simp [aop] at h
  | makeSlice t l c =>
    simp only [aop] at h
    split at h
    · unfold amakeSlice at h
      repeat' split at h
      all_goals first | (simp only [Option.some.injEq] at h; subst h; exact ⟨_, _, rfl⟩) | cases h
    · cases h
  | call c =>
    obtain ⟨callee, args, argTypes⟩ := c
    cases callee with
    | builtin b => cases b <;> simp [kindOf] at hk
    | value f =>
      cases f with
      | func f => simp only [kindOf] at hk; split at hk <;> cases hk
      | _ => simp [kindOf] at hk
    | _ => simp [kindOf] at hk
  | _ => simp [kindOf] at hk

theorem prot_ok {ops : Array Oper} {T0 : Slots} {i : Nat} {o : Oper} (ho : ops[i]? = some o) {pr : Option Nat} (hp : cProt S.quiet ops i o.op = some pr) {q : FuncId → Bool} {m : MO} (hm : cOpc P q o.op = some m) {T : Slots} (hpm : protM T0 T pr m) :
    protOk S.quiet ops (keepOff ops T0) i (aeval T) o.op = true := by
  have free : needProt S.quiet ops i = false → ∀ b, ((List.range ops.size).all fun j => !isWriteAt S.quiet ops j || isBefore (befores ops) i j || isBefore (befores ops) j i || keepOff ops T0 j b) = true := by
    intro hn b
    simp only [needProt, List.any_eq_false, looseAt] at hn
    simp only [List.all_eq_true]
    intro j hj
    have := hn j hj
    cases h1 : isWriteAt S.quiet ops j <;> cases h2 : isBefore (befores ops) i j <;> cases h3 : isBefore (befores ops) j i <;> simp_all
  have free2 : needProt S.quiet ops i = false → ((List.range ops.size).all fun j => !isWriteAt S.quiet ops j || isBefore (befores ops) i j || isBefore (befores ops) j i) = true := by
    intro hn
    simp only [needProt, List.any_eq_false, looseAt] at hn
    simp only [List.all_eq_true]
    intro j hj
    have := hn j hj
    cases h1 : isWriteAt S.quiet ops j <;> cases h2 : isBefore (befores ops) i j <;> cases h3 : isBefore (befores ops) j i <;> simp_all
  unfold protOk
  split
  · rename_i t a hop
    split
    · rename_i b o' hb
      cases a with
      | tmp a =>
        rw [hop] at hp
        simp only [cProt] at hp
        cases hn : needProt S.quiet ops i with
        | false => exact free hn b
        | true =>
          simp only [hn, if_true, Option.some.injEq] at hp
          subst hp
          simp only [List.all_eq_true]
          intro j hj
          cases h1 : isWriteAt S.quiet ops j <;> cases h2 : isBefore (befores ops) i j <;> cases h3 : isBefore (befores ops) j i <;> simp only [Bool.not_false, Bool.not_true, Bool.true_or, Bool.or_true, Bool.false_or]
          rw [keepOff_iff]
          refine List.mem_filterMap.mpr ⟨rootOf ops 9 a, ?_, ?_⟩
          · unfold looseRoots
            refine List.mem_filterMap.mpr ⟨i, ?_, ?_⟩
            · rw [List.mem_range]; exact (Array.getElem?_eq_some_iff.mp ho).1
            · simp only [ho, hop, looseAt, h2, h3, Bool.not_false, Bool.and_self, if_true]
          · rw [hop] at hm
            have hcx : cOp P (.load t (.tmp a)) = some m := by
              simp only [cOpc] at hm
              split at hm
              · rename_i m' hm'
                split at hm
                · cases hm
                · rw [hm', hm]
              · cases hm
            simp only [cOp] at hcx
            simp only [aeval, Option.some.injEq] at hb
            split at hcx
            · rename_i ti' a' _ ha'
              simp only [cX, Option.some.injEq] at ha'; subst ha'
              simp only [Option.some.injEq] at hcx
              split at hcx <;> subst hcx <;> simp only [protM, MX.val, hb, bkOf] at hpm <;> exact hpm.symm
            · cases hcx
      | _ => rw [hop] at hp; simp [cProt] at hp
    · rfl
  · rename_i args ts hop
    split
    · rw [hop] at hp
      simp only [cProt] at hp
      split at hp
      · cases hp
      · rename_i hn
        exact free2 (by simpa using hn)
    · rfl
  · rfl

theorem doD_ok {ops : Array Oper} {n0 : Nat} {T0 : Slots} {i : Nat} {o : Oper} (ho : ops[i]? = some o) {pr : Option Nat} (hp : cProt S.quiet ops i o.op = some pr) {m : MO} (hm : cOpc P S.quiet o.op = some m) {gd : Option (Nat × Bool)} {T : Slots} {H : AH} {l : List (Nat × Oper)} {Q : Slots → AH → Prop}
    (hdst : dstOk sz o.dst = true) (hw : Region.wanted o (ayield ops T) = true)
    (h : doD P S n0 T0 ⟨match kindOf S.quiet o.op with | .quiet => .quiet | .new => .new (rank S.quiet ops i) | .write => .write, hidRanks S.quiet ops i, if isWriteAt S.quiet ops i then looseRoots ops i else [], pr, ⟨o.dst, gd, m⟩⟩ T H fun T H => evD P S sz ops n0 (keepOff ops T0) l T H Q) :
    evD P S sz ops n0 (keepOff ops T0) ((i, o) :: l) T H Q := by
  simp only [evD, hdst, hw, if_true]
  generalize hd0 : o.dst = d at h ⊢
  have gen : ∀ (bs : Nat → AB) (n : Nat) (K : Slots → AH → Prop), doM P S m d T ⟨bs, n⟩ K →
      match aop P (aeval T) bs n o.op with
      | some (.val v e) => K (put T d v) ((⟨bs, n⟩ : AH).app e)
      | some (.call f args) => if decide (kindOf S.quiet o.op = .quiet) then Acalls P S f args ⟨roAll bs, n⟩ fun v _ => v.flatT = true ∧ K (put T d v) ⟨bs, n⟩ else Acalls P S f args ⟨bs, n⟩ fun v H' => K (put T d v) H'
      | none => False := by
    intro bs n K hd
    cases hc : m.isCall with
    | false =>
      rw [cOpc_val hm hc]
      rw [doM_val hc] at hd
      split at hd
      · rename_i v e hv; simp only [hv]; exact hd
      · exact hd.elim
    | true =>
      have h' := hm
      unfold cOpc at h'
      split at h'
      · rename_i fo args ts heq
        split at h'
        · rename_i a ha
          split at h'
          · rename_i f
            simp only [Option.some.injEq] at h'; subst h'
            simp only [heq, aop, aeval, cXs_ok ha T, List.nil_append, List.append_nil, call_kind]
            cases hqf : S.quiet f with
            | true => simp only [hqf, if_true, doM] at hd; simpa using hd
            | false => simp only [hqf, Bool.false_eq_true, if_false, doM] at hd; simpa using hd
          · rename_i hne
            simp only [Option.map_eq_some_iff] at h'
            obtain ⟨x, hx, rfl⟩ := h'
            have hk : decide (kindOf S.quiet o.op = .quiet) = false := by
              rw [heq]
              cases fo with
              | func f => exact absurd rfl (hne f)
              | _ => rfl
            rw [hk]
            simp only [heq, aop, cX_ok hx T, cXs_ok ha T, Bool.false_eq_true, if_false]
            simp only [doM] at hd
            split at hd
            · rename_i f fa fb hv
              simp only [hv]; exact hd
            · exact hd.elim
        · cases h'
      · split at h'
        · split at h'
          · cases h'
          · simp only [Option.some.injEq] at h'; subst h'
            simp_all
        · cases h'
  unfold doD at h
  rw [hide_eq]
  cases hk : kindOf S.quiet o.op with
  | quiet =>
    simp only [hk] at h ⊢
    obtain ⟨h1, h2⟩ := h
    have h3 := gen _ _ _ h2
    have h4 := prot_ok ho hp hm h1
    cases ha : aop P (aeval T) (hideL (dBlk n0 T0 (hidRanks S.quiet ops i) (if isWriteAt S.quiet ops i then looseRoots ops i else [])) H.g) H.n o.op with
    | none => rw [ha] at h3; exact h3
    | some r =>
      rw [ha] at h3
      cases r with
      | val v e => exact ⟨h4, h3⟩
      | call f args => simp only [hk, decide_true, if_true] at h3; exact h3
  | new =>
    simp only [hk] at h ⊢
    have h3 := gen _ _ _ h
    cases ha : aop P (aeval T) (hideL (dBlk n0 T0 (hidRanks S.quiet ops i) (if isWriteAt S.quiet ops i then looseRoots ops i else [])) H.g) (n0 + rank S.quiet ops i) o.op with
    | none => rw [ha] at h3; exact h3
    | some r =>
      obtain ⟨v, x, rfl⟩ := new_form hk ha
      rw [ha] at h3
      simp only [AH.app, applyWs, upd_same] at h3
      exact h3
  | write =>
    simp only [hk] at h ⊢
    have h3 := gen _ _ _ h
    cases ha : aop P (aeval T) (hideL (dBlk n0 T0 (hidRanks S.quiet ops i) (if isWriteAt S.quiet ops i then looseRoots ops i else [])) H.g) H.n o.op with
    | none => rw [ha] at h3; exact h3
    | some r =>
      rw [ha] at h3
      cases r with
      | val v e => simp only [rest_eq]; exact h3
      | call f args =>
        simp only [hk, reduceCtorEq, decide_false, Bool.false_eq_true, if_false] at h3
        simp only [rest_eq]; exact h3

theorem evDO_ok {ops : Array Oper} {n0 : Nat} {T0 : Slots} : ∀ (l : List (Nat × Oper)), (∀ p ∈ l, ops[p.1]? = some p.2) → ∀ {xs : List DI}, allOf (cDItem P S sz ops) l = some xs → ∀ {T : Slots} {H : AH} {Q : Slots → AH → Prop}, evDO P S n0 T0 xs T H Q → evD P S sz ops n0 (keepOff ops T0) l T H Q
  | [], _, xs, h, T, H, Q, e => by simp only [allOf, Option.some.injEq] at h; subst h; exact e
  | (i, o) :: l, hl0, xs, h, T, H, Q, e => by
    simp only [allOf] at h
    cases hx : cDItem P S sz ops (i, o) with
    | none => rw [hx] at h; cases h
    | some x =>
      cases hl : allOf (cDItem P S sz ops) l with
      | none => rw [hx, hl] at h; cases h
      | some xs' =>
        rw [hx, hl] at h
        simp only [Option.some.injEq] at h; subst h
        have ho := hl0 (i, o) List.mem_cons_self
        have ih := fun {T H Q} => evDO_ok (n0 := n0) (T0 := T0) l (fun p hp => hl0 p (List.mem_cons_of_mem _ hp)) hl (T := T) (H := H) (Q := Q)
        unfold cDItem at hx
        split at hx
        · rename_i mi pr hmi hpr
          simp only [Option.some.injEq] at hx; subst hx
          unfold cOper at hmi
          split at hmi
          · rename_i hdst
            split at hmi
            · rename_i hg
              simp only [Option.map_eq_some_iff] at hmi
              obtain ⟨m, hm, rfl⟩ := hmi
              simp only [evDO] at e
              exact doD_ok ho hpr hm hdst (by unfold Region.wanted; rw [hg]) (doD_mono (fun T H h => ih h) e)
            · rename_i j w hg
              split at hmi
              · rename_i d m hd hm
                simp only [Option.some.injEq] at hmi; subst hmi
                simp only [evDO] at e
                split at e
                · rename_i b hb
                  have hy : ayield ops T j = some b := by simp only [ayield, hd, hb]
                  by_cases hbw : b = w
                  · have hw : Region.wanted o (ayield ops T) = true := by have hg' : o.guard = some (j, w) := hg; simp [Region.wanted, hg', hy, hbw]
                    exact doD_ok ho hpr hm hdst hw (doD_mono (fun T H h => ih h) (e.1 hbw))
                  · have hbn : b = !w := by cases b <;> cases w <;> simp_all
                    have hw : Region.wanted o (ayield ops T) = false := by have hg' : o.guard = some (j, w) := hg; simp [Region.wanted, hg', hy, hbn]
                    simp only [evD, hdst, hw, if_true, Bool.false_eq_true, if_false]
                    exact ih (e.2 hbn)
                · exact e.elim
              · cases hmi
          · cases hmi
        · cases hx

theorem evM_mono : ∀ (c : MC) {T : Slots} {H : AH} {Q Q' : Post}, (∀ e T H, Q e T H → Q' e T H) → evM P S c T H Q → evM P S c T H Q' := by
  intro c
  induction c with
  | skip => intro T H Q Q' hq h; exact hq _ _ _ h
  | exit id => intro T H Q Q' hq h; exact hq _ _ _ h
  | ret => intro T H Q Q' hq h; exact hq _ _ _ h
  | ops l => intro T H Q Q' hq h; exact evMO_mono l (hq _) h
  | dops R l => intro T H Q Q' hq h; exact evDO_mono l (hq _) h
  | seq x y ihx ihy => intro T H Q Q' hq h; exact ihx (AE.then_mono (fun T H h => ihy hq h) hq) h
  | cond c x y ihx ihy =>
    intro T H Q Q' hq h
    simp only [evM] at h ⊢
    split at h
    · exact ⟨fun hb => ihx hq (h.1 hb), fun hb => ihy hq (h.2 hb)⟩
    · exact h.elim
  | block id c ih => intro T H Q Q' hq h; exact ih (AE.inBlock_mono hq) h
  | loop c ih =>
    intro T H Q Q' hq h
    obtain ⟨k, h⟩ := h
    have key : ∀ k {T : Slots} {H : AH}, evL (evM P S c) Q k T H → evL (evM P S c) Q' k T H := by
      intro k
      induction k with
      | zero => intro T H h; exact h
      | succ k ihk => intro T H h; exact ih (AE.then_mono (fun T H h => ihk h) hq) h
    exact ⟨k, key k h⟩
  | raw c => intro T H Q Q' hq h sz; exact evC_mono c hq (h sz)

theorem numbered_pos : ∀ (l : List Oper) (k : Nat) {p : Nat × Oper}, p ∈ numbered l k → k ≤ p.1 ∧ l[p.1 - k]? = some p.2
  | [], k, p, h => by simp [numbered] at h
  | o :: l, k, p, h => by
    simp only [numbered, List.mem_cons] at h
    rcases h with rfl | h
    · simp
    · obtain ⟨h1, h2⟩ := numbered_pos l (k + 1) h
      refine ⟨by omega, ?_⟩
      obtain ⟨j, hj⟩ : ∃ j, p.1 - k = j + 1 := ⟨p.1 - k - 1, by omega⟩
      rw [hj, List.getElem?_cons_succ, ← h2]
      congr 1; omega
theorem numbered_mem {ops : Array Oper} {p : Nat × Oper} (h : p ∈ numbered ops.toList 0) : ops[p.1]? = some p.2 := by
  have := (numbered_pos _ _ h).2
  simpa using this

theorem evMO_ok {q : FuncId → Bool} (hq : ∀ f, q f = (qd && S.quiet f)) : ∀ (l : List Oper) {ms : List MI}, allOf (cOper P q sz ops) l = some ms → ∀ {T : Slots} {H : AH} {Q : Slots → AH → Prop}, evMO P S ms T H Q → evP P S sz qd ops l T H Q
  | [], ms, h, T, H, Q, e => by simp only [allOf, Option.some.injEq] at h; subst h; exact e
  | o :: l, ms, h, T, H, Q, e => by
    simp only [allOf] at h
    cases ho : cOper P q sz ops o with
    | none => rw [ho] at h; cases h
    | some mi =>
      cases hl : allOf (cOper P q sz ops) l with
      | none => rw [ho, hl] at h; cases h
      | some ms' =>
        rw [ho, hl] at h
        simp only [Option.some.injEq] at h; subst h
        have ih := fun {T H Q} => evMO_ok hq l hl (T := T) (H := H) (Q := Q)
        unfold cOper at ho
        split at ho
        · rename_i hdst
          simp only [evP, hdst, if_true]
          split at ho
          · rename_i hg
            simp only [Option.map_eq_some_iff] at ho
            obtain ⟨m, hm, rfl⟩ := ho
            simp only [evMO] at e
            simp only [Region.wanted, hg, if_true]
            exact doM_ok hq hm (doM_mono (fun T H h => ih h) e)
          · rename_i j w hg
            split at ho
            · rename_i d m hd hm
              simp only [Option.some.injEq] at ho; subst ho
              simp only [evMO] at e
              split at e
              · rename_i b hb
                have hy : ayield ops T j = some b := by simp only [ayield, hd, hb]
                by_cases hbw : b = w
                · have hw : Region.wanted o (ayield ops T) = true := by simp [Region.wanted, hg, hy, hbw]
                  simp only [hw, if_true]
                  exact doM_ok hq hm (doM_mono (fun T H h => ih h) (e.1 hbw))
                · have hbn : b = !w := by cases b <;> cases w <;> simp_all
                  have hw : Region.wanted o (ayield ops T) = false := by simp [Region.wanted, hg, hy, hbn]
                  simp only [hw, Bool.false_eq_true, if_false]
                  exact ih (e.2 hbn)
              · exact e.elim
            · cases ho
        · cases ho

theorem evM_ok : ∀ (c : Code) {mc : MC}, cCode P S sz c = some mc → ∀ {T : Slots} {H : AH} {Q : Post}, evM P S mc T H Q → evC P S sz c T H Q := by
  intro c
  induction c with
  | skip => intro mc h T H Q e; simp only [cCode, Option.some.injEq] at h; subst h; exact e
  | label l => intro mc h T H Q e; simp only [cCode, Option.some.injEq] at h; subst h; exact e
  | exit id => intro mc h T H Q e; simp only [cCode, Option.some.injEq] at h; subst h; exact e
  | ret => intro mc h T H Q e; simp only [cCode, Option.some.injEq] at h; subst h; exact e
  | region id ops draw =>
    intro mc h T H Q e
    simp only [cCode] at h
    split at h
    · rename_i hdr
      subst hdr
      split at h
      · rename_i hp
        simp only [Option.map_eq_some_iff] at h
        obtain ⟨ms, hm, rfl⟩ := h
        exact c_draw hp (evMO_ok (qd := true) (fun f => by simp) _ hm e)
      · split at h
        · rename_i hd
          split at h
          · rename_i l hl
            simp only [Option.some.injEq] at h; subst h
            exact ⟨hd, evDO_ok _ (fun p hp => numbered_mem hp) hl e⟩
          · simp only [Option.some.injEq] at h; subst h; exact e sz
        · simp only [Option.some.injEq] at h; subst h; exact e sz
    · rename_i hdr
      have hdr : draw = false := by simpa using hdr
      subst hdr
      simp only [Option.map_eq_some_iff] at h
      obtain ⟨ms, hm, rfl⟩ := h
      exact c_text (evMO_ok (qd := false) (fun f => by simp) _ hm e)
  | seq a b iha ihb =>
    intro mc h T H Q e
    simp only [cCode] at h
    split at h
    · rename_i a' b' ha hb
      simp only [Option.some.injEq] at h; subst h
      simp only [evM] at e
      refine c_seq (iha ha (evM_mono a' (AE.then_mono (fun T H h => ihb hb h) fun _ _ _ h => h) e))
    · cases h
  | cond c x y ihx ihy =>
    intro mc h T H Q e
    simp only [cCode] at h
    split at h
    · rename_i c' x' y' hc hx hy
      simp only [Option.some.injEq] at h; subst h
      simp only [evM] at e
      split at e
      · rename_i b hb
        exact c_cond (by rw [cX_ok hc T, hb]) (fun h => ihx hx (e.1 h)) (fun h => ihy hy (e.2 h))
      · exact e.elim
    · cases h
  | block id c ih =>
    intro mc h T H Q e
    simp only [cCode, Option.map_eq_some_iff] at h
    obtain ⟨c', hc, rfl⟩ := h
    exact c_block (ih hc e)
  | loop c ih =>
    intro mc h T H Q e
    simp only [cCode, Option.map_eq_some_iff] at h
    obtain ⟨c', hc, rfl⟩ := h
    obtain ⟨k, e⟩ := e
    have key : ∀ k {T : Slots} {H : AH}, evL (evM P S c') Q k T H → evL (evC P S sz c) Q k T H := by
      intro k
      induction k with
      | zero => intro T H h; exact h
      | succ k ihk => intro T H h; exact ih hc (evM_mono c' (AE.then_mono (fun T H h => ihk h) fun _ _ _ h => h) h)
    exact ⟨k, key k e⟩
  | _ => intro mc h; simp [cCode] at h

/-- what is answered -/
def resM (T : Slots) (H : AH) : MR → Option AV
  | .t i => some (T i)
  | .l i agg n => if agg then aldN H.g n (T i) else ald1 H.g (T i)
def resMs (T : Slots) (H : AH) (rs : List MR) : Option AV :=
  match allOf (resM T H) rs with
  | some [v] => some v
  | some vs => some (.tup vs)
  | none => none
def RetQ (rs : List MR) (Q : AV → AH → Prop) (e : AE) (T : Slots) (H : AH) : Prop :=
  match e with
  | .exit _ => False
  | _ => match resMs T H rs with | some v => Q v H | none => False

theorem cRes_ok : ∀ {l : List ResultVar} {rs : List MR}, allOf (cRes P) l = some rs → ∀ (T : Slots) (H : AH), allOf (resA P T H) l = allOf (resM T H) rs
  | [], rs, h, T, H => by simp only [allOf, Option.some.injEq] at h; subst h; rfl
  | x :: l, rs, h, T, H => by
    simp only [allOf] at h
    cases hx : cRes P x with
    | none => rw [hx] at h; cases h
    | some m =>
      cases hl : allOf (cRes P) l with
      | none => rw [hx, hl] at h; cases h
      | some rs' =>
        rw [hx, hl] at h
        simp only [Option.some.injEq] at h; subst h
        have h1 : resA P T H x = resM T H m := by
          cases x with
          | tmp t => simp only [cRes, Option.some.injEq] at hx; subst hx; rfl
          | cell a t =>
            simp only [cRes, Option.map_eq_some_iff] at hx
            obtain ⟨i, hi, rfl⟩ := hx
            simp only [resA, resM, aload, hi, aldN, ald1]
            cases hagg : i.agg with
            | true =>
              simp only [if_true]
              generalize T a = v
              cases v <;> first | rfl | skip
              rename_i p; rcases p with _ | ⟨b, o⟩
              · rfl
              · simp only [hagg, if_true]
            | false =>
              simp only [Bool.false_eq_true, if_false]
              generalize T a = v
              cases v <;> first | rfl | skip
              rename_i p; rcases p with _ | ⟨b, o⟩
              · rfl
              · simp only [hagg, Bool.false_eq_true, if_false]
                kernel_rfl
        simp only [allOf, h1, cRes_ok hl T H]

/-- A CALL, out of the small code. -/
theorem Acalls.small {f : FuncId} {mf : MF} (hf : cFn P S f = some mf) {args : List AV} {H : AH} {Q : AV → AH → Prop} (hl : Nat.ble args.length mf.np = true) (h : evM P S mf.body (slots0 args) H (RetQ mf.res Q)) : Acalls P S f args H Q := by
  unfold cFn at hf
  split at hf
  · rename_i fn hs hfn
    split at hf
    · rename_i c hb
      split at hf
      · rename_i b r hc hr
        simp only [Option.some.injEq] at hf; subst hf
        refine Acalls.body hs hfn hb (Nat.le_of_ble_eq_true hl) ?_
        refine evC_mono c ?_ (evM_ok c hc h)
        intro e T H' hq
        unfold RetQ at hq
        cases e with
        | exit i => exact hq.elim
        | normal =>
          refine ⟨(by intro i h; cases h), ?_⟩
          simp only [resMs] at hq
          unfold aresults
          rw [cRes_ok hr]
          split at hq <;> simp_all
          split at * <;> simp_all
        | ret =>
          refine ⟨(by intro i h; cases h), ?_⟩
          simp only [resMs] at hq
          unfold aresults
          rw [cRes_ok hr]
          split at hq <;> simp_all
          split at * <;> simp_all
      · cases hf
    · cases hf
  · cases hf

/-! ### frames: what stands behind, as data -/
inductive KF where
  | seq (c : MC)
  | blk (id : Nat)
  | dq (n0 : Nat) (T0 : Slots) (H : AH) (l : List DI)
  | dn (n0 : Nat) (T0 : Slots) (H : AH) (b : Nat) (l : List DI)
  | dw (n0 : Nat) (T0 : Slots) (H : AH) (bs : List Nat) (l : List DI)

variable (P) (S) in
def kp : List KF → Post → Post
  | [], Q => Q
  | .dq n0 T0 H l :: k, Q => AE.then (fun T _ => evDO P S n0 T0 l T H (kp k Q .normal)) (kp k Q)
  | .dn n0 T0 H b l :: k, Q => AE.then (fun T H1 => evDO P S n0 T0 l T ⟨upd H.g b (H1.g b), H.n⟩ (kp k Q .normal)) (kp k Q)
  | .dw n0 T0 H bs l :: k, Q => AE.then (fun T H1 => evDO P S n0 T0 l T ⟨restL H.g bs H1.g, H1.n⟩ (kp k Q .normal)) (kp k Q)
  | .seq c :: k, Q => AE.then (fun T H => evM P S c T H (kp k Q)) (kp k Q)
  | .blk id :: k, Q => AE.inBlock id (kp k Q)

variable (P) (S) in
/-- code, and what stands behind -/
def Cs (c : MC) (k : List KF) (T : Slots) (H : AH) (Q : Post) : Prop := evM P S c T H (kp P S k Q)
variable (P) (S) in
/-- operations -/
def Os (l : List MI) (k : List KF) (T : Slots) (H : AH) (Q : Post) : Prop := evMO P S l T H (kp P S k Q .normal)
variable (P) (S) in
/-- operations of a region with blocks of its own -/
def Ds (n0 : Nat) (T0 : Slots) (l : List DI) (k : List KF) (T : Slots) (H : AH) (Q : Post) : Prop := evDO P S n0 T0 l T H (kp P S k Q .normal)
variable (P) (S) in
/-- a guard there -/
def Dg (n0 : Nat) (T0 : Slots) (w : Bool) (x : DI) (l : List DI) (k : List KF) (T : Slots) (H : AH) (Q : Post) : AV → Prop
  | .bool b => (b = w → Ds P S n0 T0 (⟨x.kd, x.hid, x.roots, x.prot, ⟨x.it.d, none, x.it.m⟩⟩ :: l) k T H Q) ∧ (b = !w → Ds P S n0 T0 l k (put T x.it.d .undef) H Q)
  | _ => False
variable (P) (S) in
/-- an end of a part -/
def Xs (e : AE) (k : List KF) (T : Slots) (H : AH) (Q : Post) : Prop := kp P S k Q e T H
variable (P) (S) in
/-- behind a call -/
def Ks (d : Option Nat) (l : List MI) (k : List KF) (T : Slots) (Q : Post) (v : AV) (H : AH) : Prop := Os P S l k (put T d v) H Q
variable (P) (S) in
/-- behind a quiet call -/
def Kq (d : Option Nat) (l : List MI) (k : List KF) (T : Slots) (H : AH) (Q : Post) (v : AV) (_ : AH) : Prop := v.flatT = true ∧ Os P S l k (put T d v) H Q
variable (P) (S) in
/-- an operation's outcome -/
def Rs (d : Option Nat) (l : List MI) (k : List KF) (T : Slots) (H : AH) (Q : Post) : Option ARes → Prop
  | some (.val v e) => Os P S l k (put T d v) (H.app e) Q
  | _ => False
variable (P) (S) in
/-- a guard -/
def Gs (w : Bool) (i : MI) (l : List MI) (k : List KF) (T : Slots) (H : AH) (Q : Post) : AV → Prop
  | .bool b => (b = w → Os P S (⟨i.d, none, i.m⟩ :: l) k T H Q) ∧ (b = !w → Os P S l k (put T i.d .undef) H Q)
  | _ => False
variable (P) (S) in
/-- a test -/
def Is (a b : MC) (k : List KF) (T : Slots) (H : AH) (Q : Post) : AV → Prop
  | .bool c => (c = true → Cs P S a k T H Q) ∧ (c = false → Cs P S b k T H Q)
  | _ => False

variable {k : List KF} {T : Slots} {H : AH} {Q : Post} {l : List MI} {d : Option Nat}

theorem Cs_skip : Cs P S .skip k T H Q = Xs P S .normal k T H Q := _root_.id rfl
theorem Cs_ops : Cs P S (.ops l) k T H Q = Os P S l k T H Q := _root_.id rfl
theorem Cs_seq {a b : MC} : Cs P S (.seq a b) k T H Q = Cs P S a (.seq b :: k) T H Q := _root_.id rfl
theorem Cs_cond {x : MX} {a b : MC} : Cs P S (.cond x a b) k T H Q = Is P S a b k T H Q (x.val T) := _root_.id rfl
theorem Cs_block {id : Nat} {c : MC} : Cs P S (.block id c) k T H Q = Cs P S c (.blk id :: k) T H Q := _root_.id rfl
theorem Cs_exit {id : Nat} : Cs P S (.exit id) k T H Q = Xs P S (.exit id) k T H Q := _root_.id rfl
theorem Cs_ret : Cs P S .ret k T H Q = Xs P S .ret k T H Q := _root_.id rfl
theorem Cs_dops {R : Nat} {l : List DI} : Cs P S (.dops R l) k T H Q = Ds P S H.n T l k T ⟨H.g, H.n + R⟩ Q := _root_.id rfl
theorem Ds_nil {n0 : Nat} {T0 : Slots} : Ds P S n0 T0 [] k T H Q = Xs P S .normal k T H Q := _root_.id rfl
theorem Ds_q {n0 : Nat} {T0 : Slots} {hid roots : List Nat} {d : Option Nat} {m : MO} {l : List DI} : Ds P S n0 T0 (⟨.quiet, hid, roots, none, ⟨d, none, m⟩⟩ :: l) k T H Q = Os P S [⟨d, none, m⟩] (.dq n0 T0 H l :: k) T ⟨hideL (dBlk n0 T0 hid roots) H.g, H.n⟩ Q := by
  unfold Ds evDO doD Os evMO
  simp only [protM, true_and]
  rfl
theorem Ds_qp {n0 : Nat} {T0 : Slots} {hid roots : List Nat} {r : Nat} {d : Option Nat} {m : MO} {l : List DI} : Ds P S n0 T0 (⟨.quiet, hid, roots, some r, ⟨d, none, m⟩⟩ :: l) k T H Q = (protM T0 T (some r) m ∧ Os P S [⟨d, none, m⟩] (.dq n0 T0 H l :: k) T ⟨hideL (dBlk n0 T0 hid roots) H.g, H.n⟩ Q) := _root_.id rfl
theorem Ds_n {n0 : Nat} {T0 : Slots} {hid roots : List Nat} {r : Nat} {pr : Option Nat} {d : Option Nat} {m : MO} {l : List DI} : Ds P S n0 T0 (⟨.new r, hid, roots, pr, ⟨d, none, m⟩⟩ :: l) k T H Q = Os P S [⟨d, none, m⟩] (.dn n0 T0 H (n0 + r) l :: k) T ⟨hideL (dBlk n0 T0 hid roots) H.g, n0 + r⟩ Q := _root_.id rfl
theorem Ds_w {n0 : Nat} {T0 : Slots} {hid roots : List Nat} {pr : Option Nat} {d : Option Nat} {m : MO} {l : List DI} : Ds P S n0 T0 (⟨.write, hid, roots, pr, ⟨d, none, m⟩⟩ :: l) k T H Q = Os P S [⟨d, none, m⟩] (.dw n0 T0 H (dBlk n0 T0 hid roots) l :: k) T ⟨hideL (dBlk n0 T0 hid roots) H.g, H.n⟩ Q := _root_.id rfl
theorem Ds_g {n0 : Nat} {T0 : Slots} {kd : DK} {hid roots : List Nat} {pr : Option Nat} {d : Option Nat} {j : Nat} {w : Bool} {m : MO} {l : List DI} : Ds P S n0 T0 (⟨kd, hid, roots, pr, ⟨d, some (j, w), m⟩⟩ :: l) k T H Q = Dg P S n0 T0 w ⟨kd, hid, roots, pr, ⟨d, none, m⟩⟩ l k T H Q (T j) := by
  show (match T j with
      | .bool b => (b = w → doD P S n0 T0 ⟨kd, hid, roots, pr, ⟨d, some (j, w), m⟩⟩ T H fun T H => evDO P S n0 T0 l T H (kp P S k Q .normal)) ∧ (b = !w → evDO P S n0 T0 l (put T d .undef) H (kp P S k Q .normal))
      | _ => False) = _
  unfold Dg
  cases T j <;> rfl
theorem Xs_dq {n0 : Nat} {T0 : Slots} {H0 : AH} {l : List DI} : Xs P S .normal (.dq n0 T0 H0 l :: k) T H Q = Ds P S n0 T0 l k T H0 Q := _root_.id rfl
theorem Xs_dn {n0 : Nat} {T0 : Slots} {H0 : AH} {b : Nat} {l : List DI} : Xs P S .normal (.dn n0 T0 H0 b l :: k) T H Q = Ds P S n0 T0 l k T ⟨upd H0.g b (H.g b), H0.n⟩ Q := _root_.id rfl
theorem Xs_dw {n0 : Nat} {T0 : Slots} {H0 : AH} {bs : List Nat} {l : List DI} : Xs P S .normal (.dw n0 T0 H0 bs l :: k) T H Q = Ds P S n0 T0 l k T ⟨restL H0.g bs H.g, H.n⟩ Q := _root_.id rfl
theorem Dg_on {n0 : Nat} {T0 : Slots} {w : Bool} {kd : DK} {hid roots : List Nat} {pr : Option Nat} {d : Option Nat} {g : Option (Nat × Bool)} {m : MO} {l : List DI} : Dg P S n0 T0 w ⟨kd, hid, roots, pr, ⟨d, g, m⟩⟩ l k T H Q (.bool w) = Ds P S n0 T0 (⟨kd, hid, roots, pr, ⟨d, none, m⟩⟩ :: l) k T H Q := by simp [Dg]
theorem Dg_off1 {n0 : Nat} {T0 : Slots} {x : DI} {l : List DI} : Dg P S n0 T0 true x l k T H Q (.bool false) = Ds P S n0 T0 l k (put T x.it.d .undef) H Q := by simp [Dg]
theorem Dg_off2 {n0 : Nat} {T0 : Slots} {x : DI} {l : List DI} : Dg P S n0 T0 false x l k T H Q (.bool true) = Ds P S n0 T0 l k (put T x.it.d .undef) H Q := by simp [Dg]
theorem Dg_split {n0 : Nat} {T0 : Slots} {w : Bool} {x : DI} {l : List DI} {b : Bool} (h1 : b = true → Dg P S n0 T0 w x l k T H Q (.bool b)) (h2 : b = false → Dg P S n0 T0 w x l k T H Q (.bool b)) : Dg P S n0 T0 w x l k T H Q (.bool b) := by
  cases hb : b with
  | true => subst hb; exact h1 rfl
  | false => subst hb; exact h2 rfl
theorem dBlk_nil {n0 : Nat} {T0 : Slots} : dBlk n0 T0 [] [] = [] := _root_.id rfl
theorem dBlk_h {n0 : Nat} {T0 : Slots} {r : Nat} {hid roots : List Nat} : dBlk n0 T0 (r :: hid) roots = (n0 + r) :: dBlk n0 T0 hid roots := _root_.id rfl
theorem dBlk_r {n0 : Nat} {T0 : Slots} {r b o : Nat} {roots : List Nat} (h : T0 r = .ptr (some (b, o))) : dBlk n0 T0 [] (r :: roots) = b :: dBlk n0 T0 [] roots := by
  simp [dBlk, h, bkOf]
theorem hideL_nil {g : Nat → AB} : hideL [] g = g := _root_.id rfl
theorem hideL_c {g : Nat → AB} {b : Nat} {bs : List Nat} : hideL (b :: bs) g = upd (hideL bs g) b .dead := _root_.id rfl
theorem restL_nil {g g1 : Nat → AB} : restL g [] g1 = g1 := _root_.id rfl
theorem restL_c {g g1 : Nat → AB} {b : Nat} {bs : List Nat} : restL g (b :: bs) g1 = upd (restL g bs g1) b (g b) := _root_.id rfl
theorem protM_1 {T0 T : Slots} {r : Nat} {a : MX} : protM T0 T (some r) (.ld1 a) = (bkOf (a.val T) = bkOf (T0 r)) := _root_.id rfl
theorem protM_N {T0 T : Slots} {r n : Nat} {a : MX} : protM T0 T (some r) (.ldN n a) = (bkOf (a.val T) = bkOf (T0 r)) := _root_.id rfl
theorem bkOf_p {b o : Nat} : bkOf (.ptr (some (b, o))) = some b := _root_.id rfl
theorem Th_n {n : Slots → AH → Prop} {Q : Post} : AE.then n Q .normal T H = n T H := _root_.id rfl
theorem Th_e {n : Slots → AH → Prop} {i : Nat} : AE.then n (kp P S k Q) (.exit i) T H = Xs P S (.exit i) k T H Q := _root_.id rfl
theorem Th_r {n : Slots → AH → Prop} : AE.then n (kp P S k Q) .ret T H = Xs P S .ret k T H Q := _root_.id rfl
theorem Xs_nil {e : AE} : Xs P S e [] T H Q = Q e T H := _root_.id rfl
theorem Xs_seqN {c : MC} : Xs P S .normal (.seq c :: k) T H Q = Cs P S c k T H Q := _root_.id rfl
theorem Xs_seqE {c : MC} {i : Nat} : Xs P S (.exit i) (.seq c :: k) T H Q = Xs P S (.exit i) k T H Q := _root_.id rfl
theorem Xs_seqR {c : MC} : Xs P S .ret (.seq c :: k) T H Q = Xs P S .ret k T H Q := _root_.id rfl
theorem Xs_blkN {i : Nat} : Xs P S .normal (.blk i :: k) T H Q = Xs P S .normal k T H Q := _root_.id rfl
theorem Xs_blkR {i : Nat} : Xs P S .ret (.blk i :: k) T H Q = Xs P S .ret k T H Q := _root_.id rfl
theorem Xs_blkE {i : Nat} : Xs P S (.exit i) (.blk i :: k) T H Q = Xs P S .normal k T H Q := by simp [Xs, kp, AE.inBlock]
theorem Xs_blkO {i j : Nat} (h : (i == j) = false) : Xs P S (.exit i) (.blk j :: k) T H Q = Xs P S (.exit i) k T H Q := by
  have : ¬ i = j := by simpa using h
  simp [Xs, kp, AE.inBlock, this]
theorem Os_nil : Os P S [] k T H Q = Xs P S .normal k T H Q := _root_.id rfl
theorem Os_call {f : FuncId} {args : List MX} : Os P S (⟨d, none, .call f args⟩ :: l) k T H Q = Acalls P S f (MX.vals T args) H (Ks P S d l k T Q) := _root_.id rfl
theorem Os_callq {f : FuncId} {args : List MX} : Os P S (⟨d, none, .callq f args⟩ :: l) k T H Q = Acalls P S f (MX.vals T args) ⟨roAll H.g, H.n⟩ (Kq P S d l k T H Q) := _root_.id rfl
theorem Os_guard {j : Nat} {w : Bool} {m : MO} : Os P S (⟨d, some (j, w), m⟩ :: l) k T H Q = Gs P S w ⟨d, none, m⟩ l k T H Q (T j) := by
  unfold Os evMO Gs
  cases T j <;> rfl
theorem Os_op {m : MO} (h : m.isCall = false) : Os P S (⟨d, none, m⟩ :: l) k T H Q = Rs P S d l k T H Q (mop P T H.g H.n m) := by
  have e : Os P S (⟨d, none, m⟩ :: l) k T H Q = (match mop P T H.g H.n m with | some (.val v e) => Os P S l k (put T d v) (H.app e) Q | _ => False) := by
    cases m <;> first | rfl | (simp [MO.isCall] at h)
  rw [e]
  unfold Rs
  rfl
variable (P) (S) in
/-- a call of a value -/
def Vs (d : Option Nat) (l : List MI) (k : List KF) (T : Slots) (H : AH) (Q : Post) (args : List AV) : AV → Prop
  | .fn f a b => Acalls P S f (a ++ args ++ b) H (Ks P S d l k T Q)
  | _ => False
theorem Os_callv {x : MX} {args : List MX} : Os P S (⟨d, none, .callv x args⟩ :: l) k T H Q = Vs P S d l k T H Q (MX.vals T args) (x.val T) := by
  show (match x.val T with | .fn f a b => Acalls P S f (a ++ MX.vals T args ++ b) H (Ks P S d l k T Q) | _ => False) = _
  unfold Vs
  cases x.val T <;> rfl
theorem Vs_fn {args : List AV} {f : FuncId} {a b : List AV} : Vs P S d l k T H Q args (.fn f a b) = Acalls P S f (a ++ args ++ b) H (Ks P S d l k T Q) := _root_.id rfl
theorem Rs_val {v : AV} {e : Eff} : Rs P S d l k T H Q (some (.val v e)) = Os P S l k (put T d v) (H.app e) Q := _root_.id rfl
theorem Rs_pure {v : AV} : Rs P S d l k T H Q (some (.pure v)) = Os P S l k (put T d v) H Q := _root_.id rfl
theorem Ks_eq {v : AV} : Ks P S d l k T Q v H = Os P S l k (put T d v) H Q := _root_.id rfl
theorem Gs_on {w : Bool} {i : MI} : Gs P S w i l k T H Q (.bool w) = Os P S (⟨i.d, none, i.m⟩ :: l) k T H Q := by
  simp [Gs]
theorem Gs_off1 {i : MI} : Gs P S true i l k T H Q (.bool false) = Os P S l k (put T i.d .undef) H Q := by simp [Gs]
theorem Gs_off2 {i : MI} : Gs P S false i l k T H Q (.bool true) = Os P S l k (put T i.d .undef) H Q := by simp [Gs]
theorem Is_t {a b : MC} : Is P S a b k T H Q (.bool true) = Cs P S a k T H Q := by simp [Is]
theorem Is_f {a b : MC} : Is P S a b k T H Q (.bool false) = Cs P S b k T H Q := by simp [Is]
theorem Gs_split {w : Bool} {i : MI} {b : Bool} (h1 : b = true → Gs P S w i l k T H Q (.bool b)) (h2 : b = false → Gs P S w i l k T H Q (.bool b)) : Gs P S w i l k T H Q (.bool b) := by
  cases hb : b with
  | true => subst hb; exact h1 rfl
  | false => subst hb; exact h2 rfl
theorem Is_split {a c : MC} {b : Bool} (h1 : b = true → Is P S a c k T H Q (.bool b)) (h2 : b = false → Is P S a c k T H Q (.bool b)) : Is P S a c k T H Q (.bool b) := by
  cases hb : b with
  | true => subst hb; exact h1 rfl
  | false => subst hb; exact h2 rfl

/-- A LOOP: what holds ahead of each round, with a number that goes down. -/
theorem Cs_loop {c : MC} (I : Nat → Slots → AH → Prop) {n : Nat} (h0 : I n T H)
    (hr : ∀ n T H, I n T H → Cs P S c [] T H (AE.then (fun T' H' => ∃ m, m < n ∧ I m T' H') (kp P S k Q))) : Cs P S (.loop c) k T H Q := by
  have key : ∀ n T H, I n T H → evL (evM P S c) (kp P S k Q) (n + 1) T H := by
    intro n
    induction n using Nat.strongRecOn with
    | _ n ih =>
      intro T H h
      refine evM_mono c (AE.then_mono ?_ fun _ _ _ h => h) (hr n T H h)
      rintro T' H' ⟨m, hm, hI⟩
      have h1 := ih m hm T' H' hI
      have up : ∀ (k' : Nat) {T : Slots} {H : AH}, evL (evM P S c) (kp P S k Q) k' T H → ∀ j, k' ≤ j → evL (evM P S c) (kp P S k Q) j T H := by
        intro k'
        induction k' with
        | zero => intro T H h; exact h.elim
        | succ k' ihk =>
          intro T H h j hj
          obtain ⟨j, rfl⟩ : ∃ i, j = i + 1 := ⟨j - 1, by omega⟩
          exact evM_mono c (AE.then_mono (fun T H h => ihk h j (by omega)) fun _ _ _ h => h) h
      exact up (m + 1) h1 n (by omega)
  exact ⟨n + 1, key n T H h0⟩

/-- a function's walk begins -/
theorem Acalls.go {f : FuncId} {np : Nat} {body : MC} {res : List MR} (hf : cFn P S f = some ⟨np, body, res⟩) {args : List AV} {H : AH} {Q : AV → AH → Prop} (hl : Nat.ble args.length np = true) (h : Cs P S body [] (slots0 args) H (RetQ res Q)) : Acalls P S f args H Q :=
  Acalls.small hf hl h

end
end Go.Eng
