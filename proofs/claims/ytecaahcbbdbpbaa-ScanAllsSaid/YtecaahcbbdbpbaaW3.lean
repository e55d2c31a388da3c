/-
  E25: The engine, part 25: whatever the abstract call answers, the model's call answers.
  E24: The engine, part 24: regions that draw, in the world; and so: whatever the abstract call answers, the model's call answers.
  E23: The engine, part 23: regions that draw: whatever comes first may be taken first.
  E22: The engine, part 22: regions that draw: every order comes to what the text's order comes to.
  E21: The engine, part 21: regions that draw: what may come first may be taken first.
  E20: The engine, part 20: regions that draw: the operations commute, as effects on the abstract heap.
  E19: The engine, part 19: code and calls (regions that draw: the next part gives 'draw_sound', taken here as a premise).
  E18: The engine, part 18: regions in the text's order.
-/
import Derived.Test.YtecaahcbbdbpbaaW2
import Derived.LoopN
namespace Go.Eng
set_option linter.unusedVariables false
set_option linter.unusedSimpArgs false

/-- a function can be entered -/
def Enters (P : Program) (f : FuncId) : Prop := ∀ (args : Array Value) (w : World), (callFunc f args).run P w = .ok (.enter f args) w

/-- what a call leaves -/
def CallPost (μ : Mu) (ok : Ok) (H : AH) (w : World) (v : AV) (H' : AH) (e : Ending) (w' : World) : Prop :=
  ∃ v' μ' ok', e = .returned v' ∧ VRel μ' ok' v v' ∧ Sim μ' ok' H' w' ∧ Step H.n μ ok H w μ' ok' H' w'

/-- calls that are answered as the model answers them -/
def Sound (P : Program) (cf : CallF) : Prop :=
  ∀ f args H v H', cf f args H = some (v, H') → Enters P f ∧ ∀ μ ok w (args' : Array Value), Sim μ ok H w → VRels μ ok args args'.toList → Calls P f args' w (CallPost μ ok H w v H')

/-- a state of a walk, begun at (μ0, ok0, H0, w0) -/
def St (μ0 : Mu) (ok0 : Ok) (H0 : AH) (w0 : World) (sz : Nat) (T : Slots) (H : AH) (a : Act) (w : World) : Prop :=
  ∃ μ ok, TRel μ ok sz T a.tmps ∧ Sim μ ok H w ∧ Step H0.n μ0 ok0 H0 w0 μ ok H w ∧ a.defers = []

section
variable {P : Program} {cf : CallF} {sz : Nat} {ops : Array Oper} {μ0 : Mu} {ok0 : Ok} {H0 : AH} {w0 : World}

theorem put_defers (a : Act) (d : Option Tmp) (v : Value) : (a.put d v).defers = a.defers := by cases d <;> rfl

theorem yield_eq {μ : Mu} {ok : Ok} {T : Slots} {tmps : Array Value} (r : TRel μ ok sz T tmps) (j : Nat) : yielded ops tmps j = ayield ops T j := by
  unfold yielded ayield
  cases hd : (ops[j]?).bind (·.dst) with
  | none => simp
  | some d =>
    simp only [Option.bind_some]
    have hr := r.2 d
    by_cases hlt : d < tmps.size
    · have : tmps.getD d undef = tmps[d] := by simp [Array.getD, hlt]
      rw [this] at hr
      rw [Array.getElem?_eq_getElem hlt]
      generalize tmps[d] = u at hr
      generalize T d = x at hr
      cases x with
      | bool b => simp only [VRel] at hr; subst hr; rfl
      | ptr a => cases a <;> simp only [VRel] at hr <;> first | (subst hr; rfl) | (obtain ⟨_, rfl⟩ := hr; rfl)
      | map a => cases a <;> simp only [VRel] at hr <;> first | (subst hr; rfl) | (obtain ⟨_, rfl⟩ := hr; rfl)
      | slc a l c s => cases a <;> simp only [VRel] at hr <;> first | (obtain ⟨_, _, _, rfl⟩ := hr; rfl) | (obtain ⟨_, _, rfl, _⟩ := hr; rfl)
      | fn f x y => simp only [VRel] at hr; obtain ⟨_, _, rfl, _⟩ := hr; rfl
      | agg cs => simp only [VRel] at hr; obtain ⟨_, rfl, _⟩ := hr; rfl
      | tup cs => simp only [VRel] at hr; obtain ⟨_, rfl, _⟩ := hr; rfl
      | _ => simp only [VRel] at hr; subst hr; rfl
    · have : tmps.getD d undef = undef := by simp [Array.getD, hlt]
      rw [this] at hr
      rw [Array.getElem?_eq_none (Nat.not_lt.1 hlt)]
      generalize T d = x at hr
      cases x with
      | bool b => simp only [VRel, undef] at hr; cases hr
      | _ => rfl

theorem wanted_eq {μ : Mu} {ok : Ok} {T : Slots} {tmps : Array Value} (r : TRel μ ok sz T tmps) (o : Oper) : Region.wanted o (yielded ops tmps) = Region.wanted o (ayield ops T) := by
  have : yielded ops tmps = ayield ops T := funext fun j => yield_eq r j
  rw [this]

theorem app_eq (H : AH) (e : Eff) : H.app e = H.appAt H.n (H.n + 1) e := by
  unfold AH.app AH.appAt; cases e.new <;> rfl

/-- ONE OPERATION IN ITS TURN. -/
theorem ostep_sound (hcf : Sound P cf) {o : Oper} {T T' : Slots} {H H' : AH} (h : ostep P cf sz ops o T H = some (T', H')) {a : Act} {w : World} (st : St μ0 ok0 H0 w0 sz T H a w) {K : Act → World → Prop} {Q : Exit → Act → World → Prop}
    (hK : ∀ a' w', St μ0 ok0 H0 w0 sz T' H' a' w' → K a' w') : if Region.wanted o (yielded ops a.tmps) then o.wp P a w K Q else K (a.put o.dst undef) w := by
  obtain ⟨μ, ok, hT, S, hst, hdef⟩ := st
  rw [wanted_eq hT o]
  unfold ostep at h
  split at h
  · rename_i hd
    split at h
    · rename_i hw
      rw [if_pos hw]
      split at h
      · rename_i v e ha
        simp only [Option.some.injEq, Prod.mk.injEq] at h
        obtain ⟨rfl, rfl⟩ := h
        have hf := aop_sound (N := H0.n) (n' := H.n + 1) S (S.top _ (Nat.le_refl _)) hst.n (Nat.le_succ _) (Nat.lt_succ_self _) (aeval_rel hT) ha
        obtain ⟨v', w', hu, μ', ok', hv, hs, hstep, _⟩ := hf
        rw [← app_eq] at hs hstep
        have hst' : St μ0 ok0 H0 w0 sz (put T o.dst v) (H.app e) (a.put o.dst v') w' :=
          ⟨μ', ok', (hT.mono hstep.old).put hd hv, hs, hst.trans hstep (Nat.le_refl _), by rw [put_defers, hdef]⟩
        rcases hu with hu | ⟨hu, rfl⟩
        · unfold Oper.wp; rw [hu]; exact hK _ _ hst'
        · unfold Oper.wp; rw [hu]; exact hK _ _ hst'
      · rename_i f args ha
        split at h
        · rename_i v H1 hc
          simp only [Option.some.injEq, Prod.mk.injEq] at h
          obtain ⟨rfl, rfl⟩ := h
          have hf := aop_sound (N := H0.n) (n' := H.n + 1) S (S.top _ (Nat.le_refl _)) hst.n (Nat.le_succ _) (Nat.lt_succ_self _) (aeval_rel hT) ha
          obtain ⟨args', hrun, hargs⟩ := hf
          obtain ⟨hent, hcall⟩ := hcf _ _ _ _ _ hc
          unfold Oper.wp
          rw [hrun, hent args' w, Oper.upon_enter]
          refine (hcall μ ok w args' S hargs).mono ?_
          rintro e w' ⟨v', μ', ok', rfl, hv, hs, hstep⟩
          exact hK _ _ ⟨μ', ok', (hT.mono hstep.old).put hd hv, hs, hst.trans hstep hst.n, by rw [put_defers, hdef]⟩
        · cases h
      · cases h
    · rename_i hw
      rw [if_neg hw]
      simp only [Option.some.injEq, Prod.mk.injEq] at h
      obtain ⟨rfl, rfl⟩ := h
      exact hK _ _ ⟨μ, ok, hT.put hd VRel.undef, S, hst, by rw [put_defers, hdef]⟩
  · cases h

theorem aops_sound (hcf : Sound P cf) {Q : Exit → Act → World → Prop} : ∀ (l : List Oper) (k : Nat) {T T' : Slots} {H H' : AH}, ops.toList.drop k = l → aops P cf sz ops l T H = some (T', H') → ∀ {a : Act} {w : World}, St μ0 ok0 H0 w0 sz T H a w →
    (∀ a' w', St μ0 ok0 H0 w0 sz T' H' a' w' → Q .normal a' w') → wpOps P ops Q (List.range' k l.length) a w
  | [], k, T, T', H, H', hl, h, a, w, st, hQ => by
    simp only [aops, Option.some.injEq, Prod.mk.injEq] at h
    obtain ⟨rfl, rfl⟩ := h
    exact hQ _ _ st
  | o :: l, k, T, T', H, H', hl, h, a, w, st, hQ => by
    simp only [aops] at h
    split at h
    · rename_i T1 H1 h1
      have hk : ops[k]? = some o := by
        have : (ops.toList.drop k)[0]? = some o := by rw [hl]; rfl
        simpa using this
      have hl' : ops.toList.drop (k + 1) = l := by
        rw [← List.drop_drop, hl]; rfl
      have := ostep_sound (ops := ops) hcf h1 st (K := wpOps P ops Q (List.range' (k + 1) l.length)) (Q := Q) fun a' w' st' => aops_sound hcf l (k + 1) hl' h st' hQ
      simp only [List.length_cons, List.range'_succ, wpOps, hk]
      split
      · rename_i hw; rw [if_pos hw] at this; exact .inl this
      · rename_i hw; rw [if_neg hw] at this; exact this
    · cases h

theorem region_sound (hcf : Sound P cf) {id : Nat} {Q : Exit → Act → World → Prop} {T T' : Slots} {H H' : AH} (h : aops P cf sz ops ops.toList T H = some (T', H')) {a : Act} {w : World} (st : St μ0 ok0 H0 w0 sz T H a w)
    (hQ : ∀ a' w', St μ0 ok0 H0 w0 sz T' H' a' w' → Q .normal a' w') : (Code.region id ops false).wp P Q a w := by
  refine wp_region ?_
  have := aops_sound hcf ops.toList 0 (by simp) h st hQ
  rw [List.range_eq_range']
  simpa using this

end
end Go.Eng
namespace Go.Eng
set_option linter.unusedVariables false
set_option linter.unusedSimpArgs false

section
variable {P : Program} {cf : CallF} {sz : Nat} {μ0 : Mu} {ok0 : Ok} {H0 : AH} {w0 : World}

def AE.conc : AE → Exit
  | .normal => .normal
  | .exit id => .exit id
  | .ret => .ret

/-- what is asked of a region that draws -/
def DrawSound (P : Program) (quiet : FuncId → Bool) (cf : CallF) : Prop :=
  ∀ (sz : Nat) (ops : Array Oper) (T T' : Slots) (H H' : AH) (μ0 : Mu) (ok0 : Ok) (H0 : AH) (w0 : World), adraw P quiet cf sz ops T H = some (T', H') → ∀ (id : Nat) (Q : Exit → Act → World → Prop) (a : Act) (w : World), St μ0 ok0 H0 w0 sz T H a w →
    (∀ a' w', St μ0 ok0 H0 w0 sz T' H' a' w' → Q .normal a' w') → (Code.region id ops true).wp P Q a w

theorem St.eval {T : Slots} {H : AH} {a : Act} {w : World} (st : St μ0 ok0 H0 w0 sz T H a w) {c : Operand} {b : Bool} (h : aeval T c = some (.bool b)) : a.eval c = .bool b := by
  obtain ⟨μ, ok, hT, _⟩ := st
  have := aeval_rel hT c _ h
  simpa only [VRel] using this

theorem acode_sound {quiet : FuncId → Bool} (hcf : Sound P cf) (hd : DrawSound P quiet cf) (lf : Nat) : ∀ (c : Code) {T T' : Slots} {H H' : AH} {e : AE}, acode P quiet cf sz lf c T H = some (e, T', H') → ∀ {Q : Exit → Act → World → Prop} {a : Act} {w : World}, St μ0 ok0 H0 w0 sz T H a w →
    (∀ a' w', St μ0 ok0 H0 w0 sz T' H' a' w' → Q e.conc a' w') → c.wp P Q a w := by
  intro c
  induction c with
  | skip =>
    intro T T' H H' e h Q a w st hQ
    simp only [acode, Option.some.injEq, Prod.mk.injEq] at h
    obtain ⟨rfl, rfl, rfl⟩ := h
    exact wp_skip (hQ _ _ st)
  | label l =>
    intro T T' H H' e h Q a w st hQ
    simp only [acode, Option.some.injEq, Prod.mk.injEq] at h
    obtain ⟨rfl, rfl, rfl⟩ := h
    exact wp_label (hQ _ _ st)
  | region id ops draw =>
    intro T T' H H' e h Q a w st hQ
    simp only [acode] at h
    split at h
    · rename_i T1 H1 h1
      simp only [Option.some.injEq, Prod.mk.injEq] at h
      obtain ⟨rfl, rfl, rfl⟩ := h
      cases draw with
      | true => exact hd sz ops T T1 H H1 μ0 ok0 H0 w0 (by simpa using h1) id Q a w st hQ
      | false => exact region_sound hcf (by simpa using h1) st hQ
    · cases h
  | seq x y ihx ihy =>
    intro T T' H H' e h Q a w st hQ
    simp only [acode] at h
    refine wp_seq ?_
    split at h
    · rename_i T1 H1 h1
      exact ihx h1 st fun a1 w1 st1 => ihy h st1 hQ
    · rename_i hne
      cases e with
      | normal => exact absurd h (hne _ _)
      | exit i => exact ihx h st hQ
      | ret => exact ihx h st hQ
  | cond c x y ihx ihy =>
    intro T T' H H' e h Q a w st hQ
    simp only [acode] at h
    split at h
    · rename_i hc; exact wp_cond_true (st.eval hc) (ihx h st hQ)
    · rename_i hc; exact wp_cond_false (st.eval hc) (ihy h st hQ)
    · cases h
  | block id c ih =>
    intro T T' H H' e h Q a w st hQ
    simp only [acode] at h
    refine wp_block ?_
    split at h
    · rename_i i T1 H1 h1
      simp only [Option.some.injEq, Prod.mk.injEq] at h
      obtain ⟨rfl, rfl, rfl⟩ := h
      refine ih h1 st fun a' w' st' => ?_
      have := hQ a' w' st'
      show if i = id then Q .normal a' w' else Q (.exit i) a' w'
      split
      · rename_i e; rw [if_pos e] at this; exact this
      · rename_i e; rw [if_neg e] at this; exact this
    · rename_i hne
      refine ih h st fun a' w' st' => ?_
      have := hQ a' w' st'
      cases e with
      | normal => exact this
      | exit i => exact absurd h (hne _ _ _)
      | ret => exact this
  | loop c ih =>
    intro T T' H H' e h Q a w st hQ
    simp only [acode] at h
    refine wp_loop_rounds lf ?_
    have key : ∀ k {T : Slots} {H : AH} {a : Act} {w : World}, aloop (acode P quiet cf sz lf c) k T H = some (e, T', H') → St μ0 ok0 H0 w0 sz T H a w → Code.rounds P c Q k a w := by
      intro k
      induction k with
      | zero => intro T H a w h; simp [aloop] at h
      | succ k ihk =>
        intro T H a w h st
        simp only [aloop] at h
        rw [rounds_succ]
        split at h
        · rename_i T1 H1 h1
          exact ih h1 st fun a1 w1 st1 => ihk h st1
        · rename_i hne
          cases e with
          | normal => exact absurd h (hne _ _)
          | exit i => exact ih h st hQ
          | ret => exact ih h st hQ
    exact key lf h st
  | exit id =>
    intro T T' H H' e h Q a w st hQ
    simp only [acode, Option.some.injEq, Prod.mk.injEq] at h
    obtain ⟨rfl, rfl, rfl⟩ := h
    exact wp_exit (hQ _ _ st)
  | ret =>
    intro T T' H H' e h Q a w st hQ
    simp only [acode, Option.some.injEq, Prod.mk.injEq] at h
    obtain ⟨rfl, rfl, rfl⟩ := h
    exact wp_ret (hQ _ _ st)
  | _ => intro T T' H H' e h; simp [acode] at h

theorem mapM_rel {α : Type} {w : World} {μ : Mu} {ok : Ok} (f : α → Sem Value) (g : α → Option AV) : ∀ (rs : List α) (vs : List AV), allOf g rs = some vs → (∀ r v, g r = some v → ∃ v', (f r).run P w = .ok v' w ∧ VRel μ ok v v') →
    ∃ vs' : List Value, (rs.mapM f).run P w = .ok vs' w ∧ VRels μ ok vs vs'
  | [], vs, h, _ => by simp only [allOf, Option.some.injEq] at h; subst h; exact ⟨[], by simp, by simp [VRels]⟩
  | r :: rs, vs, h, hf => by
    simp only [allOf] at h
    split at h
    · rename_i b bs h1 h2
      obtain rfl := Option.some.inj h
      obtain ⟨vs', e1, e2⟩ := mapM_rel f g rs bs h2 hf
      obtain ⟨v', e3, e4⟩ := hf r b h1
      exact ⟨v' :: vs', by simp only [List.mapM_cons, Sem.run_bind, e3, Result.andThen_ok, e1, Sem.run_pure], by simp only [VRels]; exact ⟨_, _, rfl, e4, e2⟩⟩
    · cases h

def resC (tmps : Array Value) : ResultVar → Sem Value
  | .tmp t => pure (tmps.getD t undef)
  | .cell a t => do loadVar t (← asAddr (tmps.getD a undef))

def resOf (vs : Array Value) : Value := if h : vs.size = 1 then vs[0] else .tuple vs

theorem results_eq (fn : Func) (tmps : Array Value) : results fn tmps = (do let vs ← fn.results.mapM (resC tmps); pure (resOf vs)) := rfl

theorem results_run {fn : Func} {T : Slots} {H : AH} {v : AV} (h : aresults P fn T H = some v) {a : Act} {w : World} {μ : Mu} {ok : Ok} (hT : TRel μ ok sz T a.tmps) (S : Sim μ ok H w) : ∃ v', (results fn a.tmps).run P w = .ok v' w ∧ VRel μ ok v v' := by
  unfold aresults at h
  rw [results_eq]
  cases hall : allOf (resA P T H) fn.results.toList with
  | none => rw [hall] at h; cases h
  | some vs =>
    rw [hall] at h
    obtain ⟨vs', e1, e2⟩ := mapM_rel (P := P) (w := w) (μ := μ) (ok := ok) (resC a.tmps) _ _ vs hall fun r v hr => by
      cases r with
      | tmp t =>
        simp only [resA, Option.some.injEq] at hr; subst hr
        exact ⟨_, rfl, hT.2 t⟩
      | cell x t =>
        obtain ⟨b, v', hb, h1, h2⟩ := load_run (P := P) S (hT.2 x) hr
        exact ⟨v', by simp only [resC, hb, asAddr, Sem.run_bind, Sem.run_pure, Result.andThen_ok, h1], h2⟩
    have hrun : ((fn.results.mapM (resC a.tmps)).run P w) = .ok vs'.toArray w := by
      rw [← Array.toArray_toList (xs := fn.results), List.mapM_toArray]
      simp only [Sem.run_map, e1, Result.andThen_ok]
    have fin : ∀ u, resOf vs'.toArray = u → VRel μ ok v u → ∃ v', (do let vs ← fn.results.mapM (resC a.tmps); pure (resOf vs) : Sem Value).run P w = .ok v' w ∧ VRel μ ok v v' := by
      intro u hu hr
      refine ⟨u, ?_, hr⟩
      rw [Sem.run_bind, hrun]
      simp only [Result.andThen_ok, Sem.run_pure, hu]
    have hl := e2.length
    refine fin _ rfl ?_
    split at h
    · rename_i v1 hv1
      obtain rfl := Option.some.inj hv1
      obtain rfl := Option.some.inj h
      simp only [VRels] at e2
      obtain ⟨u, us, rfl, hu, rfl⟩ := e2
      simpa [resOf] using hu
    · rename_i vs1 hne hv1
      obtain rfl := Option.some.inj hv1
      obtain rfl := Option.some.inj h
      have hn : ¬ vs'.toArray.size = 1 := by
        intro e
        have : vs.length = 1 := by rw [← hl]; simpa using e
        match vs, this with
        | [x], _ => exact hne x rfl
      unfold resOf
      rw [dif_neg hn]
      simp only [VRel]
      exact ⟨_, rfl, by simpa using e2⟩
    · rename_i e; cases e

/-- A CALL, out of its body. -/
theorem abody_sound {S : Sums} (hcf : Sound P cf) (hd : DrawSound P S.quiet cf) {k : Nat} {f : FuncId} {fn : Func} {c : Code} (hf : P.funcs[f]? = some fn) (hb : fn.body = some c) {args : List AV} {H H' : AH} {v : AV} (h : abody P S cf k fn c args H = some (v, H'))
    {μ : Mu} {ok : Ok} {w : World} {args' : Array Value} (Sm : Sim μ ok H w) (hargs : VRels μ ok args args'.toList) : Calls P f args' w (CallPost μ ok H w v H') := by
  unfold abody at h
  split at h
  · rename_i hle
    have hsz : args'.size = args.length := by simpa using hargs.length
    have hT : TRel μ ok fn.ntmps (slots0 args) (args' ++ Array.replicate (fn.ntmps - args'.size) undef) := by
      refine ⟨by simp [hsz]; omega, fun i => ?_⟩
      by_cases hi : i < args.length
      · obtain ⟨u, hu, hr⟩ := hargs.get (List.getElem?_eq_getElem hi)
        have e1 : slots0 args i = args[i] := by simp [slots0, List.getD, List.getElem?_eq_getElem hi]
        have e2 : (args' ++ Array.replicate (fn.ntmps - args'.size) undef).getD i undef = u := by
          have hu' : args'[i]? = some u := by simpa using hu
          rw [Array.getD_eq_getD_getElem?, Array.getElem?_append_left (by omega), hu']; rfl
        rw [e1, e2]; exact hr
      · have e1 : slots0 args i = AV.undef := by simp [slots0, List.getD, List.getElem?_eq_none (Nat.not_lt.1 hi)]
        have e2 : (args' ++ Array.replicate (fn.ntmps - args'.size) undef).getD i undef = undef := by
          rw [Array.getD_eq_getD_getElem?, Array.getElem?_append_right (by omega), Array.getElem?_replicate]
          split <;> rfl
        rw [e1, e2]; exact VRel.undef
    have st : St μ ok H w fn.ntmps (slots0 args) H { tmps := args' ++ Array.replicate (fn.ntmps - args'.size) undef, defers := [] } w :=
      ⟨μ, ok, hT, Sm, Step.refl _ _ _ _ _, rfl⟩
    refine calls_of_wp hf hb ?_
    have fin : ∀ (T : Slots) (H2 : AH) (e : AE), (aresults P fn T H2).map (fun v => (v, H2)) = some (v, H') → (e = .normal ∨ e = .ret) → ∀ a' w', St μ ok H w fn.ntmps T H2 a' w' → bodyPost P fn (CallPost μ ok H w v H') e.conc a' w' := by
      intro T H2 e hr he a' w' st'
      rw [Option.map_eq_some_iff] at hr
      obtain ⟨v0, hv0, e0⟩ := hr
      obtain ⟨rfl, rfl⟩ := Prod.mk.inj e0
      obtain ⟨μ', ok', hT', S', hst', hdef⟩ := st'
      obtain ⟨u, hu, hur⟩ := results_run hv0 hT' S'
      have : a'.defers = [] ∧ ∃ v, (results fn a'.tmps).run P w' = .ok v w' ∧ CallPost μ ok H w v0 H2 (.returned v) w' := ⟨hdef, u, hu, u, μ', ok', rfl, hur, S', hst'⟩
      rcases he with rfl | rfl <;> exact this
    split at h
    · cases h
    · rename_i e T H2 hne hc
      have he : e = .normal ∨ e = .ret := by
        cases e with
        | normal => exact .inl rfl
        | ret => exact .inr rfl
        | exit i => exact absurd hc (by intro hc; exact hne i rfl)
      exact acode_sound hcf hd k c hc st (fin T H2 e h he)
    · cases h
  · cases h

/-- what is known of the summaries -/
def SumsOk (P : Program) (S : Sums) : Prop := ∀ f s, S.sum f = some s → Sound P fun f' args H => if f' = f then s args H else none

theorem acall_sound {S : Sums} (hS : SumsOk P S) (hE : ∀ f fn, P.funcs[f]? = some fn → fn.body.isSome = true → Enters P f) (hd : ∀ cf, Sound P cf → DrawSound P S.quiet cf) : ∀ k, Sound P (acall P S k) := by
  intro k
  induction k with
  | zero => intro f args H v H' h; simp [acall] at h
  | succ k ih =>
    intro f args H v H' h
    simp only [acall] at h
    split at h
    · rename_i s hs
      exact hS f s hs f args H v H' (by simpa using h)
    · split at h
      · rename_i fn hf
        split at h
        · rename_i c hb
          exact ⟨hE f fn hf (by rw [hb]; rfl), fun μ ok w args' Sm hargs => abody_sound ih (hd _ ih) hf hb h Sm hargs⟩
        · cases h
      · cases h

end
end Go.Eng
namespace Go.Eng
set_option linter.unusedVariables false
set_option linter.unusedSimpArgs false

/-! ### effects -/
abbrev Fx := AH → Option (AV × AH)

/-- it leaves the heap; what it gives, it reads off what isn't hidden -/
def FxRead (S : Nat → Bool) (E : Fx) : Prop := ∃ f : (Nat → AB) → Nat → Option AV, ∀ H, E H = (f (hide S H.g) H.n).map fun v => (v, H)
/-- .. reads nothing -/
def FxPure (E : Fx) : Prop := ∃ r : Option AV, ∀ H, E H = r.map fun v => (v, H)
/-- it makes the block nid -/
def FxNew (nid : Nat) (E : Fx) : Prop := ∃ r : Option (AV × AB), ∀ H, E H = r.map fun p => (p.1, { g := upd H.g nid p.2, n := H.n })
/-- it writes what isn't hidden -/
def FxWrite (S : Nat → Bool) (E : Fx) : Prop := ∃ f : (Nat → AB) → Nat → Option (AV × (Nat → AB) × Nat), ∀ H, E H = (f (hide S H.g) H.n).map fun p => (p.1, { g := restore S H.g p.2.1, n := p.2.2 })

/-- .. reads block b alone -/
def FxAt (b : Nat) (E : Fx) : Prop := ∃ f : AB → Option AV, ∀ H, E H = (f (H.g b)).map fun v => (v, H)

def Comm (E F : Fx) : Prop := ∀ H v H1 u H2, E H = some (v, H1) → F H1 = some (u, H2) → ∃ H1', F H = some (u, H1') ∧ E H1' = some (v, H2)

theorem hide_upd {S : Nat → Bool} {g : Nat → AB} {nid : Nat} (h : S nid = true) (x : AB) : hide S (upd g nid x) = hide S g := by
  funext b
  unfold hide
  by_cases e : b = nid
  · subst e; simp [h]
  · rw [upd_ne _ _ e]

theorem restore_upd {S : Nat → Bool} {g g1 : Nat → AB} {nid : Nat} (h : S nid = true) (x : AB) : restore S (upd g nid x) g1 = upd (restore S g g1) nid x := by
  funext b
  unfold restore
  by_cases e : b = nid
  · subst e; simp [h, upd_same]
  · rw [upd_ne _ _ e, upd_ne _ _ e]

theorem upd_comm {g : Nat → AB} {i j : Nat} (h : i ≠ j) (x y : AB) : upd (upd g i x) j y = upd (upd g j y) i x := by
  funext b
  by_cases e : b = i
  · subst e; rw [upd_same, upd_ne _ _ h, upd_same]
  · rw [upd_ne (upd g j y) _ e]
    by_cases e' : b = j
    · subst e'; rw [upd_same, upd_same]
    · rw [upd_ne _ _ e', upd_ne _ _ e', upd_ne _ _ e]

theorem map_some_pair {α : Type} {o : Option α} {f : α → AV × AH} {v : AV} {H : AH} (h : o.map f = some (v, H)) : ∃ a, o = some a ∧ f a = (v, H) := Option.map_eq_some_iff.1 h

theorem Comm.read_read {S S' : Nat → Bool} {E F : Fx} (hE : FxRead S E) (hF : FxRead S' F) : Comm E F := by
  obtain ⟨f, hf⟩ := hE; obtain ⟨k, hk⟩ := hF
  intro H v H1 u H2 h1 h2
  rw [hf] at h1; obtain ⟨a, ha, e⟩ := map_some_pair h1; obtain ⟨rfl, rfl⟩ := Prod.mk.inj e
  rw [hk] at h2; obtain ⟨b, hb, e⟩ := map_some_pair h2; obtain ⟨rfl, rfl⟩ := Prod.mk.inj e
  exact ⟨H, by rw [hk, hb]; rfl, by rw [hf, ha]; rfl⟩

theorem Comm.read_new {S : Nat → Bool} {E F : Fx} {nid : Nat} (hE : FxRead S E) (hF : FxNew nid F) (h : S nid = true) : Comm E F ∧ Comm F E := by
  obtain ⟨f, hf⟩ := hE; obtain ⟨r, hr⟩ := hF
  constructor
  · intro H v H1 u H2 h1 h2
    rw [hf] at h1; obtain ⟨a, ha, e⟩ := map_some_pair h1; obtain ⟨rfl, rfl⟩ := Prod.mk.inj e
    rw [hr] at h2; obtain ⟨b, hb, e⟩ := map_some_pair h2; obtain ⟨rfl, rfl⟩ := Prod.mk.inj e
    exact ⟨_, by rw [hr, hb]; rfl, by rw [hf]; simp only [hide_upd h]; rw [ha]; rfl⟩
  · intro H v H1 u H2 h1 h2
    rw [hr] at h1; obtain ⟨b, hb, e⟩ := map_some_pair h1; obtain ⟨rfl, rfl⟩ := Prod.mk.inj e
    rw [hf] at h2; simp only [hide_upd h] at h2; obtain ⟨a, ha, e⟩ := map_some_pair h2; obtain ⟨rfl, rfl⟩ := Prod.mk.inj e
    exact ⟨H, by rw [hf, ha]; rfl, by rw [hr, hb]; rfl⟩

theorem Comm.new_new {E F : Fx} {i j : Nat} (hE : FxNew i E) (hF : FxNew j F) (h : i ≠ j) : Comm E F := by
  obtain ⟨f, hf⟩ := hE; obtain ⟨k, hk⟩ := hF
  intro H v H1 u H2 h1 h2
  rw [hf] at h1; obtain ⟨a, ha, e⟩ := map_some_pair h1; obtain ⟨rfl, rfl⟩ := Prod.mk.inj e
  rw [hk] at h2; obtain ⟨b, hb, e⟩ := map_some_pair h2; obtain ⟨rfl, rfl⟩ := Prod.mk.inj e
  exact ⟨_, by rw [hk, hb]; rfl, by rw [hf, ha]; simp only [Option.map_some]; rw [upd_comm h]⟩

theorem Comm.write_new {S : Nat → Bool} {E F : Fx} {nid : Nat} (hE : FxWrite S E) (hF : FxNew nid F) (h : S nid = true) : Comm E F ∧ Comm F E := by
  obtain ⟨f, hf⟩ := hE; obtain ⟨r, hr⟩ := hF
  constructor
  · intro H v H1 u H2 h1 h2
    rw [hf] at h1; obtain ⟨a, ha, e⟩ := map_some_pair h1; obtain ⟨rfl, rfl⟩ := Prod.mk.inj e
    rw [hr] at h2; obtain ⟨b, hb, e⟩ := map_some_pair h2; obtain ⟨rfl, rfl⟩ := Prod.mk.inj e
    exact ⟨_, by rw [hr, hb]; rfl, by rw [hf]; simp only [hide_upd h]; rw [ha]; simp only [Option.map_some, restore_upd h]⟩
  · intro H v H1 u H2 h1 h2
    rw [hr] at h1; obtain ⟨b, hb, e⟩ := map_some_pair h1; obtain ⟨rfl, rfl⟩ := Prod.mk.inj e
    rw [hf] at h2; simp only [hide_upd h] at h2; obtain ⟨a, ha, e⟩ := map_some_pair h2; obtain ⟨rfl, rfl⟩ := Prod.mk.inj e
    exact ⟨_, by rw [hf, ha]; rfl, by rw [hr, hb]; simp only [Option.map_some, restore_upd h]⟩

theorem Comm.at_write {S : Nat → Bool} {E F : Fx} {b : Nat} (hE : FxAt b E) (hF : FxWrite S F) (h : S b = true) : Comm E F ∧ Comm F E := by
  obtain ⟨f, hf⟩ := hE; obtain ⟨k, hk⟩ := hF
  have hres : ∀ g g1 : Nat → AB, restore S g g1 b = g b := fun g g1 => by simp [restore, h]
  constructor
  · intro H v H1 u H2 h1 h2
    rw [hf] at h1; obtain ⟨a, ha, e⟩ := map_some_pair h1; obtain ⟨rfl, rfl⟩ := Prod.mk.inj e
    rw [hk] at h2; obtain ⟨c, hc, e⟩ := map_some_pair h2; obtain ⟨rfl, rfl⟩ := Prod.mk.inj e
    exact ⟨_, by rw [hk, hc]; rfl, by rw [hf]; simp only [hres]; rw [ha]; rfl⟩
  · intro H v H1 u H2 h1 h2
    rw [hk] at h1; obtain ⟨c, hc, e⟩ := map_some_pair h1; obtain ⟨rfl, rfl⟩ := Prod.mk.inj e
    rw [hf] at h2; simp only [hres] at h2; obtain ⟨a, ha, e⟩ := map_some_pair h2; obtain ⟨rfl, rfl⟩ := Prod.mk.inj e
    exact ⟨H, by rw [hf, ha]; rfl, by rw [hk, hc]; rfl⟩

theorem Comm.pure_any {E F : Fx} (hE : FxPure E) : Comm E F ∧ Comm F E := by
  obtain ⟨r, hr⟩ := hE
  constructor
  · intro H v H1 u H2 h1 h2
    rw [hr] at h1; obtain ⟨a, ha, e⟩ := map_some_pair h1; obtain ⟨rfl, rfl⟩ := Prod.mk.inj e
    exact ⟨H2, h2, by rw [hr, ha]; rfl⟩
  · intro H v H1 u H2 h1 h2
    rw [hr] at h2; obtain ⟨a, ha, e⟩ := map_some_pair h2; obtain ⟨rfl, rfl⟩ := Prod.mk.inj e
    exact ⟨H, by rw [hr, ha]; rfl, h1⟩

/-! ### what an operation of such a region does to the heap -/
section
variable (P : Program) (quiet : FuncId → Bool) (cf : CallF) (sz : Nat) (ops : Array Oper) (n0 : Nat) (B : Nat → Nat → Bool)

/-- the value, and the heap -/
def dfx (i : Nat) (o : Oper) (T : Slots) : Fx := fun H =>
  if dstOk sz o.dst then
    if Region.wanted o (ayield ops T) then
      let S := hidden quiet ops n0 B i
      match kindOf quiet o.op with
      | .quiet =>
        match aop P (aeval T) (hide S H.g) H.n o.op with
        | some (.val v e) => if protOk quiet ops B i (aeval T) o.op then some (v, H) else none
        | some (.call f args) => match cf f args { g := roAll (hide S H.g), n := H.n } with
          | some (v, _) => if v.flatT then some (v, H) else none
          | none => none
        | none => none
      | .new =>
        match aop P (aeval T) (hide S H.g) (n0 + rank quiet ops i) o.op with
        | some (.val v { ws := [], new := some x }) => some (v, { g := upd H.g (n0 + rank quiet ops i) x, n := H.n })
        | _ => none
      | .write =>
        match aop P (aeval T) (hide S H.g) H.n o.op with
        | some (.val v e) => let H1 := AH.app { g := hide S H.g, n := H.n } e; some (v, { g := restore S H.g H1.g, n := H1.n })
        | some (.call f args) => match cf f args { g := hide S H.g, n := H.n } with
          | some (v, H1) => some (v, { g := restore S H.g H1.g, n := H1.n })
          | none => none
        | none => none
    else some (.undef, H)
  else none

theorem dstep_dfx (i : Nat) (o : Oper) (T : Slots) (H : AH) : dstep P quiet cf sz ops n0 B i o T H = (dfx P quiet cf sz ops n0 B i o T H).map fun p => (put T o.dst p.1, p.2) := by
  unfold dstep dfx
  by_cases h1 : dstOk sz o.dst = true
  · simp only [h1, if_true]
    by_cases h2 : Region.wanted o (ayield ops T) = true
    · simp only [h2, if_true]
      cases hk : kindOf quiet o.op with
      | quiet =>
        simp only []
        cases ha : aop P (aeval T) (hide (hidden quiet ops n0 B i) H.g) H.n o.op with
        | none => rfl
        | some r =>
          cases r with
          | val v e => simp only []; split <;> rfl
          | call f args =>
            simp only []
            cases hc : cf f args { g := roAll (hide (hidden quiet ops n0 B i) H.g), n := H.n } with
            | none => rfl
            | some p => simp only []; split <;> rfl
      | new =>
        simp only []
        cases ha : aop P (aeval T) (hide (hidden quiet ops n0 B i) H.g) (n0 + rank quiet ops i) o.op with
        | none => rfl
        | some r =>
          cases r with
          | val v e => obtain ⟨ws, nw⟩ := e; cases ws <;> cases nw <;> rfl
          | call f args => rfl
      | write =>
        simp only []
        cases ha : aop P (aeval T) (hide (hidden quiet ops n0 B i) H.g) H.n o.op with
        | none => rfl
        | some r =>
          cases r with
          | val v e => rfl
          | call f args =>
            simp only []
            cases hc : cf f args { g := hide (hidden quiet ops n0 B i) H.g, n := H.n } with
            | none => rfl
            | some p => rfl
    · simp only [h2, if_false]; rfl
  · simp only [h1, if_false]; rfl

end
end Go.Eng
namespace Go.Eng
set_option linter.unusedVariables false
set_option linter.unusedSimpArgs false

theorem allOf_congr {α β : Type} {f g : α → Option β} : ∀ {xs : List α}, (∀ x ∈ xs, f x = g x) → allOf f xs = allOf g xs
  | [], _ => rfl
  | x :: xs, h => by simp only [allOf, h x (by simp), allOf_congr (fun y hy => h y (List.mem_cons_of_mem _ hy))]

theorem aop_congr {P : Program} {ρ ρ' : Operand → Option AV} {g : Nat → AB} {nid : Nat} {op : Op} (h : ∀ x ∈ op.operands.toList, ρ x = ρ' x) : aop P ρ g nid op = aop P ρ' g nid op := by
  cases op
  case build t ps =>
    have := allOf_congr (f := fun p : Nat × Operand => (ρ p.2).map fun v => (p.1, v)) (g := fun p : Nat × Operand => (ρ' p.2).map fun v => (p.1, v)) (xs := ps.toList) (fun p hp => by
      rw [h p.2 (by simp only [Op.operands]; exact List.mem_map.2 ⟨p, hp, rfl⟩)])
    simp only [aop, this]
  case buildSlice t l ps =>
    have := allOf_congr (f := fun p : Nat × Operand => (ρ p.2).map fun v => (p.1, v)) (g := fun p : Nat × Operand => (ρ' p.2).map fun v => (p.1, v)) (xs := ps.toList) (fun p hp => by
      rw [h p.2 (by simp only [Op.operands]; exact List.mem_map.2 ⟨p, hp, rfl⟩)])
    simp only [aop, this]
  case makeFunc fn first cap =>
    have h1 := allOf_congr (f := ρ) (g := ρ') (xs := first.toList) (fun x hx => h x (by simp only [Op.operands, Array.toList_append, List.mem_append]; exact .inl hx))
    have h2 := allOf_congr (f := ρ) (g := ρ') (xs := cap.toList) (fun x hx => h x (by simp only [Op.operands, Array.toList_append, List.mem_append]; exact .inr hx))
    cases fn <;> simp only [aop, h1, h2]
  case slice t x lo hi mx =>
    have h0 := h x (by simp [Op.operands])
    have opt : ∀ o : Option Operand, (∀ y, o = some y → y ∈ (Op.slice t x lo hi mx).operands.toList) → optA ρ o = optA ρ' o := by
      intro o ho
      cases o with
      | none => rfl
      | some y => simp only [optA]; rw [h y (ho y rfl)]
    have h1 := opt lo (fun y e => by subst e; simp [Op.operands])
    have h2 := opt hi (fun y e => by subst e; simp [Op.operands])
    have h3 := opt mx (fun y e => by subst e; simp [Op.operands])
    simp only [aop, h0, h1, h2, h3]
  case call c =>
    obtain ⟨callee, args, argTypes⟩ := c
    have h1 := allOf_congr (f := ρ) (g := ρ') (xs := args.toList) (fun x hx => h x (by simp only [Op.operands, Call.operands, Array.toList_append, List.mem_append]; exact .inr hx))
    cases callee with
    | builtin b => simp only [aop, h1]
    | invoke r m => simp only [aop]
    | value f =>
      have h2 := h f (by simp [Op.operands, Call.operands])
      simp only [aop, h1, h2]
  case makeMap t r => cases r <;> simp only [aop]
  all_goals simp only [aop]
  all_goals (simp only [Op.operands, List.mem_cons, List.not_mem_nil, or_false, forall_eq_or_imp, forall_eq] at h)
  all_goals (first | (simp only [h]; done) | (obtain ⟨h1, h2⟩ := h; simp only [h1, h2]; done) | (obtain ⟨h1, h2, h3⟩ := h; simp only [h1, h2, h3]; done) | rfl)

section
variable {P : Program} {quiet : FuncId → Bool} {cf : CallF} {sz : Nat} {ops : Array Oper} {n0 : Nat} {B : Nat → Nat → Bool}

theorem aeval_agree {T T' : Slots} {o : Oper} (h : ∀ t ∈ o.looksAt ops, T t = T' t) : ∀ x ∈ o.op.operands.toList, aeval T x = aeval T' x := by
  intro x hx
  cases x with
  | tmp t =>
    have : t ∈ o.looksAt ops := by
      unfold Oper.looksAt
      exact List.mem_append.2 (.inl (List.mem_filterMap.2 ⟨.tmp t, hx, rfl⟩))
    simp only [aeval, h t this]
  | _ => rfl

theorem wanted_agree {T T' : Slots} {o : Oper} (h : ∀ t ∈ o.looksAt ops, T t = T' t) : Region.wanted o (ayield ops T) = Region.wanted o (ayield ops T') := by
  unfold Region.wanted
  cases hg : o.guard with
  | none => rfl
  | some p =>
    obtain ⟨j, want⟩ := p
    simp only
    have : ayield ops T j = ayield ops T' j := by
      unfold ayield
      cases hd : (ops[j]?).bind (·.dst) with
      | none => rfl
      | some d =>
        have hm : d ∈ o.looksAt ops := by
          unfold Oper.looksAt
          rw [hg]
          exact List.mem_append.2 (.inr (by simp [hd]))
        simp only [h d hm]
    rw [this]

theorem protOk_congr {ρ ρ' : Operand → Option AV} {i : Nat} {op : Op} (h : ∀ x ∈ op.operands.toList, ρ x = ρ' x) : protOk quiet ops B i ρ op = protOk quiet ops B i ρ' op := by
  cases op <;> try rfl
  case load t a => simp only [protOk]; rw [h a (by simp [Op.operands])]
  case call c =>
    obtain ⟨callee, args, ts⟩ := c
    cases callee with
    | builtin b =>
      cases b <;> try rfl
      simp only [protOk]
      rw [allOf_congr (f := ρ) (g := ρ') (xs := args.toList) fun x hx => h x (by simpa [Op.operands, Call.operands] using hx)]
    | _ => rfl

theorem dfx_agree {T T' : Slots} {i : Nat} {o : Oper} (h : ∀ t ∈ o.looksAt ops, T t = T' t) : dfx P quiet cf sz ops n0 B i o T = dfx P quiet cf sz ops n0 B i o T' := by
  funext H
  unfold dfx
  rw [wanted_agree h]
  have ha := fun g nid => aop_congr (P := P) (g := g) (nid := nid) (aeval_agree h)
  have hp : protOk quiet ops B i (aeval T) o.op = protOk quiet ops B i (aeval T') o.op := protOk_congr (aeval_agree h)
  simp only [ha, hp]

/-- an operation that only reads leaves no trace; it doesn't need a new number -/
theorem quiet_eff {op : Op} (hk : kindOf quiet op = .quiet) {ρ : Operand → Option AV} {g : Nat → AB} {nid : Nat} {v : AV} {e : Eff} (h : aop P ρ g nid op = some (.val v e)) : e = {} := by
  cases op <;> simp only [kindOf, reduceCtorEq] at hk <;> simp only [aop] at h <;> try (cases hk; done)
  case call c =>
    obtain ⟨callee, args, argTypes⟩ := c
    cases callee with
    | invoke r m => simp at h
    | value f => simp only at h; split at h <;> simp at h
    | builtin b =>
      cases b <;> simp only [reduceCtorEq] at hk <;> simp only at h <;> split at h <;> try (cases h; done)
      all_goals
        (unfold abuiltin at h
         split at h <;> simp only [reduceCtorEq] at * <;> first | (obtain ⟨_, _, e1⟩ := map_pure h; cases e1; rfl) | (cases h))
  case makeFunc fn first cap =>
    cases fn <;> simp only [reduceCtorEq] at h
    split at h
    · simp only [Option.some.injEq, ARes.pure, ARes.val.injEq] at h; exact h.2.symm
    · cases h
  case nilCheck x =>
    split at h
    · simp only [Option.some.injEq, ARes.pure, ARes.val.injEq] at h; exact h.2.symm
    · simp only [Option.some.injEq, ARes.pure, ARes.val.injEq] at h; exact h.2.symm
    · cases h
  all_goals first
    | (obtain ⟨_, _, e1⟩ := map_pure h; cases e1; rfl)
    | (split at h <;> first | (obtain ⟨_, _, e1⟩ := map_pure h; cases e1; rfl) | (cases h; done))

theorem abuiltin_nid {b : Builtin} (hb : b = .len ∨ b = .min ∨ b = .max) (g : Nat → AB) (n m : Nat) (ts : List TypeId) (args : List AV) : abuiltin P g n b ts args = abuiltin P g m b ts args := by
  rcases hb with rfl | rfl | rfl
  · cases ts <;> cases args <;> rfl
  · rcases args with _ | ⟨x, _ | ⟨y, _ | ⟨z, l⟩⟩⟩ <;> rfl
  · rcases args with _ | ⟨x, _ | ⟨y, _ | ⟨z, l⟩⟩⟩ <;> rfl

theorem quiet_nid {op : Op} (hk : kindOf quiet op = .quiet) {ρ : Operand → Option AV} {g : Nat → AB} (n m : Nat) : aop P ρ g n op = aop P ρ g m op := by
  cases op <;> simp only [kindOf, reduceCtorEq] at hk <;> try rfl
  case makeFunc fn _ _ => cases fn <;> rfl
  case call c =>
    obtain ⟨callee, args, argTypes⟩ := c
    cases callee with
    | builtin b =>
      have hb : b = .len ∨ b = .min ∨ b = .max := by cases b <;> simp_all [kindOf]
      simp only [aop]
      cases allOf ρ args.toList with
      | none => rfl
      | some vs => exact abuiltin_nid hb g n m _ _
    | _ => rfl

theorem quiet_g {op : Op} (hk : kindOf quiet op = .quiet) (ht : touches op = false) {ρ : Operand → Option AV} (g g' : Nat → AB) (n : Nat) : aop P ρ g n op = aop P ρ g' n op := by
  cases op <;> simp only [kindOf, reduceCtorEq] at hk <;> simp only [touches, reduceCtorEq] at ht <;> try rfl
  case makeFunc fn _ _ => cases fn <;> rfl
  case call c =>
    obtain ⟨callee, args, argTypes⟩ := c
    cases callee with
    | builtin b =>
      have hb : b = .min ∨ b = .max := by cases b <;> simp_all [kindOf, touches]
      simp only [aop]
      cases allOf ρ args.toList with
      | none => rfl
      | some vs =>
        rcases hb with rfl | rfl
        · rcases vs with _ | ⟨x, _ | ⟨y, _ | ⟨z, l⟩⟩⟩ <;> rfl
        · rcases vs with _ | ⟨x, _ | ⟨y, _ | ⟨z, l⟩⟩⟩ <;> rfl
    | _ => rfl

theorem new_g {op : Op} (hk : kindOf quiet op = .new) {ρ : Operand → Option AV} (g g' : Nat → AB) (n : Nat) : aop P ρ g n op = aop P ρ g' n op := by
  cases op <;> simp only [kindOf, reduceCtorEq] at hk <;> try rfl
  case makeMap t r => cases r <;> rfl
  case call c =>
    obtain ⟨callee, args, argTypes⟩ := c
    cases callee with
    | builtin b => cases b <;> simp only [reduceCtorEq] at hk
    | value f => cases f <;> simp only [reduceCtorEq] at hk; split at hk <;> cases hk
    | _ => simp only [reduceCtorEq] at hk

end
end Go.Eng
namespace Go.Eng
set_option linter.unusedVariables false
set_option linter.unusedSimpArgs false

section
variable {P : Program} {quiet : FuncId → Bool} {cf : CallF} {sz : Nat} {ops : Array Oper} {n0 : Nat} {B : Nat → Nat → Bool}

/-- the three kinds of what an operation does -/
theorem fx_kinds (i : Nat) (o : Oper) (T : Slots) :
    (kindOf quiet o.op = .quiet → FxRead (hidden quiet ops n0 B i) (dfx P quiet cf sz ops n0 B i o T) ∧ (touches o.op = false → FxPure (dfx P quiet cf sz ops n0 B i o T))) ∧
    (kindOf quiet o.op = .new → FxNew (n0 + rank quiet ops i) (dfx P quiet cf sz ops n0 B i o T) ∨ FxPure (dfx P quiet cf sz ops n0 B i o T)) ∧
    (kindOf quiet o.op = .write → FxWrite (hidden quiet ops n0 B i) (dfx P quiet cf sz ops n0 B i o T) ∨ FxPure (dfx P quiet cf sz ops n0 B i o T)) := by
  by_cases h1 : dstOk sz o.dst = true
  case neg =>
    have hp : FxPure (dfx P quiet cf sz ops n0 B i o T) := ⟨none, fun H => by unfold dfx; rw [if_neg h1]; rfl⟩
    have hr : FxRead (hidden quiet ops n0 B i) (dfx P quiet cf sz ops n0 B i o T) := ⟨fun _ _ => none, fun H => by unfold dfx; rw [if_neg h1]; rfl⟩
    exact ⟨fun _ => ⟨hr, fun _ => hp⟩, fun _ => .inr hp, fun _ => .inr hp⟩
  by_cases h2 : Region.wanted o (ayield ops T) = true
  case neg =>
    have hp : FxPure (dfx P quiet cf sz ops n0 B i o T) := ⟨some .undef, fun H => by unfold dfx; rw [if_pos h1, if_neg h2]; rfl⟩
    have hr : FxRead (hidden quiet ops n0 B i) (dfx P quiet cf sz ops n0 B i o T) := ⟨fun _ _ => some .undef, fun H => by unfold dfx; rw [if_pos h1, if_neg h2]; rfl⟩
    exact ⟨fun _ => ⟨hr, fun _ => hp⟩, fun _ => .inr hp, fun _ => .inr hp⟩
  refine ⟨fun hk => ⟨?_, fun ht => ?_⟩, fun hk => .inl ?_, fun hk => .inl ?_⟩
  · refine ⟨fun g n => match aop P (aeval T) g n o.op with
      | some (.val v e) => if protOk quiet ops B i (aeval T) o.op then some v else none
      | some (.call f args) => match cf f args { g := roAll g, n := n } with
        | some (v, _) => if v.flatT then some v else none
        | none => none
      | none => none, fun H => ?_⟩
    unfold dfx
    rw [if_pos h1, if_pos h2, hk]
    simp only []
    cases aop P (aeval T) (hide (hidden quiet ops n0 B i) H.g) H.n o.op with
    | none => rfl
    | some r =>
      cases r with
      | val v e => simp only []; split <;> rfl
      | call f args =>
        simp only []
        cases cf f args { g := roAll (hide (hidden quiet ops n0 B i) H.g), n := H.n } with
        | none => rfl
        | some p => simp only []; split <;> rfl
  · have hcall : ∀ g n f args, aop P (aeval T) g n o.op ≠ some (.call f args) := by
      intro g n f args ha
      generalize o.op = op at hk ht ha
      cases op <;> simp only [kindOf, reduceCtorEq] at hk <;> simp only [touches, reduceCtorEq] at ht <;> simp only [aop] at ha
      case call c =>
        obtain ⟨callee, as, ts⟩ := c
        cases callee with
        | invoke r m => simp at ha
        | value fo => simp at ht
        | builtin b =>
          simp only at ha
          split at ha
          · cases b <;> simp_all [kindOf, touches]
            all_goals
              (unfold abuiltin at ha
               split at ha <;> simp_all [ARes.pure])
          · cases ha
      case makeFunc fn _ _ => cases fn <;> simp only [reduceCtorEq] at ha; split at ha <;> simp [ARes.pure] at ha
      case nilCheck x => split at ha <;> simp [ARes.pure] at ha
      case build t ps => split at ha <;> simp [ARes.pure] at ha
      all_goals first
        | (simp [ARes.pure] at ha; done)
        | (split at ha <;> simp [ARes.pure] at ha; done)
    refine ⟨match aop P (aeval T) (fun _ => .dead) 0 o.op with | some (.val v e) => if protOk quiet ops B i (aeval T) o.op then some v else none | _ => none, fun H => ?_⟩
    unfold dfx
    rw [if_pos h1, if_pos h2, hk]
    simp only []
    rw [quiet_nid hk H.n 0, quiet_g hk ht (hide (hidden quiet ops n0 B i) H.g) (fun _ => .dead) 0]
    cases ha : aop P (aeval T) (fun _ => .dead) 0 o.op with
    | none => rfl
    | some r =>
      cases r with
      | val v e => simp only []; split <;> rfl
      | call f args => exact absurd ha (hcall _ _ _ _)
  · refine ⟨match aop P (aeval T) (fun _ => .dead) (n0 + rank quiet ops i) o.op with | some (.val v { ws := [], new := some x }) => some (v, x) | _ => none, fun H => ?_⟩
    unfold dfx
    rw [if_pos h1, if_pos h2, hk]
    simp only []
    rw [new_g hk (hide (hidden quiet ops n0 B i) H.g) (fun _ => .dead)]
    cases aop P (aeval T) (fun _ => .dead) (n0 + rank quiet ops i) o.op with
    | none => rfl
    | some r =>
      cases r with
      | val v e => obtain ⟨ws, nw⟩ := e; cases ws <;> cases nw <;> rfl
      | call f args => rfl
  · refine ⟨fun g n => match aop P (aeval T) g n o.op with
      | some (.val v e) => some (v, (AH.app { g := g, n := n } e).g, (AH.app { g := g, n := n } e).n)
      | some (.call f args) => match cf f args { g := g, n := n } with
        | some (v, H1) => some (v, H1.g, H1.n)
        | none => none
      | none => none, fun H => ?_⟩
    unfold dfx
    rw [if_pos h1, if_pos h2, hk]
    simp only []
    cases aop P (aeval T) (hide (hidden quiet ops n0 B i) H.g) H.n o.op with
    | none => rfl
    | some r =>
      cases r with
      | val v e => rfl
      | call f args =>
        simp only []
        cases cf f args { g := hide (hidden quiet ops n0 B i) H.g, n := H.n } with
        | none => rfl
        | some p => rfl

/-- a load reads its block alone; the operations that don't wait for it keep off that -/
theorem aload_at {t : TypeId} {b o : Nat} {g g' : Nat → AB} (h : g b = g' b) : aload P g t (.ptr (some (b, o))) = aload P g' t (.ptr (some (b, o))) := by
  unfold aload cellsAt
  cases ti P t with
  | none => rfl
  | some i => simp only [h]
theorem aload_ptr {t : TypeId} {g : Nat → AB} {p v : AV} (h : aload P g t p = some v) : ∃ b o, p = .ptr (some (b, o)) := by
  unfold aload at h
  split at h
  · exact ⟨_, _, rfl⟩
  · cases h
theorem dfx_load {i : Nat} {dst : Option Tmp} {t : TypeId} {a : Operand} {ty : TypeId} {pos : String} {after : Array Edge} {guard : Option (Nat × Bool)} {T : Slots} (d1 : dstOk sz dst = true) (d2 : Region.wanted ⟨dst, .load t a, ty, pos, after, guard⟩ (ayield ops T) = true) (H : AH) :
    dfx P quiet cf sz ops n0 B i ⟨dst, .load t a, ty, pos, after, guard⟩ T H = match aeval T a with
      | some p => (match aload P (hide (hidden quiet ops n0 B i) H.g) t p with | some v => if protOk quiet ops B i (aeval T) (.load t a) then some (v, H) else none | none => none)
      | none => none := by
  have hk : kindOf quiet (.load t a) = .quiet := rfl
  unfold dfx
  simp only [d1, d2, if_true, hk, aop]
  cases aeval T a with
  | none => rfl
  | some p =>
    simp only
    cases aload P (hide (hidden quiet ops n0 B i) H.g) t p with
    | none => rfl
    | some v => rfl
theorem fx_load {i : Nat} {o : Oper} (T : Slots) (hl : isLoad o.op = true) {j : Nat} (hj : j < ops.size) (hw : isWriteAt quiet ops j = true) (h1 : isBefore (befores ops) i j = false) (h2 : isBefore (befores ops) j i = false) :
    FxPure (dfx P quiet cf sz ops n0 B i o T) ∨ ∃ b, B j b = true ∧ FxAt b (dfx P quiet cf sz ops n0 B i o T) := by
  obtain ⟨dst, op, ty, pos, after, guard⟩ := o
  cases op <;> simp only [isLoad, Bool.false_eq_true] at hl
  case call c =>
    obtain ⟨callee, args, ts⟩ := c
    cases callee with
    | invoke r m => cases hl
    | value f => cases hl
    | builtin bi =>
      cases bi <;> simp only [Bool.false_eq_true] at hl
      left
      by_cases d1 : dstOk sz dst = true
      case neg => exact ⟨none, fun H => by simp only [dfx, if_neg d1]; rfl⟩
      by_cases d2 : Region.wanted ⟨dst, .call { callee := .builtin .len, args := args, argTypes := ts }, ty, pos, after, guard⟩ (ayield ops T) = true
      case neg => exact ⟨some .undef, fun H => by simp only [dfx, if_pos d1, if_neg d2]; rfl⟩
      have e : ∀ H, dfx P quiet cf sz ops n0 B i ⟨dst, .call { callee := .builtin .len, args := args, argTypes := ts }, ty, pos, after, guard⟩ T H =
          match allOf (aeval T) args.toList, ts.toList with
          | some (x :: _), t :: _ => (match alen P (hide (hidden quiet ops n0 B i) H.g) t x with | some v => if protOk quiet ops B i (aeval T) (.call { callee := .builtin .len, args := args, argTypes := ts }) then some (v, H) else none | none => none)
          | _, _ => none := by
        intro H
        have hk : kindOf quiet (.call { callee := .builtin .len, args := args, argTypes := ts }) = .quiet := rfl
        unfold dfx
        simp only [d1, d2, if_true, hk, aop]
        cases allOf (aeval T) args.toList with
        | none => rfl
        | some vs =>
          simp only
          cases hts : ts.toList with
          | nil => cases vs <;> rfl
          | cons t ts' =>
            cases vs with
            | nil => rfl
            | cons x xs =>
              simp only [abuiltin]
              cases alen P (hide (hidden quiet ops n0 B i) H.g) t x with
              | none => rfl
              | some v => rfl
      by_cases hp : protOk quiet ops B i (aeval T) (.call { callee := .builtin .len, args := args, argTypes := ts }) = true
      case neg =>
        refine ⟨none, fun H => ?_⟩
        rw [e]
        split
        · split
          · rw [if_neg hp]; rfl
          · rfl
        · rfl
      cases ha : allOf (aeval T) args.toList with
      | none => exact ⟨none, fun H => by rw [e, ha]; rfl⟩
      | some vs =>
        cases vs with
        | nil => exact ⟨none, fun H => by rw [e, ha]; rfl⟩
        | cons x xs =>
          have hx : ∀ m, x ≠ .map m := by
            intro m hm
            subst hm
            simp only [protOk, ha, List.all_eq_true, List.mem_range] at hp
            have := hp j hj
            simp [hw, h1, h2] at this
          cases hts : ts.toList with
          | nil => exact ⟨none, fun H => by rw [e, ha, hts]; rfl⟩
          | cons t ts' =>
            refine ⟨alen P (fun _ => .dead) t x, fun H => ?_⟩
            rw [e, ha, hts]
            simp only [hp, if_true]
            have : ∀ g : Nat → AB, alen P g t x = alen P (fun _ => .dead) t x := by
              intro g
              unfold alen
              split <;> first | rfl | exact absurd rfl (hx _)
            rw [this]
            cases alen P (fun _ => .dead) t x <;> rfl
  rename_i t a
  by_cases d1 : dstOk sz dst = true
  case neg => exact .inl ⟨none, fun H => by simp only [dfx, if_neg d1]; rfl⟩
  by_cases d2 : Region.wanted ⟨dst, .load t a, ty, pos, after, guard⟩ (ayield ops T) = true
  case neg => exact .inl ⟨some .undef, fun H => by simp only [dfx, if_pos d1, if_neg d2]; rfl⟩
  have e := dfx_load (P := P) (quiet := quiet) (cf := cf) (n0 := n0) (B := B) (i := i) d1 d2
  by_cases hp : protOk quiet ops B i (aeval T) (.load t a) = true
  case neg =>
    refine .inl ⟨none, fun H => ?_⟩
    rw [e]
    split
    · split
      · rw [if_neg hp]; rfl
      · rfl
    · rfl
  cases ha : aeval T a with
  | none => exact .inl ⟨none, fun H => by rw [e, ha]; rfl⟩
  | some p =>
    by_cases hq : ∃ b o, p = .ptr (some (b, o))
    case neg =>
      refine .inl ⟨none, fun H => ?_⟩
      rw [e, ha]
      simp only
      split
      · rename_i v hv; exact absurd (aload_ptr hv) hq
      · rfl
    obtain ⟨b, o, rfl⟩ := hq
    right
    refine ⟨b, ?_, fun x => aload P (fun _ => if hidden quiet ops n0 B i b then .dead else x) t (.ptr (some (b, o))), fun H => ?_⟩
    · simp only [protOk, ha, List.all_eq_true, List.mem_range] at hp
      have := hp j hj
      simpa [hw, h1, h2] using this
    · rw [e, ha]
      simp only [hp, if_true]
      rw [aload_at (P := P) (t := t) (b := b) (o := o) (g := hide (hidden quiet ops n0 B i) H.g) (g' := fun _ => if hidden quiet ops n0 B i b then .dead else H.g b) rfl]
      cases aload P (fun _ => if hidden quiet ops n0 B i b then .dead else H.g b) t (.ptr (some (b, o))) <;> rfl

/-! ### who comes before whom -/

def maskOf (r : Nat → Nat) (o : Oper) : Nat := o.after.foldl (fun s e => if Region.binds .any e then s ||| 2 ^ e.on ||| r e.on else s) 0

theorem mask_bit (r : Nat → Nat) (es : List Edge) (i : Nat) : ∀ s, (es.foldl (fun s e => if Region.binds .any e then s ||| 2 ^ e.on ||| r e.on else s) s).testBit i = true →
    s.testBit i = true ∨ ∃ e ∈ es, Region.binds .any e = true ∧ (e.on = i ∨ (r e.on).testBit i = true) := by
  induction es with
  | nil => intro s h; exact .inl h
  | cons e es ih =>
    intro s h
    simp only [List.foldl_cons] at h
    rcases ih _ h with h1 | ⟨e', he', h2⟩
    · split at h1
      · rename_i hb
        rw [Nat.testBit_or, Nat.testBit_or, Nat.testBit_two_pow, Bool.or_eq_true, Bool.or_eq_true, decide_eq_true_eq] at h1
        rcases h1 with (h1 | h1) | h1
        · exact .inl h1
        · exact .inr ⟨e, by simp, hb, .inl h1⟩
        · exact .inr ⟨e, by simp, hb, .inr h1⟩
      · exact .inl h1
    · exact .inr ⟨e', by simp [he'], h2⟩

theorem before_fold : ∀ (l : List Oper) (acc : Array Nat), ∃ r : Array Nat, l.foldl (fun acc o => acc.push (maskOf (fun k => acc.getD k 0) o)) acc = r ∧ r.size = acc.size + l.length ∧ (∀ k, k < acc.size → r.getD k 0 = acc.getD k 0) ∧
    ∀ k o, l[k]? = some o → ∃ acc' : Array Nat, r.getD (acc.size + k) 0 = maskOf (fun k => acc'.getD k 0) o ∧ ∀ m, m < acc.size + k → acc'.getD m 0 = r.getD m 0
  | [], acc => ⟨acc, rfl, by simp, fun _ _ => rfl, by simp⟩
  | o :: l, acc => by
    obtain ⟨r, h1, h2, h3, h4⟩ := before_fold l (acc.push (maskOf (fun k => acc.getD k 0) o))
    have hpush : ∀ k, k < acc.size → (acc.push (maskOf (fun k => acc.getD k 0) o)).getD k 0 = acc.getD k 0 := by
      intro k hk
      simp [Array.getD_eq_getD_getElem?, Array.getElem?_push, Nat.ne_of_lt hk]
    refine ⟨r, h1, by simp at h2 ⊢; omega, fun k hk => by rw [h3 k (by simp; omega), hpush k hk], ?_⟩
    intro k o' hk
    cases k with
    | zero =>
      simp only [List.getElem?_cons_zero, Option.some.injEq] at hk
      subst hk
      refine ⟨acc, ?_, fun m hm => ?_⟩
      · rw [Nat.add_zero, h3 acc.size (by simp)]
        simp [Array.getD_eq_getD_getElem?, Array.getElem?_push]
      · rw [h3 m (by simp; omega), hpush m (by omega)]
    | succ k =>
      obtain ⟨acc', e1, e2⟩ := h4 k o' (by simpa using hk)
      refine ⟨acc', ?_, fun m hm => e2 m (by simp; omega)⟩
      rw [← e1]; congr 1; simp; omega

theorem before_bit {i j : Nat} {oj : Oper} (hj : ops[j]? = some oj) (hback : ∀ e ∈ oj.after, Region.binds .any e = true → e.on < j) (h : isBefore (befores ops) i j = true) : ∃ e ∈ oj.after, Region.binds .any e = true ∧ (e.on = i ∨ isBefore (befores ops) i e.on = true) := by
  obtain ⟨r, h1, h2, h3, h4⟩ := before_fold ops.toList #[]
  have hb : befores ops = r := by
    rw [← h1]
    unfold befores Region.before maskOf
    rw [← Array.foldl_toList]
  obtain ⟨acc', e1, e2⟩ := h4 j oj (by simpa using hj)
  unfold isBefore at h ⊢
  rw [hb] at h ⊢
  simp only [List.size_toArray, List.length_nil, Nat.zero_add] at e1 e2
  rw [e1] at h
  unfold maskOf at h
  rw [← Array.foldl_toList] at h
  rcases mask_bit (fun k => acc'.getD k 0) oj.after.toList i 0 h with h5 | ⟨e, he, hbd, h6⟩
  · simp at h5
  · have he' : e ∈ oj.after := Array.mem_toList_iff.1 he
    refine ⟨e, he', hbd, ?_⟩
    rcases h6 with h6 | h6
    · exact .inl h6
    · rw [e2 e.on (hback e he' hbd)] at h6; exact .inr h6

end
end Go.Eng
namespace Go.Eng
set_option linter.unusedVariables false
set_option linter.unusedSimpArgs false

section
variable {P : Program} {quiet : FuncId → Bool} {cf : CallF} {sz : Nat} {ops : Array Oper} {n0 : Nat} {B : Nat → Nat → Bool}

/-- what the check has shown -/
structure DrawFacts (quiet : FuncId → Bool) (ops : Array Oper) : Prop where
  back : ∀ (j : Nat) oj, ops[j]? = some oj → ∀ e ∈ oj.after, Region.binds .any e = true → e.on < j
  apart : ∀ (i j : Nat) oi oj, i < j → ops[i]? = some oi → ops[j]? = some oj → isBefore (befores ops) i j = true ∨ (apartOps ops oi oj = true ∧ kindsOk quiet oi.op oj.op = true)

theorem drawOk_facts (h : drawOk quiet ops = true) : DrawFacts quiet ops := by
  unfold drawOk at h
  rw [List.all_eq_true] at h
  have hlt : ∀ (j : Nat) oj, ops[j]? = some oj → j ∈ List.range ops.size := fun j oj hj => List.mem_range.2 (Array.getElem?_eq_some_iff.1 hj).1
  constructor
  · intro j oj hj e he hb
    have := h j (hlt j oj hj)
    simp only [hj, Bool.and_eq_true, Array.all_eq_true_iff_forall_mem] at this
    have h1 := this.1.1 e he
    simpa [hb] using h1
  · intro i j oi oj hij hi hj
    have := h j (hlt j oj hj)
    simp only [hj, Bool.and_eq_true] at this
    have h2 := List.all_eq_true.1 this.2 i (List.mem_range.2 hij)
    simp only [hi, Bool.or_eq_true, Bool.and_eq_true] at h2
    exact h2

theorem before_lt (F : DrawFacts quiet ops) : ∀ (j i : Nat) oj, ops[j]? = some oj → isBefore (befores ops) i j = true → i < j := by
  intro j
  induction j using Nat.strongRecOn with
  | _ j ih =>
    intro i oj hj h
    obtain ⟨e, he, hb, h1⟩ := before_bit hj (F.back j oj hj) h
    have hlt := F.back j oj hj e he hb
    rcases h1 with h1 | h1
    · omega
    · have hsome : ∃ oe, ops[e.on]? = some oe := ⟨_, Array.getElem?_eq_getElem (Nat.lt_trans hlt (Array.getElem?_eq_some_iff.1 hj).1)⟩
      obtain ⟨oe, hoe⟩ := hsome
      have := ih e.on hlt i oe hoe h1
      omega

theorem rank_lt {i j : Nat} {oi : Oper} (hi : ops[i]? = some oi) (hk : kindOf quiet oi.op = .new) (hij : i < j) : rank quiet ops i < rank quiet ops j := by
  unfold rank
  have hlt := (Array.getElem?_eq_some_iff.1 hi).1
  have e : ops.toList.take j = ops.toList.take i ++ (oi :: (ops.toList.drop (i + 1)).take (j - (i + 1))) := by
    have h1 : ops.toList.take j = (ops.toList.take i ++ ops.toList.drop i).take j := by rw [List.take_append_drop]
    have hd : ops.toList.drop i = oi :: ops.toList.drop (i + 1) := by
      rw [List.drop_eq_getElem_cons (by simpa using hlt)]
      congr 1
      have := (Array.getElem?_eq_some_iff.1 hi).2
      simpa using this
    rw [h1, hd, List.take_append]
    have hl : (ops.toList.take i).length = i := by simp; omega
    rw [List.take_of_length_le (by omega), hl]
    have : j - i = (j - (i + 1)) + 1 := by omega
    rw [this, List.take_succ_cons]
  rw [e, List.filter_append, List.length_append, List.filter_cons]
  simp [hk]

theorem rank_ne {i j : Nat} {oi oj : Oper} (hi : ops[i]? = some oi) (hj : ops[j]? = some oj) (hki : kindOf quiet oi.op = .new) (hkj : kindOf quiet oj.op = .new) (h : i ≠ j) : rank quiet ops i ≠ rank quiet ops j := by
  rcases Nat.lt_or_gt_of_ne h with h | h
  · exact Nat.ne_of_lt (rank_lt hi hki h)
  · exact Nat.ne_of_gt (rank_lt hj hkj h)

theorem hidden_at {i k : Nat} {ok : Oper} (hk : ops[k]? = some ok) (hkk : kindOf quiet ok.op = .new) (hne : k ≠ i) (hb : isBefore (befores ops) k i = false) : hidden quiet ops n0 B i (n0 + rank quiet ops k) = true := by
  unfold hidden
  rw [Bool.or_eq_true]
  left
  rw [List.any_eq_true]
  refine ⟨k, List.mem_range.2 (Array.getElem?_eq_some_iff.1 hk).1, ?_⟩
  simp [hk, hkk, hne, hb]

theorem hidden_own {i : Nat} {oi : Oper} (hi : ops[i]? = some oi) (hki : kindOf quiet oi.op = .new) : hidden quiet ops n0 B i (n0 + rank quiet ops i) = false := by
  cases h : hidden quiet ops n0 B i (n0 + rank quiet ops i) with
  | false => rfl
  | true =>
    unfold hidden at h
    have hnw : isWriteAt quiet ops i = false := by simp [isWriteAt, hi, hki]
    rw [hnw, Bool.false_and, Bool.or_false, List.any_eq_true] at h
    obtain ⟨k, hk, h⟩ := h
    split at h
    · rename_i o ho
      simp only [Bool.and_eq_true, decide_eq_true_eq, bne_iff_ne, beq_iff_eq] at h
      obtain ⟨⟨⟨h1, h2⟩, h3⟩, h4⟩ := h
      have := rank_ne ho hi h1 hki h2
      omega
    · cases h

theorem hidden_kept {i b : Nat} (hw : isWriteAt quiet ops i = true) (h : B i b = true) : hidden quiet ops n0 B i b = true := by
  unfold hidden; simp [hw, h]

theorem comm_ops (F : DrawFacts quiet ops) {i j : Nat} {oi oj : Oper} (hij : i < j) (hi : ops[i]? = some oi) (hj : ops[j]? = some oj) (hb : isBefore (befores ops) i j = false) (hk : kindsOk quiet oi.op oj.op = true) (T : Slots) :
    Comm (dfx P quiet cf sz ops n0 B i oi T) (dfx P quiet cf sz ops n0 B j oj T) := by
  have hb' : isBefore (befores ops) j i = false := by
    cases h : isBefore (befores ops) j i with
    | false => rfl
    | true => have := before_lt F i j oi hi h; omega
  obtain ⟨q1, n1, w1⟩ := fx_kinds (P := P) (quiet := quiet) (cf := cf) (sz := sz) (ops := ops) (n0 := n0) i oi T
  obtain ⟨q2, n2, w2⟩ := fx_kinds (P := P) (quiet := quiet) (cf := cf) (sz := sz) (ops := ops) (n0 := n0) j oj T
  unfold kindsOk at hk
  cases h1 : kindOf quiet oi.op with
  | quiet =>
    obtain ⟨r1, p1⟩ := q1 h1
    cases h2 : kindOf quiet oj.op with
    | quiet => exact Comm.read_read r1 (q2 h2).1
    | new =>
      rcases n2 h2 with h | h
      · exact (Comm.read_new r1 h (hidden_at hj h2 (by omega) hb')).1
      · exact (Comm.pure_any h).2
    | write =>
      rw [h1, h2] at hk
      simp only [Bool.or_eq_true, Bool.not_eq_true'] at hk
      rcases hk with ht | hl
      · exact (Comm.pure_any (p1 ht)).1
      · have hw : isWriteAt quiet ops j = true := by simp [isWriteAt, hj, h2]
        rcases fx_load (P := P) (cf := cf) (sz := sz) (n0 := n0) (B := B) (i := i) T hl (Array.getElem?_eq_some_iff.1 hj).1 hw hb hb' with h | ⟨b, hB, h⟩
        · exact (Comm.pure_any h).1
        · rcases w2 h2 with h' | h'
          · exact (Comm.at_write h h' (hidden_kept hw hB)).1
          · exact (Comm.pure_any h').2
  | new =>
    rcases n1 h1 with h | h
    · cases h2 : kindOf quiet oj.op with
      | quiet => exact (Comm.read_new (q2 h2).1 h (hidden_at hi h1 (by omega) hb)).2
      | new =>
        rcases n2 h2 with h' | h'
        · exact Comm.new_new h h' (by have := rank_ne hi hj h1 h2 (by omega); omega)
        · exact (Comm.pure_any h').2
      | write =>
        rcases w2 h2 with h' | h'
        · exact (Comm.write_new h' h (hidden_at hi h1 (by omega) hb)).2
        · exact (Comm.pure_any h').2
    · exact (Comm.pure_any h).1
  | write =>
    rcases w1 h1 with h | h
    · cases h2 : kindOf quiet oj.op with
      | quiet =>
        rw [h1, h2] at hk
        simp only [Bool.or_eq_true, Bool.not_eq_true'] at hk
        rcases hk with ht | hl
        · exact (Comm.pure_any ((q2 h2).2 ht)).2
        · have hw : isWriteAt quiet ops i = true := by simp [isWriteAt, hi, h1]
          rcases fx_load (P := P) (cf := cf) (sz := sz) (n0 := n0) (B := B) (i := j) T hl (Array.getElem?_eq_some_iff.1 hi).1 hw hb' hb with h' | ⟨b, hB, h'⟩
          · exact (Comm.pure_any h').2
          · exact (Comm.at_write h' h (hidden_kept hw hB)).2
      | new =>
        rcases n2 h2 with h' | h'
        · exact (Comm.write_new h h' (hidden_at hj h2 (by omega) hb')).1
        · exact (Comm.pure_any h').2
      | write => rw [h1, h2] at hk; simp at hk
    · exact (Comm.pure_any h).1

theorem put_comm {T : Slots} {d e : Option Tmp} {v u : AV} (h : ∀ x y, d = some x → e = some y → x ≠ y) : put (put T d v) e u = put (put T e u) d v := by
  cases d with
  | none => cases e <;> rfl
  | some x =>
    cases e with
    | none => rfl
    | some y =>
      have hne := h x y rfl rfl
      funext b
      simp only [put]
      by_cases h1 : b = x
      · subst h1; rw [upd_ne _ _ hne, upd_same, upd_same]
      · rw [upd_ne (upd T y u) _ h1]
        by_cases h2 : b = y
        · subst h2; rw [upd_same, upd_same]
        · rw [upd_ne _ _ h2, upd_ne _ _ h1, upd_ne _ _ h2]

theorem put_looks {T : Slots} {d : Option Tmp} {v : AV} {o : Oper} (h : ∀ x, d = some x → x ∉ o.looksAt ops) : ∀ t ∈ o.looksAt ops, put T d v t = T t := by
  intro t ht
  cases d with
  | none => rfl
  | some x => simp only [put]; exact upd_ne _ _ fun e => h x rfl (e ▸ ht)

theorem apart_parts {a b : Oper} (h : apartOps ops a b = true) : (∀ x, a.dst = some x → x ∉ b.looksAt ops) ∧ (∀ x, b.dst = some x → x ∉ a.looksAt ops) ∧ (∀ x y, a.dst = some x → b.dst = some y → x ≠ y) := by
  unfold apartOps Oper.apart at h
  simp only [Bool.and_eq_true] at h
  obtain ⟨⟨h1, h2⟩, h3, h4⟩ := h
  refine ⟨fun x hx => ?_, fun x hx => ?_, fun x y hx hy e => ?_⟩
  · rw [hx] at h1; simp at h1; exact h1.1
  · rw [hx] at h2; simpa using h2
  · subst e; rw [hx, hy] at h1; simp at h1

/-- TWO STEPS THAT DON'T WAIT FOR ONE ANOTHER MAY CHANGE PLACES. -/
theorem step_swap (F : DrawFacts quiet ops) {i j : Nat} {oi oj : Oper} (hij : i < j) (hi : ops[i]? = some oi) (hj : ops[j]? = some oj) (hb : isBefore (befores ops) i j = false) {T T1 T2 : Slots} {H H1 H2 : AH}
    (h1 : dstep P quiet cf sz ops n0 B i oi T H = some (T1, H1)) (h2 : dstep P quiet cf sz ops n0 B j oj T1 H1 = some (T2, H2)) :
    ∃ T1' H1', dstep P quiet cf sz ops n0 B j oj T H = some (T1', H1') ∧ dstep P quiet cf sz ops n0 B i oi T1' H1' = some (T2, H2) := by
  obtain ⟨hap, hko⟩ := (F.apart i j oi oj hij hi hj).resolve_left (by simp [hb])
  obtain ⟨a1, a2, a3⟩ := apart_parts hap
  rw [dstep_dfx, Option.map_eq_some_iff] at h1 h2
  obtain ⟨⟨v, K1⟩, e1, e2⟩ := h1
  obtain ⟨rfl, rfl⟩ := Prod.mk.inj e2
  obtain ⟨⟨u, K2⟩, e3, e4⟩ := h2
  obtain ⟨rfl, rfl⟩ := Prod.mk.inj e4
  rw [dfx_agree (put_looks a1)] at e3
  obtain ⟨H1', g1, g2⟩ := comm_ops (P := P) (cf := cf) (sz := sz) (n0 := n0) F hij hi hj hb hko T H v _ u _ e1 e3
  refine ⟨put T oj.dst u, H1', by rw [dstep_dfx, g1]; rfl, ?_⟩
  rw [dstep_dfx, dfx_agree (put_looks a2), g2]
  simp only [Option.map_some]
  rw [put_comm (d := oj.dst) (e := oi.dst) (fun x y hx hy e => a3 y x hy hx e.symm)]

/-- the operations that are left, in the text's order -/
def Left (ops : Array Oper) (R : List (Nat × Oper)) : Prop := (∀ p ∈ R, ops[p.1]? = some p.2) ∧ R.Pairwise fun p q => p.1 < q.1

theorem bubble (F : DrawFacts quiet ops) {i : Nat} {oi : Oper} : ∀ (pre post : List (Nat × Oper)) {T T' : Slots} {H H' : AH}, Left ops (pre ++ (i, oi) :: post) → (∀ p ∈ pre, isBefore (befores ops) p.1 i = false) → dops P quiet cf sz ops n0 B (pre ++ (i, oi) :: post) T H = some (T', H') →
    ∃ T1 H1, dstep P quiet cf sz ops n0 B i oi T H = some (T1, H1) ∧ dops P quiet cf sz ops n0 B (pre ++ post) T1 H1 = some (T', H')
  | [], post, T, T', H, H', hL, hb, h => by
    simp only [List.nil_append, dops] at h
    split at h
    · rename_i T1 H1 h1; exact ⟨T1, H1, h1, h⟩
    · cases h
  | (a, oa) :: pre, post, T, T', H, H', hL, hb, h => by
    simp only [List.cons_append, dops] at h
    split at h
    · rename_i T1 H1 h1
      have hL' : Left ops (pre ++ (i, oi) :: post) := ⟨fun p hp => hL.1 p (List.mem_cons_of_mem _ hp), (List.pairwise_cons.1 hL.2).2⟩
      obtain ⟨T2, H2, g1, g2⟩ := bubble F pre post hL' (fun p hp => hb p (List.mem_cons_of_mem _ hp)) h
      have hai : a < i := (List.pairwise_cons.1 hL.2).1 (i, oi) (by simp)
      obtain ⟨T3, H3, k1, k2⟩ := step_swap F hai (hL.1 (a, oa) (by simp)) (hL.1 (i, oi) (by simp)) (hb (a, oa) (by simp)) h1 g1
      exact ⟨T3, H3, k1, by simp only [List.cons_append, dops, k2]; exact g2⟩
    · cases h

end
end Go.Eng
namespace Go.Eng
set_option linter.unusedVariables false
set_option linter.unusedSimpArgs false

section
variable {P : Program} {quiet : FuncId → Bool} {cf : CallF} {sz : Nat} {ops : Array Oper} {n0 : Nat} {B : Nat → Nat → Bool} {μ0 : Mu} {ok0 : Ok} {H0 : AH} {w0 : World}

theorem hide_live {S : Nat → Bool} {g : Nat → AB} {b : Nat} (h : (hide S g b).live) : S b = false ∧ (g b).live := by
  unfold hide at h
  split at h
  · exact h.elim
  · rename_i hs; exact ⟨by simpa using hs, h⟩
theorem hide_writable {S : Nat → Bool} {g : Nat → AB} {b : Nat} (h : (hide S g b).writable) : S b = false ∧ (g b).writable := by
  unfold hide at h
  split at h
  · exact h.elim
  · rename_i hs; exact ⟨by simpa using hs, h⟩
theorem hide_of {S : Nat → Bool} {g : Nat → AB} {b : Nat} (h : S b = false) : hide S g b = g b := by unfold hide; simp [h]

theorem Sim.hide {μ : Mu} {ok : Ok} {H : AH} {w : World} (Sm : Sim μ ok H w) (S : Nat → Bool) : Sim μ ok { g := Eng.hide S H.g, n := H.n } w :=
  ⟨Sm.top, fun b h => Sm.known b (hide_live h).2, fun b => by
    by_cases hs : S b = true
    · have : Eng.hide S H.g b = .dead := by unfold Eng.hide; simp [hs]
      simp only [this]; trivial
    · simp only [hide_of (g := H.g) (by simpa using hs)]; exact Sm.blk b, fun b b' h h' hne => Sm.inj b b' (hide_writable h).2 (hide_live h').2 hne⟩

theorem ro_live {x : AB} (h : x.ro.live) : x.live := by cases x <;> simp_all [AB.ro, AB.live]
theorem ro_not {x : AB} (h : x.ro.writable) : False := by cases x <;> simp_all [AB.ro, AB.writable]

theorem Sim.roAll {μ : Mu} {ok : Ok} {H : AH} {w : World} (Sm : Sim μ ok H w) : Sim μ ok { g := Eng.roAll H.g, n := H.n } w :=
  ⟨Sm.top, fun b h => Sm.known b (ro_live h), fun b => by
    have hB := Sm.blk b
    show BRel μ ok w (μ b) (H.g b).ro
    cases hg : H.g b with
    | dead => trivial
    | cells cs e ro =>
      rw [hg] at hB
      obtain ⟨cs', fr, h1, h2, h3, h4, h5⟩ := hB
      exact ⟨cs', fr, h1, h2, h3, h4, fun e => by cases e⟩
    | map es c ro => rw [hg] at hB; exact hB, fun b b' h h' hne => (ro_not h).elim⟩

/-- WHAT WAS HIDDEN HAS STAYED. -/
theorem unhide {N : Nat} {S : Nat → Bool} {μ μ' : Mu} {ok ok' : Ok} {H H1 : AH} {w w' : World} (Sm : Sim μ ok H w) (Sm' : Sim μ' ok' H1 w') (st : Step N μ ok { g := hide S H.g, n := H.n } w μ' ok' H1 w') :
    Sim μ' ok' { g := restore S H.g H1.g, n := H1.n } w' ∧ Step N μ ok H w μ' ok' { g := restore S H.g H1.g, n := H1.n } w' := by
  have hr1 : ∀ b, S b = true → restore S H.g H1.g b = H.g b := fun b h => by unfold restore; simp [h]
  have hr0 : ∀ b, S b = false → restore S H.g H1.g b = H1.g b := fun b h => by unfold restore; simp [h]
  have nwr : ∀ b, S b = true → (H.g b).live → ¬ Wr μ { g := hide S H.g, n := H.n } (μ b).blk := by
    rintro b hs hl ⟨b', h1, h2⟩
    obtain ⟨h3, h4⟩ := hide_writable h1
    have hne : b' ≠ b := fun e => by subst e; rw [hs] at h3; cases h3
    exact Sm.inj b' b h4 hl hne h2
  have wrup : ∀ c, Wr μ { g := hide S H.g, n := H.n } c → Wr μ H c := fun c ⟨b, h1, h2⟩ => ⟨b, (hide_writable h1).2, h2⟩
  have lt : ∀ b, (H.g b).live → (μ b).blk < w.heap.size := fun b h => (Sm.blk b).lt h
  refine ⟨⟨Sm'.top, ?_, ?_, ?_⟩, ⟨st.old, st.fresh, st.n, ?_, ?_, st.os, st.tape, st.output, st.drawn, st.size, fun c hc hn => st.keep c hc fun h => hn (wrup c h)⟩⟩
  · intro b h
    cases hs : S b with
    | true => simp only [hr1 b hs] at h; exact (st.old b (Sm.known b h)).1
    | false => simp only [hr0 b hs] at h; exact Sm'.known b h
  · intro b
    cases hs : S b with
    | true =>
      simp only [hr1 b hs]
      by_cases hl : (H.g b).live
      · have hok := Sm.known b hl
        rw [(st.old b hok).2]
        exact (Sm.blk b).mono st.old fun _ => st.keep _ (lt b hl) (nwr b hs hl)
      · cases hg : H.g b with
        | dead => trivial
        | cells cs e ro => rw [hg] at hl; exact absurd trivial hl
        | map es c ro => rw [hg] at hl; exact absurd trivial hl
    | false => simp only [hr0 b hs]; exact Sm'.blk b
  · intro b b' h h' hne
    have cross : ∀ x y, S x = true → S y = false → (H.g x).live → (H1.g y).live → ((H.g x).writable ∨ (H1.g y).writable) → (μ' x).blk ≠ (μ' y).blk := by
      intro x y hx hy h1 h2 h3 e
      have hokx := Sm.known x h1
      rw [(st.old x hokx).2] at e
      by_cases hw : (H1.g y).writable
      · rcases st.wr (μ' y).blk ⟨y, hw, rfl⟩ with h4 | h4
        · exact nwr x hx h1 (e ▸ h4)
        · have := lt x h1; omega
      · obtain ⟨h4, h5⟩ := st.ro y h2 hw
        obtain ⟨_, h6⟩ := hide_live h4
        rw [(st.old y (Sm.known y h6)).2] at e
        have hxw : (H.g x).writable := h3.resolve_right hw
        exact Sm.inj x y hxw h6 (fun e => by subst e; rw [hx] at hy; cases hy) e
    cases hs : S b with
    | true =>
      simp only [hr1 b hs] at h
      cases hs' : S b' with
      | true =>
        simp only [hr1 b' hs'] at h'
        rw [(st.old b (Sm.known b h.live)).2, (st.old b' (Sm.known b' h')).2]
        exact Sm.inj b b' h h' hne
      | false =>
        simp only [hr0 b' hs'] at h'
        exact cross b b' hs hs' h.live h' (.inl h)
    | false =>
      simp only [hr0 b hs] at h
      cases hs' : S b' with
      | true =>
        simp only [hr1 b' hs'] at h'
        exact Ne.symm (cross b' b hs' hs h' h.live (.inr h))
      | false =>
        simp only [hr0 b' hs'] at h'
        exact Sm'.inj b b' h h' hne
  · rintro c ⟨b, h, rfl⟩
    cases hs : S b with
    | true =>
      simp only [hr1 b hs] at h
      rw [(st.old b (Sm.known b h.live)).2]
      exact .inl ⟨b, h, rfl⟩
    | false =>
      simp only [hr0 b hs] at h
      rcases st.wr _ ⟨b, h, rfl⟩ with h4 | h4
      · exact .inl (wrup _ h4)
      · exact .inr h4
  · intro b h1 h2
    cases hs : S b with
    | true => simp only [hr1 b hs] at h1 h2; exact ⟨h1, h2⟩
    | false =>
      simp only [hr0 b hs] at h1 h2
      obtain ⟨h3, h4⟩ := st.ro b h1 h2
      simp only [hide_of hs] at h3 h4
      exact ⟨h3, h4⟩

theorem flat1_rel {μ μ' : Mu} {ok ok' : Ok} {a : AV} {v : Value} (h : a.flat1 = true) (r : VRel μ ok a v) : VRel μ' ok' a v := by
  cases a with
  | ptr p => cases p <;> simp_all [AV.flat1, VRel]
  | map p => cases p <;> simp_all [AV.flat1, VRel]
  | slc p l c s => cases p <;> simp_all [AV.flat1, VRel]
  | fn f x y =>
    cases x with
    | cons _ _ => simp [AV.flat1] at h
    | nil =>
      cases y with
      | cons _ _ => simp [AV.flat1] at h
      | nil => simpa [VRel, VRels] using r
  | agg cs => simp [AV.flat1] at h
  | tup cs => simp [AV.flat1] at h
  | _ => simpa [VRel] using r

theorem flats_rel {p : AV → Bool} {μ μ' : Mu} {ok ok' : Ok} (hp : ∀ a v, p a = true → VRel μ ok a v → VRel μ' ok' a v) : ∀ {as : List AV} {vs : List Value}, as.all p = true → VRels μ ok as vs → VRels μ' ok' as vs
  | [], vs, _, r => by simpa [VRels] using r
  | a :: as, vs, h, r => by
    simp only [VRels] at r ⊢
    obtain ⟨v, vs, rfl, h1, h2⟩ := r
    simp only [List.all_cons, Bool.and_eq_true] at h
    exact ⟨v, vs, rfl, hp a v h.1 h1, flats_rel hp h.2 h2⟩

theorem flat_rel {μ μ' : Mu} {ok ok' : Ok} {a : AV} {v : Value} (h : a.flat = true) (r : VRel μ ok a v) : VRel μ' ok' a v := by
  cases a with
  | agg cs => simp only [VRel] at r ⊢; obtain ⟨cs', e, hr⟩ := r; exact ⟨cs', e, flats_rel (fun a v h r => flat1_rel h r) h hr⟩
  | _ => exact flat1_rel h r

theorem flatT_rel {μ μ' : Mu} {ok ok' : Ok} {a : AV} {v : Value} (h : a.flatT = true) (r : VRel μ ok a v) : VRel μ' ok' a v := by
  cases a with
  | tup cs => simp only [VRel] at r ⊢; obtain ⟨cs', e, hr⟩ := r; exact ⟨cs', e, flats_rel (fun a v h r => flat_rel h r) h hr⟩
  | _ => exact flat_rel h r

/-- a state within a region that draws -/
def DSt (quiet : FuncId → Bool) (ops : Array Oper) (n0 : Nat) (μ0 : Mu) (ok0 : Ok) (H0 : AH) (w0 : World) (sz : Nat) (R : List (Nat × Oper)) (T : Slots) (H : AH) (a : Act) (w : World) : Prop :=
  ∃ μ ok, TRel μ ok sz T a.tmps ∧ Sim μ ok H w ∧ Step H0.n μ0 ok0 H0 w0 μ ok H w ∧ a.defers = [] ∧ H0.n ≤ n0 ∧ n0 + rank quiet ops ops.size ≤ H.n ∧
    ∀ p ∈ R, kindOf quiet p.2.op = .new → ¬ ok (n0 + rank quiet ops p.1)

theorem rank_total {i : Nat} {oi : Oper} (hi : ops[i]? = some oi) (hk : kindOf quiet oi.op = .new) : rank quiet ops i < rank quiet ops ops.size :=
  rank_lt hi hk (Array.getElem?_eq_some_iff.1 hi).1

theorem dstep_sound (hcf : Sound P cf) {i : Nat} {o : Oper} (hi : ops[i]? = some o) {R R' : List (Nat × Oper)} (hR : Left ops R) (hin : (i, o) ∈ R) (hR' : ∀ p ∈ R', p ∈ R ∧ p.1 ≠ i) {T T' : Slots} {H H' : AH} (h : dstep P quiet cf sz ops n0 B i o T H = some (T', H')) {a : Act} {w : World}
    (st : DSt quiet ops n0 μ0 ok0 H0 w0 sz R T H a w) {K : Act → World → Prop} {Q : Exit → Act → World → Prop} (hK : ∀ a' w', DSt quiet ops n0 μ0 ok0 H0 w0 sz R' T' H' a' w' → K a' w') :
    if Region.wanted o (yielded ops a.tmps) then o.wp P a w K Q else K (a.put o.dst undef) w := by
  obtain ⟨μ, ok, hT, S, hst, hdef, hn0, hnH, hun⟩ := st
  rw [wanted_eq hT o]
  unfold dstep at h
  split at h
  case isFalse => cases h
  rename_i hd
  split at h
  case isFalse hw =>
    rw [if_neg hw]
    simp only [Option.some.injEq, Prod.mk.injEq] at h
    obtain ⟨rfl, rfl⟩ := h
    exact hK _ _ ⟨μ, ok, hT.put hd VRel.undef, S, hst, by rw [put_defers, hdef], hn0, hnH, fun p hp hk => hun p (hR' p hp).1 hk⟩
  rename_i hw
  rw [if_pos hw]
  have hSh := S.hide (hidden quiet ops n0 B i)
  -- numbers of blocks that are still to be made
  have still : ∀ (ok' : Ok) (nid : Nat), (∀ b, ok' b → ok b ∨ b = nid ∨ H.n ≤ b) → (∀ p ∈ R', kindOf quiet p.2.op = .new → n0 + rank quiet ops p.1 ≠ nid) → ∀ p ∈ R', kindOf quiet p.2.op = .new → ¬ ok' (n0 + rank quiet ops p.1) := by
    intro ok' nid h1 h2 p hp hk hok
    rcases h1 _ hok with h3 | h3 | h3
    · exact hun p (hR' p hp).1 hk h3
    · exact h2 p hp hk h3
    · have := rank_total (hR.1 p (hR' p hp).1) hk
      omega
  have nidne : ∀ p ∈ R', kindOf quiet p.2.op = .new → n0 + rank quiet ops p.1 ≠ H.n := by
    intro p hp hk
    have := rank_total (hR.1 p (hR' p hp).1) hk
    omega
  cases hk : kindOf quiet o.op with
  | quiet =>
    simp only [hk] at h
    split at h
    · rename_i v e ha
      split at h
      case isFalse => cases h
      simp only [Option.some.injEq, Prod.mk.injEq] at h
      obtain ⟨rfl, rfl⟩ := h
      have he := quiet_eff hk ha
      subst he
      obtain ⟨v', w', hu, μ', ok', hv, hs, hstep, hokk⟩ := aop_sound (N := H0.n) (n' := H.n + 1) hSh (hSh.top _ (Nat.le_refl _)) hst.n (Nat.le_succ _) (Nat.lt_succ_self _) (aeval_rel hT) ha
      simp only [AH.appAt, applyWs] at hs hstep
      obtain ⟨hs2, hst2⟩ := unhide S hs hstep
      have hres : restore (hidden quiet ops n0 B i) H.g (hide (hidden quiet ops n0 B i) H.g) = H.g := by
        funext b; unfold restore hide; split <;> rfl
      simp only [hres] at hs2 hst2
      have fin : DSt quiet ops n0 μ0 ok0 H0 w0 sz R' (put T o.dst v) H (a.put o.dst v') w' :=
        ⟨μ', ok', (hT.mono hst2.old).put hd hv, hs2, hst.trans hst2 (Nat.le_refl _), by rw [put_defers, hdef], hn0, hnH, still ok' H.n (fun b hb => by rcases hokk b hb with h | h; exact .inl h; exact .inr (.inl h)) nidne⟩
      rcases hu with hu | ⟨hu, rfl⟩ <;> (unfold Oper.wp; rw [hu]; exact hK _ _ fin)
    · rename_i f args ha
      split at h
      · rename_i v H1 hc
        split at h
        · rename_i hflat
          simp only [Option.some.injEq, Prod.mk.injEq] at h
          obtain ⟨rfl, rfl⟩ := h
          obtain ⟨args', hrun, hargs⟩ := aop_sound (N := H0.n) (n' := H.n + 1) hSh (hSh.top _ (Nat.le_refl _)) hst.n (Nat.le_succ _) (Nat.lt_succ_self _) (aeval_rel hT) ha
          obtain ⟨hent, hcall⟩ := hcf _ _ _ _ _ hc
          unfold Oper.wp
          rw [hrun, hent args' w, Oper.upon_enter]
          refine (hcall μ ok w args' hSh.roAll hargs).mono ?_
          rintro e w' ⟨v', μ', ok', rfl, hv, hs, hstep⟩
          have hkeep : ∀ c, c < w.heap.size → w'.heap[c]? = w.heap[c]? := fun c hc => hstep.keep c hc fun ⟨b, hb, _⟩ => ro_not hb
          have hs2 : Sim μ ok H w' := ⟨S.top, S.known, fun b => (S.blk b).mono (fun b h => ⟨h, rfl⟩) fun hl => hkeep _ ((S.blk b).lt hl), S.inj⟩
          have hst2 : Step H0.n μ ok H w μ ok H w' := ⟨fun b h => ⟨h, rfl⟩, fun b h => .inl h, Nat.le_refl _, fun c h => .inl h, fun b h1 h2 => ⟨h1, h2⟩, hstep.os, hstep.tape, hstep.output, hstep.drawn, hstep.size, fun c hc _ => hkeep c hc⟩
          exact hK _ _ ⟨μ, ok, hT.put hd (flatT_rel hflat hv), hs2, hst.trans hst2 (Nat.le_refl _), by rw [put_defers, hdef], hn0, hnH, fun p hp hk => hun p (hR' p hp).1 hk⟩
        · cases h
      · cases h
    · cases h
  | new =>
    simp only [hk] at h
    split at h
    · rename_i v x ha
      simp only [Option.some.injEq, Prod.mk.injEq] at h
      obtain ⟨rfl, rfl⟩ := h
      have hrt := rank_total (quiet := quiet) hi hk
      have hown := hidden_own (n0 := n0) (B := B) hi hk
      obtain ⟨v', w', hu, μ', ok', hv, hs, hstep, hokk⟩ := aop_sound (N := H0.n) (nid := n0 + rank quiet ops i) (n' := H.n) hSh (hun (i, o) hin hk) (by omega) (Nat.le_refl _) (by omega) (aeval_rel hT) ha
      simp only [AH.appAt, applyWs] at hs hstep
      obtain ⟨hs2, hst2⟩ := unhide S hs hstep
      have hres : restore (hidden quiet ops n0 B i) H.g (upd (hide (hidden quiet ops n0 B i) H.g) (n0 + rank quiet ops i) x) = upd H.g (n0 + rank quiet ops i) x := by
        funext b
        by_cases e : b = n0 + rank quiet ops i
        · subst e; unfold restore; rw [hown]; simp [upd_same]
        · unfold restore hide; rw [upd_ne _ _ e, upd_ne _ _ e]; split <;> rfl
      simp only [hres] at hs2 hst2
      have fin : DSt quiet ops n0 μ0 ok0 H0 w0 sz R' (put T o.dst v) { g := upd H.g (n0 + rank quiet ops i) x, n := H.n } (a.put o.dst v') w' :=
        ⟨μ', ok', (hT.mono hst2.old).put hd hv, hs2, hst.trans hst2 (Nat.le_refl _), by rw [put_defers, hdef], hn0, hnH,
          still ok' (n0 + rank quiet ops i) (fun b hb => by rcases hokk b hb with h | h; exact .inl h; exact .inr (.inl h)) (fun p hp hkp e => by
            have := rank_ne (hR.1 p (hR' p hp).1) hi hkp hk (hR' p hp).2
            omega)⟩
      rcases hu with hu | ⟨hu, rfl⟩ <;> (unfold Oper.wp; rw [hu]; exact hK _ _ fin)
    · cases h
  | write =>
    simp only [hk] at h
    split at h
    · rename_i v e ha
      simp only [Option.some.injEq, Prod.mk.injEq] at h
      obtain ⟨rfl, rfl⟩ := h
      obtain ⟨v', w', hu, μ', ok', hv, hs, hstep, hokk⟩ := aop_sound (N := H0.n) (n' := H.n + 1) hSh (hSh.top _ (Nat.le_refl _)) hst.n (Nat.le_succ _) (Nat.lt_succ_self _) (aeval_rel hT) ha
      have happ := app_eq { g := hide (hidden quiet ops n0 B i) H.g, n := H.n } e
      simp only at happ
      rw [← happ] at hs hstep
      obtain ⟨hs2, hst2⟩ := unhide S hs hstep
      have fin : DSt quiet ops n0 μ0 ok0 H0 w0 sz R' (put T o.dst v) { g := restore (hidden quiet ops n0 B i) H.g (AH.app { g := hide (hidden quiet ops n0 B i) H.g, n := H.n } e).g, n := (AH.app { g := hide (hidden quiet ops n0 B i) H.g, n := H.n } e).n } (a.put o.dst v') w' :=
        ⟨μ', ok', (hT.mono hst2.old).put hd hv, hs2, hst.trans hst2 (Nat.le_refl _), by rw [put_defers, hdef], hn0, Nat.le_trans hnH hst2.n,
          still ok' H.n (fun b hb => by rcases hokk b hb with h | h; exact .inl h; exact .inr (.inl h)) nidne⟩
      rcases hu with hu | ⟨hu, rfl⟩ <;> (unfold Oper.wp; rw [hu]; exact hK _ _ fin)
    · rename_i f args ha
      split at h
      · rename_i v H1 hc
        simp only [Option.some.injEq, Prod.mk.injEq] at h
        obtain ⟨rfl, rfl⟩ := h
        obtain ⟨args', hrun, hargs⟩ := aop_sound (N := H0.n) (n' := H.n + 1) hSh (hSh.top _ (Nat.le_refl _)) hst.n (Nat.le_succ _) (Nat.lt_succ_self _) (aeval_rel hT) ha
        obtain ⟨hent, hcall⟩ := hcf _ _ _ _ _ hc
        unfold Oper.wp
        rw [hrun, hent args' w, Oper.upon_enter]
        refine (hcall μ ok w args' hSh hargs).mono ?_
        rintro e w' ⟨v', μ', ok', rfl, hv, hs, hstep⟩
        obtain ⟨hs2, hst2⟩ := unhide S hs hstep
        exact hK _ _ ⟨μ', ok', (hT.mono hst2.old).put hd hv, hs2, hst.trans hst2 hst.n, by rw [put_defers, hdef], hn0, Nat.le_trans hnH hst2.n,
          still ok' H.n (fun b hb => by rcases hst2.fresh b hb with h | h; exact .inl h; exact .inr (.inr h)) nidne⟩
      · cases h
    · cases h

end
end Go.Eng
namespace Go.Eng
set_option linter.unusedVariables false
set_option linter.unusedSimpArgs false

section
variable {P : Program} {quiet : FuncId → Bool} {cf : CallF} {sz : Nat} {ops : Array Oper} {n0 : Nat} {B : Nat → Nat → Bool} {μ0 : Mu} {ok0 : Ok} {H0 : AH} {w0 : World}

theorem numbered_get : ∀ (l : List Oper) (k : Nat) (p : Nat × Oper), p ∈ numbered l k → k ≤ p.1 ∧ l[p.1 - k]? = some p.2
  | [], k, p, h => by simp [numbered] at h
  | o :: l, k, p, h => by
    simp only [numbered, List.mem_cons] at h
    rcases h with rfl | h
    · simp
    · obtain ⟨h1, h2⟩ := numbered_get l (k + 1) p h
      refine ⟨by omega, ?_⟩
      have : p.1 - k = (p.1 - (k + 1)) + 1 := by omega
      rw [this]; simpa using h2

theorem numbered_has : ∀ (l : List Oper) (k i : Nat) (o : Oper), l[i]? = some o → (k + i, o) ∈ numbered l k
  | [], k, i, o, h => by simp at h
  | x :: l, k, i, o, h => by
    simp only [numbered, List.mem_cons]
    cases i with
    | zero => simp at h; subst h; exact .inl rfl
    | succ i =>
      have := numbered_has l (k + 1) i o (by simpa using h)
      rw [show k + (i + 1) = k + 1 + i by omega]
      exact .inr this

theorem numbered_sorted : ∀ (l : List Oper) (k : Nat), (numbered l k).Pairwise fun p q => p.1 < q.1
  | [], k => by simp [numbered]
  | x :: l, k => by
    simp only [numbered, List.pairwise_cons]
    exact ⟨fun p hp => by have := (numbered_get l (k + 1) p hp).1; omega, numbered_sorted l (k + 1)⟩

theorem numbered_length : ∀ (l : List Oper) (k : Nat), (numbered l k).length = l.length
  | [], _ => rfl
  | x :: l, k => by simp [numbered, numbered_length l (k + 1)]

/-- what has come up, and what is left -/
structure Listed (ops : Array Oper) (R : List (Nat × Oper)) (listed : Array Bool) : Prop where
  size : listed.size = ops.size
  left : Left ops R
  mem : ∀ (i : Nat) o, ops[i]? = some o → ((i, o) ∈ R ↔ listed.getD i true = false)
  closed : ∀ (i : Nat) o, ops[i]? = some o → listed.getD i true = true → ∀ e ∈ o.after, Region.binds .any e = true → listed.getD e.on false = true

theorem listed_both {listed : Array Bool} {i : Nat} (h : i < listed.size) : listed.getD i true = listed.getD i false := by
  simp [Array.getD, h]

theorem not_before (F : DrawFacts quiet ops) {R : List (Nat × Oper)} {listed : Array Bool} (L : Listed ops R listed) : ∀ (j i : Nat) oj, ops[j]? = some oj → (∀ e ∈ oj.after, Region.binds .any e = true → listed.getD e.on false = true) → isBefore (befores ops) i j = true → listed.getD i false = true := by
  intro j
  induction j using Nat.strongRecOn with
  | _ j ih =>
    intro i oj hj hready h
    obtain ⟨e, he, hb, h1⟩ := before_bit hj (F.back j oj hj) h
    have hlt := F.back j oj hj e he hb
    have hl := hready e he hb
    rcases h1 with h1 | h1
    · rw [← h1]; exact hl
    · have hsz : e.on < ops.size := Nat.lt_trans hlt (Array.getElem?_eq_some_iff.1 hj).1
      have hoe : ops[e.on]? = some ops[e.on] := Array.getElem?_eq_getElem hsz
      refine ih e.on hlt i _ hoe ?_ h1
      exact L.closed e.on _ hoe (by rw [listed_both (by rw [L.size]; exact hsz)]; exact hl)

theorem draw_any (hcf : Sound P cf) (F : DrawFacts quiet ops) {Q : Exit → Act → World → Prop} {T' : Slots} {H' : AH} (hQ : ∀ a' w', DSt quiet ops n0 μ0 ok0 H0 w0 sz [] T' H' a' w' → Q .normal a' w') :
    ∀ (fuel : Nat) (R : List (Nat × Oper)) (listed : Array Bool) {T : Slots} {H : AH} {a : Act} {w : World}, R.length = fuel → Listed ops R listed → dops P quiet cf sz ops n0 B R T H = some (T', H') → DSt quiet ops n0 μ0 ok0 H0 w0 sz R T H a w → wpAny P .any ops Q fuel listed a w := by
  have first : ∀ (R : List (Nat × Oper)) (listed : Array Bool), Listed ops R listed → R ≠ [] → Region.ready .any ops listed ≠ [] := by
    intro R listed L hne
    cases R with
    | nil => exact absurd rfl hne
    | cons p R =>
      obtain ⟨i, o⟩ := p
      have hi := L.left.1 (i, o) (by simp)
      have hsz := (Array.getElem?_eq_some_iff.1 hi).1
      have : i ∈ Region.ready .any ops listed := by
        unfold Region.ready
        rw [List.mem_filter]
        refine ⟨List.mem_range.2 hsz, ?_⟩
        have h1 := (L.mem i o hi).1 (by simp)
        simp only [h1, Bool.not_false, Bool.true_and, hi, Option.map_some, Option.getD_some, Array.all_eq_true_iff_forall_mem]
        intro e he
        by_cases hb : Region.binds .any e = true
        · have hlt := F.back i o hi e he hb
          have hes : e.on < ops.size := Nat.lt_trans hlt hsz
          have hoe : ops[e.on]? = some ops[e.on] := Array.getElem?_eq_getElem hes
          have hl : listed.getD e.on false = true := by
            cases h : listed.getD e.on false with
            | true => rfl
            | false =>
              have h2 : (e.on, ops[e.on]) ∈ (i, o) :: R := (L.mem e.on _ hoe).2 (by rw [listed_both (by rw [L.size]; exact hes)]; exact h)
              rcases List.mem_cons.1 h2 with h3 | h3
              · have := (Prod.mk.inj h3).1; omega
              · have := (List.pairwise_cons.1 L.left.2).1 _ h3
                simp only at this; omega
          simp [hl]
        · simp [hb]
      intro e; rw [e] at this; cases this
  intro fuel
  induction fuel with
  | zero =>
    intro R listed T H a w hlen L h st
    have : R = [] := List.eq_nil_of_length_eq_zero hlen
    subst this
    simp only [dops, Option.some.injEq, Prod.mk.injEq] at h
    obtain ⟨rfl, rfl⟩ := h
    refine ⟨?_, hQ _ _ st⟩
    rw [List.eq_nil_iff_forall_not_mem]
    intro i hi
    unfold Region.ready at hi
    rw [List.mem_filter] at hi
    have hs := List.mem_range.1 hi.1
    have hoi : ops[i]? = some ops[i] := Array.getElem?_eq_getElem hs
    have h2 := hi.2
    simp only [Bool.and_eq_true, Bool.not_eq_true'] at h2
    have := (L.mem i _ hoi).2 h2.1
    cases this
  | succ fuel ih =>
    intro R listed T H a w hlen L h st
    refine ⟨fun e => absurd e (first R listed L (by intro e; subst e; cases hlen)), fun i hi => ?_⟩
    unfold Region.ready at hi
    rw [List.mem_filter] at hi
    have hs := List.mem_range.1 hi.1
    have hoi : ops[i]? = some ops[i] := Array.getElem?_eq_getElem hs
    have h2 := hi.2
    simp only [Bool.and_eq_true, Bool.not_eq_true', hoi, Option.map_some, Option.getD_some, Array.all_eq_true_iff_forall_mem] at h2
    obtain ⟨hun, hready⟩ := h2
    have hready : ∀ e ∈ ops[i].after, Region.binds .any e = true → listed.getD e.on false = true := by
      intro e he hb
      have := hready e he
      simpa [hb] using this
    have hmem := (L.mem i _ hoi).2 hun
    obtain ⟨pre, post, rfl⟩ := List.append_of_mem hmem
    have hpre : ∀ p ∈ pre, isBefore (befores ops) p.1 i = false := by
      intro p hp
      cases hb : isBefore (befores ops) p.1 i with
      | false => rfl
      | true =>
        have h3 := not_before F L i p.1 _ hoi hready hb
        have hop := L.left.1 p (by simp [hp])
        have h4 := (L.mem p.1 p.2 hop).1 (by simp [hp])
        rw [listed_both (by rw [L.size]; exact (Array.getElem?_eq_some_iff.1 hop).1)] at h4
        rw [h3] at h4; cases h4
    obtain ⟨T1, H1, g1, g2⟩ := bubble F pre post L.left hpre h
    have hneq : ∀ p ∈ pre ++ post, p.1 ≠ i := by
      intro p hp e
      have hpw := L.left.2
      rw [List.pairwise_append] at hpw
      rcases List.mem_append.1 hp with hp | hp
      · have := hpw.2.2 p hp (i, ops[i]) (by simp)
        simp only at this; omega
      · have := (List.pairwise_cons.1 hpw.2.1).1 p hp
        simp only at this; omega
    have hset : ∀ k, k < ops.size → ∀ d, (listed.setIfInBounds i true).getD k d = if k = i then true else listed.getD k d := by
      intro k hk d
      have hk' : k < listed.size := by rw [L.size]; exact hk
      by_cases e : k = i
      · subst e; simp [Array.getD, hk']
      · simp [Array.getD, hk', e, Array.getElem_setIfInBounds, Ne.symm e]
    have L' : Listed ops (pre ++ post) (listed.setIfInBounds i true) := by
      refine ⟨by simp [L.size], ⟨fun p hp => L.left.1 p (by rcases List.mem_append.1 hp with h | h <;> simp [h]), ?_⟩, ?_, ?_⟩
      · have hpw := L.left.2
        rw [List.pairwise_append] at hpw ⊢
        exact ⟨hpw.1, (List.pairwise_cons.1 hpw.2.1).2, fun x hx y hy => hpw.2.2 x hx y (List.mem_cons_of_mem _ hy)⟩
      · intro k o hk
        have hks := (Array.getElem?_eq_some_iff.1 hk).1
        rw [hset k hks]
        by_cases e : k = i
        · subst e
          simp only [if_true]
          exact ⟨fun hp => absurd rfl (hneq _ hp), fun h => by cases h⟩
        · simp only [e, if_false]
          rw [← L.mem k o hk]
          simp only [List.mem_append, List.mem_cons, Prod.mk.injEq]
          constructor
          · rintro (h | h)
            · exact .inl h
            · exact .inr (.inr h)
          · rintro (h | ⟨h, _⟩ | h)
            · exact .inl h
            · exact absurd h e
            · exact .inr h
      · intro k o hk hkl e he hb
        have hks := (Array.getElem?_eq_some_iff.1 hk).1
        have hes : e.on < ops.size := Nat.lt_trans (F.back k o hk e he hb) hks
        rw [hset e.on hes]
        split
        · rfl
        · rw [hset k hks] at hkl
          by_cases ek : k = i
          · subst ek
            rw [hoi] at hk; cases hk
            exact hready e he hb
          · simp only [ek, if_false] at hkl
            exact L.closed k o hk hkl e he hb
    have hlen' : (pre ++ post).length = fuel := by simp at hlen ⊢; omega
    have := dstep_sound hcf (R := pre ++ (i, ops[i]) :: post) (R' := pre ++ post) (Q := Q) hoi L.left (by simp) (fun p hp => ⟨by rcases List.mem_append.1 hp with h | h <;> simp [h], hneq p hp⟩) g1 st (K := wpAny P .any ops Q fuel (listed.setIfInBounds i true)) fun a' w' st' => ih (pre ++ post) _ hlen' L' g2 st'
    unfold wpOp
    rw [hoi]
    simp only
    split
    · rename_i hw; rw [if_pos hw] at this; exact .inl this
    · rename_i hw; rw [if_neg hw] at this; exact this

/-- A REGION THAT DRAWS ITS ORDER. -/
theorem draw_sound (hm : P.follows .mixedOrders = true) (hcf : Sound P cf) : DrawSound P quiet cf := by
  intro sz ops T T' H H' μ0 ok0 H0 w0 h id Q a w st hQ
  unfold adraw at h
  split at h
  · rename_i hok
    have F := drawOk_facts hok
    obtain ⟨μ, ok, hT, S, hst, hdef⟩ := st
    refine wp_region_any hm ?_
    have S' : Sim μ ok { H with n := H.n + rank quiet ops ops.size } { w with drawn := w.drawn + 1 } :=
      ⟨fun b hb => S.top b (Nat.le_trans (Nat.le_add_right _ _) hb), S.known, fun b => (S.blk b).mono (fun b h => ⟨h, rfl⟩) (fun _ => rfl), S.inj⟩
    have hst' : Step H0.n μ0 ok0 H0 w0 μ ok { H with n := H.n + rank quiet ops ops.size } { w with drawn := w.drawn + 1 } :=
      ⟨hst.old, hst.fresh, Nat.le_trans hst.n (Nat.le_add_right _ _), hst.wr, hst.ro, hst.os, hst.tape, hst.output, Nat.le_trans hst.drawn (Nat.le_succ _), hst.size, hst.keep⟩
    have L0 : Listed ops (numbered ops.toList 0) (Array.replicate ops.size false) := by
      refine ⟨by simp, ⟨fun p hp => by have := (numbered_get ops.toList 0 p hp).2; simpa using this, numbered_sorted _ _⟩, fun i o hi => ?_, fun i o hi hl => ?_⟩
      · have hs := (Array.getElem?_eq_some_iff.1 hi).1
        have h1 : (i, o) ∈ numbered ops.toList 0 := by
          have := numbered_has ops.toList 0 i o (by simpa using hi)
          simpa using this
        simp [h1, Array.getD, hs]
      · have hs := (Array.getElem?_eq_some_iff.1 hi).1
        simp [Array.getD, hs] at hl
    refine draw_any (n0 := H.n) (sz := sz) (μ0 := μ0) (ok0 := ok0) (H0 := H0) (w0 := w0) hcf F (T' := T') (H' := H') ?_ ops.size (numbered ops.toList 0) _ (by rw [numbered_length]; simp) L0 h ?_
    · rintro a' w' ⟨μ', ok', h1, h2, h3, h4, _⟩
      exact hQ a' w' ⟨μ', ok', h1, h2, h3, h4⟩
    · exact ⟨μ, ok, hT, S', hst', hdef, hst.n, Nat.le_refl _, fun p _ _ => S.top _ (Nat.le_add_right _ _)⟩
  · cases h

/-- **WHATEVER THE ABSTRACT CALL ANSWERS, THE MODEL'S CALL ANSWERS**, in every world that holds the abstract heap. -/
theorem sound (hm : P.follows .mixedOrders = true) (hE : ∀ f fn, P.funcs[f]? = some fn → fn.body.isSome = true → Enters P f) {S : Sums} (hS : SumsOk P S) (k : Nat) : Sound P (acall P S k) :=
  acall_sound hS hE (fun _ h => draw_sound hm h) k

end
end Go.Eng
