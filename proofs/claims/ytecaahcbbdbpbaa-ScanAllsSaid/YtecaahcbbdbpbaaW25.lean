/-
  Z6: ScanAlls holds: for every measure, every list of records laid, every epoch and number, windrowlaw14.ScanAlls returns true, and each argument reads afterwards as before. No condition.
  Z5: windrowlaw14.ScanAlls in the world.
-/
import Derived.Test.YtecaahcbbdbpbaaW24
import Derived.Test.YtecaahcbbdbpbaaW23
import Derived.Test.YtecaahcbbdbpbaaRows
import Derived.JoinedOf
import Derived.SizedLaws
import Derived.OpenShut
import Derived.WalkKit
namespace Go.Eng
open Wr Go.Sort Go.Proofs Go.RowKit
set_option linter.unusedVariables false
set_option linter.unusedSimpArgs false
/-- a plain cell as the model holds it -/
def cp : AV → Value
  | .int k n => .int k n
  | .bool b => .bool b
  | _ => .int .i64 0
def AV.plainC : AV → Bool
  | .int _ _ => true
  | .bool _ => true
  | _ => false
theorem VRels_flat {μ : Mu} {ok : Ok} : ∀ {l : List AV}, l.all AV.plainC = true → VRels μ ok l (l.map cp)
  | [], _ => rfl
  | a :: l, h => by
    rw [List.all_cons, Bool.and_eq_true] at h
    refine ⟨_, _, rfl, ?_, VRels_flat h.2⟩
    cases a <;> simp_all [AV.plainC, cp, VRel]
theorem bytes_FLs : ∀ {n : Nat} {ws : List Value}, FLs (List.replicate n (.i .u8)) ws → ∃ l : List Nat, l.length = n ∧ (∀ x ∈ l, x < 256) ∧ ws = (l.map fun x => B8 x).map cp
  | 0, ws, h => ⟨[], rfl, by simp, h⟩
  | n + 1, ws, h => by
    rw [List.replicate_succ] at h
    obtain ⟨v, vs, rfl, ⟨m, rfl, h1, h2⟩, h⟩ := h
    obtain ⟨l, hl, hlt, rfl⟩ := bytes_FLs h
    have h1 : 0 ≤ m := h1
    have h2 : m ≤ 255 := h2
    refine ⟨m.toNat :: l, by simp [hl], fun x hx => ?_, ?_⟩
    · rcases List.mem_cons.1 hx with rfl | hx
      · omega
      · exact hlt x hx
    · simp only [List.map_cons, cp, B8]
      rw [Int.toNat_of_nonneg h1]
def kS : List FL := [.i .u8, .i .i64, .i .i64, .i .i64, .i .i64, .i .i64] ++ List.replicate 32 (.i .u8) ++ [.b]
theorem FLs.split : ∀ {ks : List FL} {ks' : List FL} {l : List Value}, FLs (ks ++ ks') l → ∃ l1 l2, l = l1 ++ l2 ∧ FLs ks l1 ∧ FLs ks' l2
  | [], ks', l, h => ⟨[], l, rfl, rfl, h⟩
  | k :: ks, ks', l, h => by
    obtain ⟨v, vs, rfl, hk, h⟩ := h
    obtain ⟨l1, l2, rfl, h1, h2⟩ := FLs.split h
    exact ⟨v :: l1, l2, rfl, ⟨v, l1, rfl, hk, h1⟩, h2⟩
theorem sC_flat (s : S3) : (sC s).all AV.plainC = true := by
  have hb : (bC s.r.data).all AV.plainC = true := by unfold bC; simp [AV.plainC]
  simp [sC, rC, AV.plainC, hb]
theorem S3_of {ws : List Value} (h : FLs kS ws) : ∃ s : S3, ws = (sC s).map cp ∧ ROk s.r ∧ s.zone < 256 := by
  obtain ⟨l1, l3, rfl, h, h3⟩ := FLs.split h
  obtain ⟨l1, l2, rfl, h1, h2⟩ := FLs.split h
  obtain ⟨l, hl, hlt, rfl⟩ := bytes_FLs h2
  obtain ⟨v, vs, rfl, ⟨j, rfl⟩, hz⟩ := h3
  obtain rfl : vs = [] := hz
  obtain ⟨_, _, rfl, ⟨z, rfl, z1, z2⟩, _, _, rfl, ⟨a, rfl, a1, a2⟩, _, _, rfl, ⟨b, rfl, b1, b2⟩, _, _, rfl, ⟨c, rfl, c1, c2⟩, _, _, rfl, ⟨d, rfl, d1, d2⟩, _, _, rfl, ⟨e, rfl, e1, e2⟩, hz⟩ := h1
  cases hz
  have z1 : 0 ≤ z := z1
  have z2 : z ≤ 255 := z2
  refine ⟨⟨z.toNat, ⟨a, b, c, d, e, ⟨l, hl, hlt⟩⟩, j⟩, ?_, ⟨⟨a1, a2⟩, ⟨b1, b2⟩, ⟨c1, c2⟩, ⟨d1, d2⟩, ⟨e1, e2⟩⟩, show z.toNat < 256 by omega⟩
  simp only [sC, rC, bC, List.map_cons, List.map_append, List.map_nil, cp, B8, Int.toNat_of_nonneg z1, List.cons_append, List.nil_append]
theorem S3s_of {cs : List Value} {o : Nat} : ∀ {len : Nat}, o + len * 39 ≤ cs.length → (∀ i, i < len → FLs kS ((cs.drop (o + i * 39)).take 39)) → ∃ L : List S3, L.length = len ∧ (∀ s ∈ L, ROk s.r ∧ s.zone < 256) ∧ (cs.drop o).take (len * 39) = (L.flatMap sC).map cp
  | 0, _, _ => ⟨[], rfl, by simp, by simp⟩
  | len + 1, hl, h => by
    obtain ⟨L, h1, h2, h3⟩ := S3s_of (len := len) (by omega) (fun i hi => h i (by omega))
    obtain ⟨s, hs, hr⟩ := S3_of (h len (by omega))
    refine ⟨L ++ [s], by simp [h1], fun x hx => ?_, ?_⟩
    · rcases List.mem_append.1 hx with hx | hx
      · exact h2 x hx
      · rw [List.mem_singleton.1 hx]; exact hr
    · rw [show (len + 1) * 39 = len * 39 + 39 by omega, List.take_add, h3, List.drop_drop, hs]
      simp
def kG : List FL := [.i .i64, .i .i64, .i .i64, .i .i64, .i .i64]
theorem geom_of {ws : List Value} (h : FLs kG ws) : ∃ g : Geom, ws = (gC g).map cp := by
  obtain ⟨_, _, rfl, ⟨a, rfl, a1, a2⟩, _, _, rfl, ⟨b, rfl, b1, b2⟩, _, _, rfl, ⟨c, rfl, c1, c2⟩, _, _, rfl, ⟨d, rfl, d1, d2⟩, _, _, rfl, ⟨e, rfl, e1, e2⟩, hz⟩ := h
  cases hz
  exact ⟨⟨a, b, c, d, e⟩, rfl⟩
theorem gC_flat (g : Geom) : (gC g).all AV.plainC = true := rfl
theorem flat_step : flatT P0 30 50 = some kS := by kernel_rfl
theorem flat_geom : flatT P0 30 23 = some kG := by kernel_rfl
/-- a call in a heap in which nothing may be written leaves all that was -/
theorem below_of {μ μ' : Mu} {ok ok' : Ok} {H H' : AH} {N : Nat} {w w' : World} (st : Step N μ ok H w μ' ok' H' w') (hro : ∀ b, ¬ (H.g b).writable) : Below w.heap.size w w' :=
  ⟨st.os, st.tape, st.output, st.size, fun c hc => st.keep c hc fun ⟨b, hb, _⟩ => hro b hb⟩
theorem calls_true {f : FuncId} {args : List AV} {H : AH} {μ : Mu} {ok : Ok} {w : World} {args' : Array Value} (h : Acalls P0 S0 f args H fun r H' => r = .bool true) (Sm : Sim μ ok H w) (hro : ∀ b, ¬ (H.g b).writable) (ha : VRels μ ok args args'.toList) :
    Calls P0 f args' w fun e w' => e = .returned (.bool true) ∧ Below w.heap.size w w' := by
  obtain ⟨k, v, H', hc, rfl⟩ := h
  obtain ⟨-, hs⟩ := soundS k _ _ _ _ _ hc
  refine (hs μ ok w args' Sm ha).mono ?_
  rintro e w' ⟨v', μ', ok', rfl, hv, -, st⟩
  simp only [VRel] at hv
  subst hv
  exact ⟨rfl, below_of st hro⟩
theorem scanAlls_world {g : Geom} {ep sq : Int} {v : Value} {w : World} (hv : (v = .slice none 0 0) ∨ ∃ b o cs el fr len cap, v = .slice (some ⟨b, o, none⟩) len cap ∧ w.heap[b]? = some (.cells cs el fr) ∧ o + len * 39 ≤ cs.size ∧ len ≤ cap ∧ ∀ i, i < len → FLs kS ((cs.toList.drop (o + i * 39)).take 39)) :
    Calls P0 3 (List.toArray [.agg ((gC g).map cp).toArray, v, .int .i64 ep, .int .i64 sq]) w fun e w' => e = .returned (.bool true) ∧ Below w.heap.size w w' := by
  have hgr : ∀ {μ : Mu} {ok : Ok}, VRel μ ok (.agg (gC g)) (.agg ((gC g).map cp).toArray) := by
    intro μ ok; simp only [VRel]; exact ⟨_, rfl, VRels_flat (gC_flat g)⟩
  rcases hv with rfl | ⟨b, o, cs, el, fr, len, cap, rfl, hb, hsz, hcap, hseg⟩
  · refine calls_true (H := ⟨fun _ => .dead, 1⟩) (μ := fun _ => ⟨0, 0, 0⟩) (ok := fun _ => False) (c_ScanAlls (g := g) (v := .slc none 0 0 0) (L := []) (ep := ep) (sq := sq) (Sl.nil sC_len) (by show 0 < 1; omega) (by simp)) ⟨fun _ _ h => h, fun _ h => h, fun _ => trivial, fun _ _ h => h.elim⟩ (fun b h => h) ?_
    refine ⟨_, _, rfl, hgr, _, _, rfl, ?_, _, _, rfl, ?_, _, _, rfl, ?_, rfl⟩ <;> simp [VRel]
  · obtain ⟨L, h1, h2, h3⟩ := S3s_of (cs := cs.toList) (o := o) (len := len) hsz hseg
    have hl : (L.flatMap sC).length = len * 39 := by rw [flat_len sC_len, h1]
    have hro : ∀ b, ¬ ((upd (fun _ => AB.dead) 1 (.cells (L.flatMap sC) el true)) b).writable := by
      intro b h; unfold upd at h; split at h
      · cases h
      · exact h
    have hlv : ∀ b, ((upd (fun _ => AB.dead) 1 (.cells (L.flatMap sC) el true)) b).live → b = 1 := by
      intro b h; unfold upd at h; split at h
      · assumption
      · exact h.elim
    refine calls_true (H := ⟨upd (fun _ => .dead) 1 (.cells (L.flatMap sC) el true), 2⟩) (μ := fun _ => ⟨b, o, cs.size⟩) (ok := fun b => b = 1)
      (c_ScanAlls (g := g) (v := .slc (some (1, 0)) len cap 0) (L := L) (ep := ep) (sq := sq) (Sl.ofCells (c := cap) (sl := 0) (e := el) (ro := true) sC_len (by dsimp only; rw [upd_same]) h1.symm hcap (.inl rfl)) (by show 1 < 2; omega) h2)
      ⟨fun b hb h => by have hb : 2 ≤ b := hb; omega, fun b h => hlv b h, fun x => ?_, fun x y h => (hro x h).elim⟩ hro ?_
    · dsimp only
      by_cases hx : x = 1
      · subst hx
        rw [upd_same]
        refine ⟨cs, fr, hb, by rw [hl]; exact hsz, ?_, rfl, fun h => by cases h⟩
        rw [hl, h3]
        refine VRels_flat ?_
        simp only [List.all_flatMap, List.all_eq_true]
        exact fun s _ => List.all_eq_true.1 (sC_flat s)
      · rw [upd_ne _ _ hx]; trivial
    · refine ⟨_, _, rfl, hgr, _, _, rfl, ?_, _, _, rfl, ?_, _, _, rfl, ?_, rfl⟩
      · simp [VRel, Loc.at]
      · simp [VRel]
      · simp [VRel]
end Go.Eng
namespace Go.Proofs.Ytecaahcbbdbpbaa.scanAlls
open Go.ChangeShapes Go.WideShapes Go.ChangeAt Go.RowKit Go.Eng
set_option linter.unusedVariables false
theorem own : ownKnob Try.prog.godebug = none := by kernel_rfl
theorem laidOut : laidOutB Try.prog = true := by kernel_rfl
set_option maxRecDepth 100000 in
theorem lifted (os : Os) (started : os.Started) (H : Type) (enc : TypeId × Value → H) :
    ReturnsInHanded Rows.scanAllsRow.assume Try.checked os 3 .any (Rows.scanAllsSpec.pre6 enc Try.prog Try.f3 Rows.scanAllsRow.domain false) (Rows.scanAllsSpec.post enc Try.prog Try.f3 false true false false) := by
  refine returnsInHanded_of_change (C := Try.checked) own started (by kernel_rfl) Try.func3
    (ChangeSpec.witness6 (enc := enc) (C := Try.checked) false ⟨Array.empty, List.toArray [.agg (List.toArray [.int .i64 0, .int .i64 0, .int .i64 0, .int .i64 0, .int .i64 0]), .slice none 0 0, .int .i64 0, .int .i64 0], []⟩ 8 (by kernel_rfl) (by kernel_rfl) (by kernel_rfl) (by kernel_rfl)) ?_
  intro W base args ds gs before hval0 hW hcnd0 _
  have hval : ∀ (j : Nat) t v, Try.f3.params[j]? = some t → args[j]? = some v → Value.okWide Try.prog W .any base t v := hval0
  have hW' := hW
  obtain ⟨p, q, hA0, hV, rfl, hfz, hnd⟩ := hW
  have hA : DataW.TrodAll enc Try.prog W 0 (fun _ => true) true Try.f3.params.toList args.toList ds p := hA0
  rw [Try.params3] at hA hval
  obtain ⟨v0, vs0, d0, ds0, p0, q0, hargs, rfl, rfl, h0, r0⟩ := trodAll_cons hA
  obtain ⟨v1, vs1, d1, ds1, p1, q1, rfl, rfl, rfl, h1, r1⟩ := trodAll_cons r0
  obtain ⟨v2, vs2, d2, ds2, p2, q2, rfl, rfl, rfl, h2, r2⟩ := trodAll_cons r1
  obtain ⟨v3, vs3, d3, ds3, p3, q3, rfl, rfl, rfl, h3, r3⟩ := trodAll_cons r2
  obtain ⟨rfl, rfl, rfl⟩ := trodAll_nil r3
  obtain rfl : args = List.toArray [v0, v1, v2, v3] := by cases args; simp_all
  obtain ⟨rfl, rfl⟩ := trodVars_none hV
  have hlt : ∀ x ∈ p0 ++ (p1 ++ (p2 ++ (p3 ++ []))), x.block < W.heap.size := fun x hx => by
    have := hW'.lt x (by simpa using hx)
    simpa using this
  have hstay : ∀ {t : TypeId} {v : Value} {d : DataW H} {ps : List MemPlace}, Try.prog.readableRec t = true → t < Try.prog.types.size → DataW.Trod enc Try.prog W 0 (fun _ => true) true t v d ps → (∀ x ∈ ps, x.block < W.heap.size) → ∀ W' : World, Below W.heap.size W W' → DataW.Trod enc Try.prog W' 0 (fun b => decide (b < W.heap.size)) true t v d ps :=
    fun hr ht h hl W' hb => Below.trod laidOut hr ht h hb hl
  obtain ⟨cs, rfl, hsz⟩ := okWide_struct Try.underlying23 (hval 0 23 v0 rfl rfl)
  obtain ⟨a, len, cap, rfl⟩ := okWide_slice Try.underlying24 (hval 1 24 v1 rfl rfl)
  obtain ⟨n2, rfl⟩ := okWide_int Try.underlying3 (hval 2 3 v2 rfl rfl)
  obtain ⟨n3, rfl⟩ := okWide_int Try.underlying3 (hval 3 3 v3 rfl rfl)
  have h0k := h0
  have h1k := h1
  obtain ⟨fu0, hf0⟩ := h0
  obtain ⟨fu1, hf1⟩ := h1
  obtain ⟨g, hg⟩ := geom_of (flat_trod 30 flat_geom hf0)
  have hcs : cs = ((gC g).map cp).toArray := by
    apply Array.toList_inj.1; exact hg
  subst hcs
  have hsl := slice_trod (ks := kS) Try.underlying24 flat_step (by kernel_rfl) (by decide) hf1 (hval 1 24 _ rfl rfl)
  have hw := scanAlls_world (g := g) (ep := n2) (sq := n3) (v := .slice a len cap) (w := W) (by
    rcases hsl with ⟨rfl, rfl, rfl⟩ | ⟨b, o, cs, el, fr, rfl, hb, hs, hc, -, hf⟩
    · exact .inl rfl
    · exact .inr ⟨b, o, cs, el, fr, len, cap, rfl, hb, hs, hc, hf⟩)
  refine hw.mono fun e W' ⟨he, hb⟩ => ?_
  subst he
  refine ⟨_, rfl, _, _, _, [], _, [], hW', ?_, trodAll_cons_mk (hstay (by kernel_rfl) (of_decide_eq_true (by kernel_rfl)) h0k (fun x hx => hlt x (by simp [hx])) W' hb) (trodAll_cons_mk (hstay (by kernel_rfl) (of_decide_eq_true (by kernel_rfl)) h1k (fun x hx => hlt x (by simp [hx])) W' hb) (trodAll_cons_mk (hstay (by kernel_rfl) (of_decide_eq_true (by kernel_rfl)) h2 (fun x hx => hlt x (by simp [hx])) W' hb) (trodAll_cons_mk (hstay (by kernel_rfl) (of_decide_eq_true (by kernel_rfl)) h3 (fun x hx => hlt x (by simp [hx])) W' hb) trodAll_mk0))), rfl, hb.frame _, fun h => by cases h⟩
  exact trodAll_cons_mk (shut_bool Try.underlying4 _) trodAll_mk0
theorem proved : Rows.ScanAllsSaid :=
  OpenClaim.holds_of_wide 3 Try.f3 rfl rfl rfl rfl rfl rfl rfl ⟨rfl, rfl, rfl, rfl, rfl⟩ rfl rfl rfl rfl rfl (by kernel_rfl) Try.func3 (by kernel_rfl)
    (of_decide_eq_true (by kernel_rfl)) (by unfold Func.isWrapper; first | (rw [if_pos (by decide +kernel)]; kernel_rfl) | (rw [if_neg (by decide +kernel)]; exact ⟨rfl, rfl⟩))
    (fun os started H enc _ => lifted os started H enc)
#print axioms proved
end Go.Proofs.Ytecaahcbbdbpbaa.scanAlls
