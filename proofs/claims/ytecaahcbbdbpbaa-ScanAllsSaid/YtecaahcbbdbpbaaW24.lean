/-
  Z4: Reading what came in: flat types (numbers, bools, structs and arrays of these), slices of flat types.
  Z3: Whatever is answered by the abstract call, with the sort's summary: the model answers it; and: what lies in a block is within it.
  Z2: What is taken of slices.SortFunc, shown of the model's own run.
  Z1: What is taken of slices.SortFunc, shown of the model's own run: the world's half.
-/
import Derived.Test.YtecaahcbbdbpbaaW22
import Derived.Shelf.SlSortCmp.WholeK
import Derived.KernelRfl
import Derived.Shelf.SlSortCmp.NoneTotal
import Derived.Below
import Derived.Carry
import Derived.ProofKit
namespace Go.Eng
open Wr Go.Sort Go.Proofs
set_option linter.unusedVariables false
set_option linter.unusedSimpArgs false
theorem mixed0 : P0.follows .mixedOrders = true := by kernel_rfl
theorem names0 : P0.funcs.all (fun fn => !(fn.name == "runtime.NumGoroutine")) = true := by kernel_rfl
theorem enters0 : ∀ f fn, P0.funcs[f]? = some fn → fn.body.isSome = true → Enters P0 f := by
  intro f fn hf hb
  obtain ⟨c, hc⟩ := Option.isSome_iff_exists.1 hb
  obtain ⟨hs, he⟩ := Array.getElem?_eq_some_iff.1 hf
  have hn := Array.all_eq_true.1 names0 f hs
  rw [he] at hn
  exact enters_of hf (by simpa using hn) hc
theorem sumsOk0 : SumsOk P0 Sq := by intro f s h; cases h
theorem soundQ (k : Nat) : Sound P0 (acall P0 Sq k) := sound mixed0 enters0 sumsOk0 k
/-- nothing is known -/
def H00 : AH := ⟨fun _ => .dead, 0⟩
theorem sim00 (μ : Mu) (w : World) : Sim μ (fun _ => False) H00 w := ⟨fun _ _ h => h, fun _ h => h, fun _ => trivial, fun _ _ h => h.elim⟩
/-- A CALL THAT NEEDS NOTHING OF THE HEAP only lays blocks. -/
theorem lays_of_step {μ μ' : Mu} {ok' : Ok} {H' : AH} {w w' : World} (st : Step 0 μ (fun _ => False) H00 w μ' ok' H' w') : ∃ q os', w' = grow (w.drewN q) os' := by
  refine ⟨w'.drawn - w.drawn, w'.heap.extract w.heap.size w'.heap.size, ?_⟩
  have h1 := st.os; have h2 := st.tape; have h3 := st.output; have h4 := st.drawn; have h5 := st.size
  have h6 : w'.heap = w.heap ++ w'.heap.extract w.heap.size w'.heap.size := by
    apply Array.ext_getElem?
    intro i
    by_cases hi : i < w.heap.size
    · rw [Array.getElem?_append_left hi]
      exact st.keep i hi (fun ⟨b, hb, _⟩ => hb)
    · rw [Array.getElem?_append_right (by omega), Array.getElem?_extract]
      by_cases h : i - w.heap.size < min w'.heap.size w'.heap.size - w.heap.size
      · rw [if_pos h, show w.heap.size + (i - w.heap.size) = i by omega]
      · rw [if_neg h, Array.getElem?_eq_none (by omega)]
  cases w; cases w'
  simp only [grow, World.drewN] at *
  subst h1 h2 h3
  rw [← h6, Nat.add_sub_cancel' h4]
/-- a cell as the model holds it -/
def cv : AV → Value
  | .int k n => .int k n
  | _ => .int .i64 0
def encF (x : Wr.Found) : List Value := (fC x).map cv
theorem encF_len (x : Wr.Found) : (encF x).length = 38 := by simp [encF, fC_len]
theorem fC_ints (x : Wr.Found) : ∀ v ∈ fC x, ∃ k n, v = .int k n := by
  intro v hv
  simp only [fC, rC, List.mem_cons, List.mem_append] at hv
  rcases hv with rfl | rfl | rfl | rfl | rfl | rfl | hv
  · exact ⟨_, _, rfl⟩
  · exact ⟨_, _, rfl⟩
  · exact ⟨_, _, rfl⟩
  · exact ⟨_, _, rfl⟩
  · exact ⟨_, _, rfl⟩
  · exact ⟨_, _, rfl⟩
  · simp only [bC, List.mem_map] at hv
    obtain ⟨n, _, rfl⟩ := hv
    exact ⟨_, _, rfl⟩
theorem encF_one (x : Wr.Found) : ∀ v ∈ encF x, v.oneCell' = true := by
  intro v hv
  simp only [encF, List.mem_map] at hv
  obtain ⟨a, ha, rfl⟩ := hv
  obtain ⟨k, n, rfl⟩ := fC_ints x a ha
  rfl
theorem VRels_ints {μ : Mu} {ok : Ok} : ∀ {l : List AV}, (∀ v ∈ l, ∃ k n, v = .int k n) → ∀ {m : List Value}, VRels μ ok l m ↔ m = l.map cv
  | [], _, m => by simp [VRels]
  | a :: l, h, m => by
    obtain ⟨k, n, rfl⟩ := h a List.mem_cons_self
    have ih := fun m => VRels_ints (μ := μ) (ok := ok) (l := l) (fun v hv => h v (List.mem_cons_of_mem _ hv)) (m := m)
    simp only [VRels, VRel, List.map_cons, cv]
    constructor
    · rintro ⟨v, vs, rfl, rfl, h3⟩; rw [(ih vs).1 h3]
    · rintro rfl; exact ⟨_, _, rfl, rfl, (ih _).2 rfl⟩
theorem sizeOf54 : ∀ w, (Go.sizeOf (Try.sortLay_ren.t 24)).run P0 w = .ok 38 w := Try.sizeOf54
theorem isAgg54 : ∀ w, (isAgg (Try.sortLay_ren.t 24)).run P0 w = .ok true w := Try.isAgg54
theorem agg_rel {μ : Mu} {ok : Ok} (x : Wr.Found) : VRel μ ok (.agg (fC x)) (.agg (encF x).toArray) := by
  simp only [VRel]
  exact ⟨_, rfl, (VRels_ints (fC_ints x)).2 rfl⟩
theorem cmpLays (blk off size : Nat) (w : World) : CmpLays P0 26 #[] encF 38 cfF blk off size w := by
  intro m os dk hd x y
  generalize sortWorldK encF 38 w blk off m dk os = W
  obtain ⟨k, v, H', hc, rfl, -⟩ := q_cmp (x := x) (y := y) (H := H00)
  obtain ⟨-, hs⟩ := soundQ k _ _ _ _ _ hc
  have h := hs (fun _ => ⟨0, 0, 0⟩) (fun _ => False) W (List.toArray [.agg (encF x).toArray, .agg (encF y).toArray] ++ List.toArray []) (sim00 _ W) ⟨_, _, rfl, agg_rel x, _, _, rfl, agg_rel y, rfl⟩
  refine h.mono ?_
  rintro e w' ⟨v', μ', ok', rfl, hv, -, st⟩
  simp only [VRel] at hv
  subst hv
  exact ⟨rfl, lays_of_step st⟩
theorem flat_get {α β : Type} {enc : α → List β} {k : Nat} (hk : ∀ x, (enc x).length = k) : ∀ (L : List α) (t : Nat) (h : t < L.length * k), ∃ x, L[t / k]? = some x ∧ (L.flatMap enc)[t]? = (enc x)[t % k]?
  | [], t, h => by simp at h
  | a :: L, t, h => by
    have k0 : 0 < k := by rcases Nat.eq_zero_or_pos k with h' | h'; · subst h'; simp at h
                          · exact h'
    by_cases ht : t < k
    · rw [Nat.div_eq_of_lt ht, Nat.mod_eq_of_lt ht]
      exact ⟨a, rfl, by rw [List.flatMap_cons, List.getElem?_append_left (by rw [hk]; exact ht)]⟩
    · obtain ⟨x, h1, h2⟩ := flat_get hk L (t - k) (by rw [List.length_cons, Nat.add_mul, Nat.one_mul] at h; omega)
      have e1 : t / k = (t - k) / k + 1 := by rw [← Nat.add_div_right _ k0, Nat.sub_add_cancel (by omega)]
      have e2 : t % k = (t - k) % k := by rw [← Nat.add_mod_right (t - k) k, Nat.sub_add_cancel (by omega)]
      refine ⟨x, by rw [e1]; simpa using h1, ?_⟩
      rw [List.flatMap_cons, List.getElem?_append_right (by rw [hk]; omega), hk, h2, e2]
theorem flatK_list (L : List Wr.Found) : flatK encF 38 L.toArray = (L.flatMap encF).toArray := by
  have hl : (L.flatMap encF).length = L.length * 38 := by
    induction L with
    | nil => rfl
    | cons a L ih => rw [List.flatMap_cons, List.length_append, ih, encF_len, List.length_cons]; omega
  refine ext_get! (by simp [hl]) fun t ht => ?_
  have ht' : t < L.length * 38 := by simpa using ht
  obtain ⟨x, h1, h2⟩ := flat_get encF_len L t ht'
  rw [get_flatK _ _ _ _ (by simpa using ht')]
  have e1 : L.toArray[t / 38]! = x := by
    rw [getElem!_def]; simp [h1]
  have e2 : (L.flatMap encF).toArray[t]! = (encF x)[t % 38]! := by
    rw [getElem!_def]; simp [h2, List.getElem!_eq_getElem?_getD]
    cases (encF x)[t % 38]? <;> rfl
  rw [e1, e2]
theorem encF_flat (L : List Wr.Found) : L.flatMap encF = (L.flatMap fC).map cv := by
  rw [List.map_flatMap]; rfl
theorem flat_ints (L : List Wr.Found) : ∀ v ∈ L.flatMap fC, ∃ k n, v = .int k n := by
  intro v hv
  obtain ⟨x, _, h⟩ := List.mem_flatMap.1 hv
  exact fC_ints x v h
end Go.Eng
namespace Go.Eng
open Wr Go.Sort Go.Proofs
set_option linter.unusedVariables false
set_option linter.unusedSimpArgs false
/-- what the sort's world holds at a place -/
theorem sortW_at {w : World} {blk n : Nat} {L : List Wr.Found} {os : Array Obj} {cs : Array Value} {e : TypeId} {fr : Nat × Nat} (hb : w.heap[blk]? = some (.cells cs e fr)) (hc : L.length * 38 ≤ cs.size) :
    (∃ cs', (sortWorldK encF 38 w blk 0 n L.toArray os).heap[blk]? = some (.cells cs' e fr) ∧ cs'.toList = L.flatMap encF ++ cs.toList.drop (L.length * 38)) ∧
    (∀ c, c < w.heap.size → c ≠ blk → (sortWorldK encF 38 w blk 0 n L.toArray os).heap[c]? = w.heap[c]?) := by
  obtain ⟨hlt, hget⟩ := Array.getElem?_eq_some_iff.1 hb
  have hl : (L.flatMap encF).length = L.length * 38 := by
    rw [encF_flat, List.length_map, flat_len fC_len]
  unfold sortWorldK putRowK putRow mapBlock grow
  rw [flatK_list]
  constructor
  · refine ⟨Go.Sort.putCells id 0 (L.flatMap encF).toArray cs, ?_, ?_⟩
    · show ((w.heap.modify blk _) ++ os)[blk]? = _
      rw [Array.getElem?_append_left (by simpa using hlt), Array.getElem?_modify, if_pos rfl, hb]; rfl
    · apply List.ext_getElem?
      intro i
      unfold Go.Sort.putCells
      rw [Array.getElem?_toList, Array.getElem?_mapIdx]
      by_cases hi : i < L.length * 38
      · rw [List.getElem?_append_left (by rw [hl]; exact hi), Array.getElem?_eq_getElem (by omega), Option.map_some, if_pos (by simp [hl]; exact hi)]
        rw [getElem!_pos _ _ (by simp [hl]; exact hi), List.getElem?_eq_getElem (by rw [hl]; exact hi)]; simp
      · rw [List.getElem?_append_right (by rw [hl]; omega), List.getElem?_drop, hl, show L.length * 38 + (i - L.length * 38) = i by omega, Array.getElem?_toList]
        cases cs[i]? with
        | none => rfl
        | some x => rw [Option.map_some, if_neg (by simp [hl]; omega)]
  · intro c hc1 hc2
    show ((w.heap.modify blk _) ++ os)[c]? = _
    rw [Array.getElem?_append_left (by simpa using hc1), Array.getElem?_modify, if_neg (fun h => hc2 h.symm)]
theorem vrels_nil {μ : Mu} {ok : Ok} {xs : Array Value} (h : VRels μ ok [] xs.toList) : xs = Array.empty := by
  simp only [VRels] at h
  exact Array.toList_inj.1 h
theorem sort_nil (hN : ∀ (fv : Value) (w : World), Calls P0 25 (List.toArray [.slice none 0 0, fv]) w fun e w' => e = .returned (.tuple Array.empty) ∧ w' = w) {μ : Mu} {ok : Ok} {H : AH} {w : World} {args' : Array Value} (Sm : Sim μ ok H w)
    (hargs : VRels μ ok [.slc none 0 0 0, .fn 26 [] []] args'.toList) : Calls P0 25 args' w (CallPost μ ok H w (.tup []) H) := by
  simp only [VRels, VRel] at hargs
  obtain ⟨v1, vs1, e1, ⟨-, -, -, rfl⟩, v2, vs2, rfl, -, rfl⟩ := hargs
  obtain rfl : args' = List.toArray [.slice none 0 0, v2] := by apply Array.toList_inj.1; rw [e1]
  refine (hN v2 w).mono ?_
  rintro e w' ⟨rfl, rfl⟩
  exact ⟨_, μ, ok, rfl, by simp only [VRel, VRels]; exact ⟨_, rfl, rfl⟩, Sm, Step.refl _ _ _ _ _⟩
theorem sort_some {μ : Mu} {ok : Ok} {H : AH} {w : World} {args' : Array Value} {b n c s : Nat} {cs : List AV} {e : TypeId} {L : List Wr.Found} (Sm : Sim μ ok H w) (hg : H.g b = .cells cs e false) (h1 : L.length = n) (h2 : n * 38 ≤ cs.length) (h3 : cs.take (n * 38) = L.flatMap fC) (h4 : n < 1000000)
    (hargs : VRels μ ok [.slc (some (b, 0)) n c s, .fn 26 [] []] args'.toList) :
    Calls P0 25 args' w (CallPost μ ok H w (.tup []) ⟨upd H.g b (.cells ((sortF L).flatMap fC ++ cs.drop (n * 38)) e false), H.n⟩) := by
  subst h1
  simp only [VRels, VRel] at hargs
  obtain ⟨v1, vs1, e1, ⟨hok, c', rfl, hcap⟩, v2, vs2, rfl, ⟨xs', ys', rfl, hx, hy⟩, rfl⟩ := hargs
  obtain rfl := Array.toList_inj.1 (show xs'.toList = (List.toArray []).toList from hx)
  obtain rfl := Array.toList_inj.1 (show ys'.toList = (List.toArray []).toList from hy)
  have hB := Sm.blk b
  rw [hg] at hB
  obtain ⟨ca, fr, hb, hcs, hv, hroom, hro⟩ := hB
  obtain ⟨hbase, rfl⟩ := hro rfl
  rw [hbase] at hcs hv
  obtain rfl : args' = List.toArray [.slice (some ⟨(μ b).blk, 0, none⟩) L.length c', .func (.func 26) (List.toArray []) (List.toArray [])] := by
    apply Array.toList_inj.1; rw [e1]; simp only [Loc.at, hbase]
  have hblk : (μ b).blk < w.heap.size := (Array.getElem?_eq_some_iff.1 hb).1
  have hsz : L.length * 38 ≤ ca.size := by omega
  have hold : ca.toList.take (L.length * 38) = L.flatMap encF := by
    have := hv.take (L.length * 38)
    rw [h3, VRels_ints (flat_ints L), ← encF_flat, List.drop_zero, List.take_take, Nat.min_eq_left h2] at this
    exact this
  have hH : HoldsK encF 38 w (μ b).blk 0 L.toArray := by
    intro j hj
    rw [flatK_list] at hj ⊢
    have hj' : j < (L.flatMap encF).length := by simpa using hj
    have hl : (L.flatMap encF).length = L.length * 38 := by rw [encF_flat, List.length_map, flat_len fC_len]
    unfold World.cell? World.frozen?
    simp only [hb, Nat.zero_add]
    refine ⟨?_, by simp⟩
    have hq : (ca.toList.take (L.length * 38))[j]? = (L.flatMap encF)[j]? := by rw [hold]
    rw [List.getElem?_take, if_pos (by omega), Array.getElem?_toList] at hq
    simp only [Option.isSome_none, Bool.false_eq_true, if_false]
    rw [hq, List.getElem?_eq_getElem hj', getElem!_pos _ _ (by simpa using hj')]; simp
  have hcon := AnyQ.slices_SortFunc_eq Try.sortLay 38 isAgg54 sizeOf54 encF encF_len encF_one cfF ltF_swo 26 (List.toArray []) (μ b).blk 0 c' L.toArray w (enters0 _ _ Try.func26 rfl) (cmpLays _ _ _ w) hH hblk (by simp; omega)
  rw [show Go.Sort.pdq (ltOf cfF) L.toArray 0 L.toArray.size (Go.Lib.bitLen L.toArray.size) true true = (sortF L).toArray from rfl] at hcon
  have hcon' : Calls P0 25 (List.toArray [.slice (some ⟨(μ b).blk, 0, none⟩) L.length c', .func (.func 26) (List.toArray []) (List.toArray [])]) w _ := hcon
  refine hcon'.mono ?_
  rintro e' w' ⟨rfl, m, os, rfl⟩
  have hsl := sortF_len L
  obtain ⟨⟨ca', hat, hca⟩, hrest⟩ := sortW_at (n := m) (L := sortF L) (os := os) hb (by rw [hsl]; exact hsz)
  rw [hsl] at hca
  generalize hW : sortWorldK encF 38 w (μ b).blk 0 m (sortF L).toArray os = w' at *
  have wl : ∀ x, ((upd H.g b (.cells ((sortF L).flatMap fC ++ cs.drop (L.length * 38)) e false)) x).live ↔ (H.g x).live := by
    intro x; unfold upd; split
    · rename_i hx; subst hx; rw [hg]; exact Iff.rfl
    · exact Iff.rfl
  have ww : ∀ x, ((upd H.g b (.cells ((sortF L).flatMap fC ++ cs.drop (L.length * 38)) e false)) x).writable ↔ (H.g x).writable := by
    intro x; unfold upd; split
    · rename_i hx; subst hx; rw [hg]; exact Iff.rfl
    · exact Iff.rfl
  have hbw : (H.g b).writable := by rw [hg]; rfl
  have hws : w.heap.size ≤ w'.heap.size := by
    rw [← hW]; unfold sortWorldK putRowK putRow mapBlock grow
    show _ ≤ ((w.heap.modify (μ b).blk _) ++ os).size
    simp
  refine ⟨_, μ, ok, rfl, by simp only [VRel, VRels]; exact ⟨_, rfl, rfl⟩, ⟨Sm.top, fun x hx => Sm.known x ((wl x).1 hx), fun x => ?_, fun x y hx hy => Sm.inj x y ((ww x).1 hx) ((wl y).1 hy)⟩, ?_⟩
  · by_cases hx : x = b
    · subst hx
      show BRel _ _ _ _ (upd H.g x _ x)
      rw [upd_same]
      refine ⟨ca', (0, 0), hat, ?_, ?_, ?_, fun _ => ⟨hbase, rfl⟩⟩
      · have : ca'.size = ca'.toList.length := rfl
        rw [hbase, this, hca]
        simp only [List.length_append, List.length_drop, flat_len fC_len, encF_flat, List.length_map, hsl]
        have : ca.toList.length = ca.size := rfl
        omega
      · rw [hbase, List.drop_zero, hca, List.length_append, flat_len fC_len, hsl, List.length_drop]
        have hle : (sortF L).flatMap encF = ((sortF L).flatMap fC).map cv := encF_flat _
        have hln : ((sortF L).flatMap encF).length = L.length * 38 := by rw [hle, List.length_map, flat_len fC_len, hsl]
        rw [List.take_append, hln, List.take_of_length_le (by omega), show L.length * 38 + (cs.length - L.length * 38) - L.length * 38 = cs.length - L.length * 38 by omega]
        refine VRels.append ((VRels_ints (flat_ints _)).2 hle) ?_
        have := (hv.drop (L.length * 38))
        rw [List.drop_zero, List.drop_take] at this
        exact this
      · have h5 : ca'.size = ca'.toList.length := rfl
        rw [h5, hca, ← hroom]
        simp only [List.length_append, List.length_drop, flat_len fC_len, encF_flat, List.length_map, hsl]
        have : ca.toList.length = ca.size := rfl
        omega
    · show BRel _ _ _ _ (upd H.g b _ x)
      rw [upd_ne _ _ hx]
      by_cases hl : (H.g x).live
      · have hne := Sm.inj b x hbw hl (fun h => hx h.symm)
        refine (Sm.blk x).mono (fun b h => ⟨h, rfl⟩) fun _ => ?_
        exact hrest _ ((Sm.blk x).lt hl) (fun h => hne h.symm)
      · cases hq : H.g x with
        | dead => trivial
        | cells cs e ro => rw [hq] at hl; exact absurd trivial hl
        | map es c ro => rw [hq] at hl; exact absurd trivial hl
  · refine ⟨fun x h => ⟨h, rfl⟩, fun x h => .inl h, Nat.le_refl _, fun c hc => ?_, fun x hx hy => ⟨(wl x).1 hx, fun h => hy ((ww x).2 h)⟩, ?_, ?_, ?_, ?_, hws, fun c hc hn => hrest c hc (fun h => hn ⟨b, hbw, h.symm⟩)⟩
    · obtain ⟨x, hx, rfl⟩ := hc
      exact .inl ⟨x, (ww x).1 hx, rfl⟩
    · rw [← hW]; rfl
    · rw [← hW]; rfl
    · rw [← hW]; rfl
    · rw [← hW]; exact Nat.le_add_right _ _
end Go.Eng
namespace Go.Eng
open Wr Go.Sort Go.Proofs Go.RowKit
set_option linter.unusedVariables false
set_option linter.unusedSimpArgs false
theorem sortNone (fv : Value) (w : World) : Calls P0 25 (List.toArray [.slice none 0 0, fv]) w fun e w' => e = .returned (.tuple Array.empty) ∧ w' = w :=
  AnyF.slices_SortFunc_none Try.sortLay none 0 fv w
theorem sumsOkS : SumsOk P0 S0 := by
  intro f s h
  have h' : (if f = 25 then some (sortSum 26) else none) = some s := h
  split at h'
  · rename_i hf
    subst hf
    obtain rfl := Option.some.inj h'
    intro f' args H v H' hc
    dsimp only at hc
    split at hc
    · rename_i hf
      subst hf
      refine ⟨enters0 _ _ Try.func25 rfl, fun μ ok w args' Sm hargs => ?_⟩
      unfold sortSum at hc
      split at hc
      · rename_i f
        split at hc
        · rename_i hf
          subst hf
          simp only [Option.some.injEq, Prod.mk.injEq] at hc
          obtain ⟨rfl, rfl⟩ := hc
          exact sort_nil sortNone Sm hargs
        · cases hc
      · rename_i b n c s f
        split at hc
        · rename_i hf
          subst hf
          split at hc
          · rename_i cs e hg
            split at hc
            · rename_i hex
              simp only [Option.some.injEq, Prod.mk.injEq] at hc
              obtain ⟨rfl, rfl⟩ := hc
              obtain ⟨h1, h2, h3, h4⟩ := hex.choose_spec
              exact sort_some Sm hg h1 h2 h3 h4 hargs
            · cases hc
          · cases hc
        · cases hc
      · cases hc
    · cases hc
  · cases h'
theorem soundS (k : Nat) : Sound P0 (acall P0 S0 k) := sound mixed0 enters0 sumsOkS k
/-- a row lies within its block -/
theorem lies_le {p : Program} {e : TypeId} {count off : Nat} : ∀ {d : Nat} {u : TypeId} {n : Nat}, liesAt p d e count off u n = true → off ≤ count * p.cellsOf e := by
  have hrow : ∀ {fits : TypeId → Bool} {d n : Nat}, rowAt p fits d e count off n = true → off ≤ count * p.cellsOf e := by
    intro fits d n h
    cases d with
    | zero => simp [rowAt] at h
    | succ d =>
      unfold rowAt at h
      dsimp only at h
      split at h
      · cases h
      · rename_i hs
        have hm := Nat.div_add_mod off (p.cellsOf e)
        have hl := Nat.mod_lt off (show p.cellsOf e > 0 by omega)
        rw [Bool.or_eq_true, Bool.and_eq_true, Bool.and_eq_true] at h
        rcases h with ⟨⟨h1, h2⟩, -⟩ | h
        · have h1 : off % p.cellsOf e = 0 := by simpa using h1
          have h2 : off / p.cellsOf e + n ≤ count := by simpa using h2
          have := Nat.mul_le_mul_right (p.cellsOf e) (show off / p.cellsOf e ≤ count by omega)
          rw [Nat.mul_comm] at hm; omega
        · rw [Bool.and_eq_true] at h
          have h2 : off / p.cellsOf e < count := by simpa using h.1
          have := Nat.mul_le_mul_right (p.cellsOf e) (show off / p.cellsOf e + 1 ≤ count from h2)
          rw [Nat.add_mul, Nat.one_mul] at this
          rw [Nat.mul_comm] at hm; omega
  intro d
  induction d with
  | zero => intro u n h; simp [liesAt] at h
  | succ d ih =>
    intro u n h
    unfold liesAt at h
    rw [Bool.or_eq_true] at h
    rcases h with h | h
    · exact hrow h
    · split at h
      · exact ih h
      · cases h
theorem has_le {p : Program} {w : World} {r : Reach} {base : Nat} {a : Addr} {e : TypeId} {n : Nat} (h : w.has p r base a e n) : a.spot = none ∧ ∃ cs el fr, w.heap[a.block]? = some (.cells cs el fr) ∧ a.off ≤ cs.size := by
  obtain ⟨-, h1, row, cells, h2, h3⟩ := h
  refine ⟨h1, ?_⟩
  unfold World.shape? at h2
  split at h2
  · rename_i cs el fr hb
    simp only [Option.some.injEq, Prod.mk.injEq] at h2
    obtain ⟨rfl, rfl⟩ := h2
    exact ⟨_, _, _, hb, Nat.le_trans (lies_le h3) (Nat.div_mul_le_self _ _)⟩
  · cases h2
end Go.Eng
namespace Go.Eng
open Wr Go.Sort Go.Proofs Go.RowKit
set_option linter.unusedVariables false
set_option linter.unusedSimpArgs false
inductive FL where
  | b
  | i (k : IntKind)
  deriving DecidableEq
def FLok : FL → Value → Prop
  | .b, v => ∃ x, v = .bool x
  | .i k, v => ∃ n, v = .int k n ∧ k.min ≤ n ∧ n ≤ k.max
def FLs : List FL → List Value → Prop
  | [], l => l = []
  | k :: ks, l => ∃ v vs, l = v :: vs ∧ FLok k v ∧ FLs ks vs
theorem FLs.len : ∀ {ks : List FL} {l : List Value}, FLs ks l → l.length = ks.length
  | [], l, h => by rw [show l = [] from h]; rfl
  | k :: ks, l, h => by obtain ⟨v, vs, rfl, _, h⟩ := h; simp [h.len]
theorem FLs.append : ∀ {ks : List FL} {l : List Value} {ks' : List FL} {l' : List Value}, FLs ks l → FLs ks' l' → FLs (ks ++ ks') (l ++ l')
  | [], l, ks', l', h, h' => by rw [show l = [] from h]; exact h'
  | k :: ks, l, ks', l', h, h' => by obtain ⟨v, vs, rfl, hk, h⟩ := h; exact ⟨v, vs ++ l', rfl, hk, h.append h'⟩
mutual
/-- the cells of a flat type, where its parts follow one another -/
def flatT (P : Program) : Nat → TypeId → Option (List FL)
  | 0, _ => none
  | n + 1, t => match P.underlying t with
    | some .bool => some [.b]
    | some (.int k) => some [.i k]
    | some (.struct fs) => (flatFs P n 0 fs.toList).bind fun l => if l.length = P.cellsOf t then some l else none
    | some (.array m e) => (flatT P n e).bind fun l => if l.length = P.cellsOf e ∧ m * P.cellsOf e = P.cellsOf t then some (List.replicate m l).flatten else none
    | _ => none
def flatFs (P : Program) : Nat → Nat → List Field → Option (List FL)
  | 0, _, _ => none
  | _ + 1, _, [] => some []
  | n + 1, o, f :: fs => if f.offset = o then (flatT P n f.type).bind fun l => if l.length = P.cellsOf f.type then (flatFs P n (o + P.cellsOf f.type) fs).map fun r => l ++ r else none else none
end
theorem wf_range {k : IntKind} {n : Int} (h : (Lit.int k n).wf = true) : k.min ≤ n ∧ n ≤ k.max := by
  simpa [Lit.wf] using h
section
variable {H : Type} {enc : TypeId × Value → H} {P : Program} {w : World} {base : Nat} {spare : Nat → Bool} {held : Bool}
theorem take_seg {cs : List Value} {o n : Nat} (h : o ≤ cs.length) : cs.take o ++ (cs.drop o).take n = cs.take (o + n) := by
  rw [List.take_add]
theorem mapM_cons_some {α β : Type} {f : α → Option β} {a : α} {l : List α} {r : List β} (h : (a :: l).mapM f = some r) : ∃ b bs, f a = some b ∧ l.mapM f = some bs ∧ r = b :: bs := by
  rw [List.mapM_cons] at h
  cases hb : f a with
  | none => rw [hb] at h; cases h
  | some b =>
    rw [hb] at h
    cases hl : l.mapM f with
    | none => rw [hl] at h; cases h
    | some bs => rw [hl] at h; exact ⟨b, bs, rfl, rfl, by cases h; rfl⟩
theorem range_arr {β : Type} {f : Nat → Option β} : ∀ {m : Nat} {r : List β}, (List.range m).mapM f = some r → ∀ i, i < m → ∃ y, f i = some y := by
  intro m r h i hi
  exact WideShapes.mapM_each h i (List.mem_range.2 hi)
theorem arr_FLs {c m : Nat} {l : List FL} (hl : l.length = c) : ∀ {cs : List Value}, cs.length = m * c → (∀ i, i < m → FLs l ((cs.drop (i * c)).take c)) → FLs (List.replicate m l).flatten cs := by
  induction m with
  | zero => intro cs h _; simp at h; subst h; rfl
  | succ m ih =>
    intro cs h hi
    rw [List.replicate_succ, List.flatten_cons]
    rw [← List.take_append_drop c cs]
    refine FLs.append ?_ (ih (by rw [List.length_drop, h, Nat.add_mul, Nat.one_mul]; omega) fun i hi' => ?_)
    · have := hi 0 (by omega); simpa using this
    · have := hi (i + 1) (by omega)
      rw [List.drop_drop]
      rw [show c + i * c = (i + 1) * c by rw [Nat.add_mul, Nat.one_mul]; omega]
      exact this
mutual
theorem flat_trod : ∀ (n : Nat) {fuel : Nat} {t : TypeId} {cs : List Value} {x : DataW H × List MemPlace} {ks : List FL}, flatT P n t = some ks → DataW.trod enc P w base spare held fuel t cs = some x → FLs ks cs
  | 0, fuel, t, cs, x, ks, hk, h => by simp [flatT] at hk
  | n + 1, 0, t, cs, x, ks, hk, h => by simp [DataW.trod] at h
  | n + 1, fuel + 1, t, cs, x, ks, hk, h => by
    unfold flatT at hk
    split at hk
    · rename_i hu
      cases hk
      rcases cs with _ | ⟨v, _ | ⟨v2, r⟩⟩
      · simp [DataW.trod, hu] at h
      · cases v <;> simp [DataW.trod, hu] at h
        exact ⟨_, _, rfl, ⟨_, rfl⟩, rfl⟩
      · simp [DataW.trod, hu] at h
    · rename_i k hu
      cases hk
      rcases cs with _ | ⟨v, _ | ⟨v2, r⟩⟩
      · simp [DataW.trod, hu] at h
      · cases v <;> simp [DataW.trod, hu] at h
        obtain ⟨⟨rfl, hw⟩, -⟩ := h
        exact ⟨_, _, rfl, ⟨_, rfl, wf_range hw⟩, rfl⟩
      · simp [DataW.trod, hu] at h
    · rename_i fs hu
      obtain ⟨l, hl, hk⟩ := Option.bind_eq_some_iff.1 hk
      split at hk
      · rename_i hc
        cases hk
        simp only [DataW.trod, hu] at h
        split at h
        · rename_i hcl
          obtain ⟨xs, hxs, -⟩ := Option.map_eq_some_iff.1 h
          have := flat_trodFs n hl hxs (by omega)
          rw [List.drop_zero, List.take_of_length_le (by omega)] at this
          exact this
        · cases h
      · cases hk
    · rename_i m e hu
      obtain ⟨l, hl, hk⟩ := Option.bind_eq_some_iff.1 hk
      split at hk
      · rename_i hc
        cases hk
        simp only [DataW.trod, hu] at h
        split at h
        · rename_i hcl
          obtain ⟨xs, hxs, -⟩ := Option.map_eq_some_iff.1 h
          refine arr_FLs hc.1 (by rw [hcl, hc.2]) fun i hi => ?_
          obtain ⟨y, hy⟩ := range_arr hxs i hi
          exact flat_trod n hl hy
        · cases h
      · cases hk
    · cases hk
theorem flat_trodFs : ∀ (n : Nat) {fuel o : Nat} {fs : List Field} {cs : List Value} {xs : List (DataW H × List MemPlace)} {ks : List FL}, flatFs P n o fs = some ks → (fs.mapM fun f => DataW.trod enc P w base spare held fuel f.type ((cs.drop f.offset).take (P.cellsOf f.type))) = some xs → o + ks.length ≤ cs.length → FLs ks ((cs.drop o).take ks.length)
  | 0, fuel, o, fs, cs, xs, ks, hk, h, hl => by simp [flatFs] at hk
  | n + 1, fuel, o, [], cs, xs, ks, hk, h, hl => by simp [flatFs] at hk; subst hk; rfl
  | n + 1, fuel, o, f :: fs, cs, xs, ks, hk, h, hl => by
    unfold flatFs at hk
    split at hk
    · rename_i ho
      subst ho
      obtain ⟨l, hl1, hk⟩ := Option.bind_eq_some_iff.1 hk
      split at hk
      · rename_i hc
        obtain ⟨r, hr, rfl⟩ := Option.map_eq_some_iff.1 hk
        obtain ⟨b, bs, hb, hbs, rfl⟩ := mapM_cons_some h
        have h1 := flat_trod n hl1 hb
        rw [List.length_append] at hl ⊢
        have h2 := flat_trodFs n hr hbs (by omega)
        rw [List.take_add, List.drop_drop, hc]
        exact h1.append h2
      · cases hk
    · cases hk
end
theorem range_cells {cs : Array Value} {p : Nat} : ∀ {k s : Nat} {ws : List Value}, (List.range' s k).mapM (fun j => cs[p + j]?) = some ws → ws = (cs.toList.drop (p + s)).take k
  | 0, s, ws, h => by simp at h; subst h; simp
  | k + 1, s, ws, h => by
    rw [List.range'_succ] at h
    obtain ⟨b, bs, h1, h2, rfl⟩ := mapM_cons_some h
    have ih := range_cells h2
    obtain ⟨hlt, hb⟩ := Array.getElem?_eq_some_iff.1 h1
    rw [List.drop_eq_getElem_cons (by simpa using hlt), List.take_succ_cons, ih]
    congr 1
    exact hb.symm
theorem cells?_list {b o k : Nat} {cs : Array Value} {el : TypeId} {fr : Nat × Nat} {ws : List Value} (hb : w.heap[b]? = some (.cells cs el fr)) (h : w.cells? base ⟨b, o, none⟩ k = some ws) : ws = (cs.toList.drop o).take k := by
  unfold World.cells? at h
  split at h
  · have e : (fun i => w.cell? (Addr.add ⟨b, o, none⟩ i)) = fun j => cs[o + j]? := by
      funext j
      rw [WideShapes.add_plain]
      unfold World.cell?
      simp only [hb]; rfl
    rw [e, List.range_eq_range'] at h
    exact range_cells h
  · cases h
/-- a slice of a flat type that came in -/
theorem slice_trod {n fuel : Nat} {t e : TypeId} {a : Option Addr} {len cap : Nat} {x : DataW H × List MemPlace} {ks : List FL} (hu : P.underlying t = some (.slice e)) (hk : flatT P n e = some ks) (hc : P.cellsOf e = ks.length) (hpos : 0 < ks.length)
    (h : DataW.trod enc P w base spare held fuel t [.slice a len cap] = some x) (hv : Value.okWide P w .any base t (.slice a len cap)) :
    (a = none ∧ len = 0 ∧ cap = 0) ∨ ∃ b o cs el fr, a = some ⟨b, o, none⟩ ∧ w.heap[b]? = some (.cells cs el fr) ∧ o + len * ks.length ≤ cs.size ∧ len ≤ cap ∧ cap ≤ maxLen ∧ ∀ i, i < len → FLs ks ((cs.toList.drop (o + i * ks.length)).take ks.length) := by
  cases a with
  | none =>
    left
    refine ⟨rfl, ?_⟩
    cases fuel with
    | zero => simp [DataW.trod] at h
    | succ fuel =>
      unfold DataW.trod at h
      rw [hu] at h
      split at h <;> simp_all
  | some a =>
    right
    have hok : w.has P .any base a e cap := by
      unfold Value.okWide at hv
      rw [hu] at hv
      unfold Cell.okWide at hv
      rw [hu] at hv
      have : Cell.ok P w .any base t (.slice (some a) len cap) := hv
      unfold Cell.ok at this
      rw [hu] at this
      exact this.2.2
    obtain ⟨hsp, cs, el, fr, hb, ho⟩ := has_le hok
    cases fuel with
    | zero => simp [DataW.trod] at h
    | succ fuel =>
      simp only [DataW.trod, hu] at h
      split at h
      · rename_i hcond
        obtain ⟨elems, hel, -⟩ := Option.bind_eq_some_iff.1 h
        have hcell : ∀ i, i < len → ∃ ws, w.cells? base (a.add (i * P.cellsOf e)) (P.cellsOf e) = some ws ∧ FLs ks ws := by
          intro i hi
          obtain ⟨y, hy⟩ := range_arr hel i hi
          obtain ⟨ws, hw, hy⟩ := Option.bind_eq_some_iff.1 hy
          exact ⟨ws, hw, flat_trod n hk hy⟩
        obtain ⟨b, o, sp⟩ := a
        obtain rfl : sp = none := hsp
        have hall : ∀ i, i < len → o + i * ks.length + ks.length ≤ cs.size ∧ FLs ks ((cs.toList.drop (o + i * ks.length)).take ks.length) := by
          intro i hi
          obtain ⟨ws, hw, hf⟩ := hcell i hi
          rw [WideShapes.add_plain, hc] at hw
          have := cells?_list hb hw
          subst this
          have hl := hf.len
          rw [List.length_take, List.length_drop] at hl
          have : cs.toList.length = cs.size := rfl
          exact ⟨by omega, hf⟩
        refine ⟨b, o, cs, el, fr, rfl, hb, ?_, hcond.2.1, hcond.2.2, fun i hi => (hall i hi).2⟩
        rcases Nat.eq_zero_or_pos len with h0 | h0
        · subst h0; simpa using ho
        · have := (hall (len - 1) (by omega)).1
          have e : len * ks.length = (len - 1) * ks.length + ks.length := by
            obtain ⟨m, rfl⟩ : ∃ m, len = m + 1 := ⟨len - 1, by omega⟩
            rw [Nat.add_mul, Nat.one_mul]; simp
          omega
      · cases h
end
end Go.Eng
