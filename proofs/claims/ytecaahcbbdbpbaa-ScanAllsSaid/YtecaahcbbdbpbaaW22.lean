/-
  P2: What law14.awake sees, worked out.
  P1: The law of the sort: what slices.SortFunc makes of scan's list, and what the document's insertion makes of it, is one list.
  S1: DERIVED: THE SHELF's CONTRACTS AT THIS DUMP, IN PLAIN WORDS (tools/lay-plain.mjs out of 'YtecaahcbbdbpbaaShelf.lean', which tools/lay-shelf.mjs wrote): THE SAME DECLARATIONS UNDER THE SAME NAMES: 'import', 'namespace', 'open', 'def', 'theorem' AND NOTHING ELSE: no command of the shelf's: FOR A HAND-IN. Each laying: the table of numbers ('.._ren') and one theorem, a field a fact of the dump's own or the kernel's comparison; each contract: ONE APPLICATION.
-/
import Derived.Shelf.SlSortCmp.WholeK
import Derived.Shelf.SlGeneric
import Derived.Ground.SlsfProg
import Derived.Test.YtecaahcbbdbpbaaProg
import Derived.Test.YtecaahcbbdbpbaaW20
import Derived.Sort.AssemblyPlain
namespace Go.Proofs
open Go.Shelf
def Try.sortLay_ren : Go.Shelf.Ren := ⟨fun | 6 => 25 | 15 => 51 | 14 => 50 | 28 => 75 | 29 => 76 | 20 => 67 | 21 => 68 | 22 => 69 | 23 => 70 | 24 => 71 | 25 => 72 | 26 => 73 | 27 => 74 | 46 => 83 | 47 => 84 | 48 => 85 | 49 => 86 | 50 => 87 | 57 => 88 | n => n, fun | 22 => 29 | 24 => 54 | 25 => 76 | 3 => 3 | 39 => 88 | 0 => 0 | 53 => 113 | 55 => 41 | 4 => 4 | 46 => 122 | 45 => 121 | 50 => 126 | 5 => 5 | 9 => 9 | 66 => 138 | 70 => 142 | 76 => 144 | 77 => 145 | n => n, fun | n => n⟩
theorem Try.sortLay : Go.Proofs.SlLaysF0.n6 Try.prog Try.sortLay_ren := {
  mixed := by kernel_rfl
  f6 := ⟨Try.f25.name, by decide, Try.func25.trans (congrArg some (by kernel_rfl))⟩
  f14 := ⟨Try.f50.name, by decide, Try.func50.trans (congrArg some (by kernel_rfl))⟩
  f15 := Try.func51.trans (congrArg some (by kernel_rfl))
  f20 := ⟨Try.f67.name, by decide, Try.func67.trans (congrArg some (by kernel_rfl))⟩
  f21 := ⟨Try.f68.name, by decide, Try.func68.trans (congrArg some (by kernel_rfl))⟩
  f22 := ⟨Try.f69.name, by decide, Try.func69.trans (congrArg some (by kernel_rfl))⟩
  f23 := ⟨Try.f70.name, by decide, Try.func70.trans (congrArg some (by kernel_rfl))⟩
  f24 := ⟨Try.f71.name, by decide, Try.func71.trans (congrArg some (by kernel_rfl))⟩
  f25 := ⟨Try.f72.name, by decide, Try.func72.trans (congrArg some (by kernel_rfl))⟩
  f26 := ⟨Try.f73.name, by decide, Try.func73.trans (congrArg some (by kernel_rfl))⟩
  f27 := ⟨Try.f74.name, by decide, Try.func74.trans (congrArg some (by kernel_rfl))⟩
  f28 := Try.func75.trans (congrArg some (by kernel_rfl))
  f29 := Try.func76.trans (congrArg some (by kernel_rfl))
  f46 := ⟨Try.f83.name, by decide, Try.func83.trans (congrArg some (by kernel_rfl))⟩
  f47 := Try.func84.trans (congrArg some (by kernel_rfl))
  f48 := Try.func85.trans (congrArg some (by kernel_rfl))
  f49 := ⟨Try.f86.name, by decide, Try.func86.trans (congrArg some (by kernel_rfl))⟩
  f50 := ⟨Try.f87.name, by decide, Try.func87.trans (congrArg some (by kernel_rfl))⟩
  f57 := ⟨Try.f88.name, by decide, Try.func88.trans (congrArg some (by kernel_rfl))⟩
  t0 := Try.underlying0
  a0 := Try.isAgg0
  z0 := Try.sizeOf0
  v0 := Try.zeroValue0
  t3 := Try.underlying3
  a3 := Try.isAgg3
  z3 := Try.sizeOf3
  v3 := Try.zeroValue3
  t4 := Try.underlying4
  a4 := Try.isAgg4
  z4 := Try.sizeOf4
  v4 := Try.zeroValue4
  t5 := Try.underlying5
  a5 := Try.isAgg5
  z5 := Try.sizeOf5
  v5 := Try.zeroValue5
  t9 := Try.underlying9
  a9 := Try.isAgg9
  z9 := Try.sizeOf9
  v9 := Try.zeroValue9
  t22 := Try.underlying29
  a22 := Try.isAgg29
  z22 := Try.sizeOf29
  v22 := Try.zeroValue29
  t25 := Try.underlying76
  a25 := Try.isAgg76
  z25 := Try.sizeOf76
  v25 := Try.zeroValue76
  t39 := Try.underlying88
  a39 := Try.isAgg88
  z39 := Try.sizeOf88
  v39 := Try.zeroValue88
  t45 := Try.underlying121
  a45 := Try.isAgg121
  z45 := Try.sizeOf121
  v45 := Try.zeroValue121
  t46 := Try.underlying122
  a46 := Try.isAgg122
  z46 := Try.sizeOf122
  v46 := Try.zeroValue122
  t50 := Try.underlying126
  a50 := Try.isAgg126
  z50 := Try.sizeOf126
  v50 := Try.zeroValue126
  t53 := Try.underlying113
  a53 := Try.isAgg113
  z53 := Try.sizeOf113
  v53 := Try.zeroValue113
  t55 := Try.underlying41
  a55 := Try.isAgg41
  z55 := Try.sizeOf41
  v55 := Try.zeroValue41
  t66 := Try.underlying138
  a66 := Try.isAgg138
  z66 := Try.sizeOf138
  v66 := Try.zeroValue138
  t70 := Try.underlying142
  a70 := Try.isAgg142
  z70 := Try.sizeOf142
  v70 := Try.zeroValue142
  t76 := Try.underlying144
  a76 := Try.isAgg144
  z76 := Try.sizeOf144
  v76 := Try.zeroValue144
  t77 := Try.underlying145
  a77 := Try.isAgg145
  z77 := Try.sizeOf145
  v77 := Try.zeroValue145 }
end Go.Proofs
namespace Go.Eng
open Wr
set_option linter.unusedVariables false
theorem cfF_lt {a b : Wr.Found} : cfF a b < 0 ↔ flt a b := by
  unfold cfF cmpI flt
  split <;> (repeat' split) <;> omega
def ltF (x y : Wr.Found) : Bool := decide (cfF x y < 0)
theorem ltF_iff {x y : Wr.Found} : ltF x y = true ↔ flt x y := by unfold ltF; rw [decide_eq_true_iff]; exact cfF_lt
theorem ltF_not {x y : Wr.Found} : ltF x y = false ↔ ¬ flt x y := by rw [← ltF_iff]; simp
theorem ltF_swo : Go.Sort.SWO ltF := by
  refine ⟨fun x => ?_, fun x y z => ?_, fun x y z => ?_⟩
  · rw [ltF_not]; unfold flt; omega
  · simp only [ltF_iff]; unfold flt; omega
  · simp only [ltF_not]; unfold flt; omega
theorem sortF_both (L : List Wr.Found) : (sortF L).Perm L ∧ (sortF L).Pairwise fun a b => ¬ flt b a := by
  have h := Go.Sort.pdq_sorts ltF ltF_swo L.toArray 0 L.length (Go.Lib.bitLen L.length) true true (Nat.zero_le _) (by simp) (.inl rfl)
  have e : sortF L = (Go.Sort.pdq ltF L.toArray 0 L.length (Go.Lib.bitLen L.length) true true).toList := rfl
  rw [e]
  generalize Go.Sort.pdq ltF L.toArray 0 L.length (Go.Lib.bitLen L.length) true true = R at h
  obtain ⟨⟨h1, h2, h3⟩, h4⟩ := h
  have hsz : R.size = L.length := by rw [h1]; simp
  constructor
  · rw [Array.extract_eq_self_of_le (by omega), Array.extract_eq_self_of_le (by simp)] at h3
    simpa using h3
  · rw [List.pairwise_iff_getElem]
    intro i j hi hj hij
    have := h4 i j (Nat.zero_le _) hij (by simpa [hsz] using hj)
    rw [ltF_not, getElem!_pos R j (by simpa using hj), getElem!_pos R i (by simpa using hi)] at this
    simpa using this
theorem sortF_len (L : List Wr.Found) : (sortF L).length = L.length := (sortF_both L).1.length_eq
theorem place_inj {L : List Wr.Found} (h : L.Pairwise fun a b => a.place < b.place) {a b : Wr.Found} (ha : a ∈ L) (hb : b ∈ L) (e : a.place = b.place) : a = b := by
  induction h with
  | nil => cases ha
  | cons h1 _ ih =>
    rcases List.mem_cons.mp ha with ha | ha <;> rcases List.mem_cons.mp hb with hb | hb
    · rw [ha, hb]
    · have := h1 b hb; rw [ha] at e; omega
    · have := h1 a ha; rw [hb] at e; omega
    · exact ih ha hb
theorem sort_unique {le : Wr.Found → Wr.Found → Prop} : ∀ {l m : List Wr.Found}, (∀ a b, a ∈ l → b ∈ l → le a b → le b a → a = b) → l.Pairwise le → m.Pairwise le → l.Perm m → l = m
  | [], m, _, _, _, p => by rw [p.nil_eq]
  | a :: l, [], _, _, _, p => by have := p.length_eq; simp at this
  | a :: l, b :: m, h, s1, s2, p => by
    have hab : a = b := by
      rw [List.pairwise_cons] at s1 s2
      by_cases e : a = b
      · exact e
      · have ha : a ∈ b :: m := p.mem_iff.mp List.mem_cons_self
        have hb : b ∈ a :: l := p.mem_iff.mpr List.mem_cons_self
        have ha' : a ∈ m := by rcases List.mem_cons.mp ha with h | h; exact (e h).elim; exact h
        have hb' : b ∈ l := by rcases List.mem_cons.mp hb with h | h; exact (e h.symm).elim; exact h
        exact h a b List.mem_cons_self hb (s1.1 b hb') (s2.1 a ha')
    subst hab
    rw [sort_unique (fun x y hx hy => h x y (List.mem_cons_of_mem _ hx) (List.mem_cons_of_mem _ hy)) (List.pairwise_cons.mp s1).2 (List.pairwise_cons.mp s2).2 p.cons_inv]
/-- one list -/
theorem sortF_eq {L R : List Wr.Found} (hL : L.Pairwise fun a b => a.place < b.place) (hR : R.Pairwise flt) (hp : R.Perm L) : sortF L = R := by
  obtain ⟨h1, h2⟩ := sortF_both L
  refine sort_unique (le := fun a b => ¬ flt b a) ?_ h2 (hR.imp ?_) (h1.trans hp.symm)
  · intro a b ha hb hab hba
    refine place_inj hL (h1.mem_iff.mp ha) (h1.mem_iff.mp hb) ?_
    unfold flt at hab hba; omega
  · intro a b hab; unfold flt at *; omega
end Go.Eng
namespace Go.Eng
open Wr
set_option linter.unusedVariables false
def putR (ep sq : Int) : Rec := ⟨2, ep, sq, 1, 0, Bytes.zero 32⟩
def awG : Geom := ⟨2, 8, 6, 8, 3⟩
def awL : List S3 := [⟨1, putR 2 5, false⟩, ⟨0, putR 2 6, false⟩, ⟨1, putR 2 8, false⟩, ⟨1, putR 1 9, false⟩]
def awR : List Wr.Found := [⟨9, putR 2 5⟩, ⟨1, putR 2 6⟩, ⟨10, putR 2 8⟩]
theorem awScan : scanD (layD awG awL) 2 4 8 = [⟨1, putR 2 6⟩, ⟨9, putR 2 5⟩, ⟨10, putR 2 8⟩] := by kernel_rfl
theorem awZones : (layD awG awL).zones.length = 8 := by kernel_rfl
theorem awDown : (layD awG awL).down = false := by kernel_rfl
theorem awIll : (layD awG awL).illegal = 0 := by kernel_rfl
theorem awSort : sortF (scanD (layD awG awL) 2 4 (layD awG awL).zones.length) = awR := by
  rw [awZones, awScan]
  refine sortF_eq ?_ ?_ ?_
  · simp [List.pairwise_cons]
  · simp [awR, flt, putR]
  · exact List.Perm.swap _ _ _
theorem awChain : (chainF awR 4).length = 2 ∧ (chainF awR 6).length = 0 := by constructor <;> kernel_rfl
end Go.Eng
