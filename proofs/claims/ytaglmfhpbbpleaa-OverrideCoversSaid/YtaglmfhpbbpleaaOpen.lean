/-
  Arguments that are slices of structs, opened in the printer's words. Conditions: those that each lemma names.
-/
import Derived.Test.YtaglmfhpbbpleaaFlat
import Derived.Deep.Slices
import Derived.Deep.Fields
import Derived.ChangeSame
import Derived.WideShapes
namespace Go.Proofs.Ytaglmfhpbbpleaa.G
open Go.ChangeShapes Go.WideShapes Go.Deep Go.RowKit Go.Proofs.YtaglmfhpbbpleaaW.PrintWords Go.Proofs.YtaglmfhpbbpleaaW.PrintLast

section
variable {H : Type} {enc : TypeId × Value → H} {P : Program} {w : World} {base : Nat} {spare : Nat → Bool} {held : Bool}
theorem open_rows {α : Type} {d : Kd α} {en : α → List Value} (F : Flat d en) (good : α → Prop) {t e : TypeId} (ht : P.underlying t = some (.slice e)) (hC : P.cellsOf e = d.sz)
    (hopen : ∀ n cs x, DataW.trod enc P w base spare held n e cs = some x → ∃ a, cs = en a ∧ good a) {fuel : Nat} {A : Option Addr} {len cap : Nat} {x : DataW H × List MemPlace}
    (h : DataW.trod enc P w base spare held fuel t [.slice A len cap] = some x) : ∃ zs : List α, Kd.C d w A len zs ∧ len ≤ cap ∧ (∀ a ∈ zs, good a) ∧ zs.length = len := by
  rcases open_slice ht h with ⟨hcs, _⟩ | ⟨a, len', cap', m, n, D, Pl, hcs, hb, hl, hm, hmm, _, hi⟩
  · simp only [List.cons.injEq, Value.slice.injEq, and_true] at hcs
    obtain ⟨rfl, rfl, rfl⟩ := hcs
    exact ⟨[], ⟨rfl, by omega, fun h0 => by omega⟩, Nat.le_refl _, fun a ha => by simp at ha, rfl⟩
  · simp only [List.cons.injEq, Value.slice.injEq, and_true] at hcs
    obtain ⟨rfl, rfl, rfl⟩ := hcs
    have hlm : len ≤ m := by rw [hmm]; split <;> omega
    have hz : ∀ i : Fin len, ∃ z : α, good z ∧ ∀ j u, (en z)[j]? = some u → w.cell? (a.add (i.1 * d.sz + j)) = some u := by
      intro i
      obtain ⟨cs', hc, ht'⟩ := hi i.1 (by omega)
      obtain ⟨z, hz, hg⟩ := hopen _ _ _ ht'
      obtain ⟨_, hcl, hat⟩ := World.cells?_some hc
      refine ⟨z, hg, fun j u hu => ?_⟩
      have hj : j < d.sz := by
        have := (List.getElem?_eq_some_iff.1 hu).1
        rw [F.len] at this; exact this
      have := hat j (by rw [hC]; exact hj)
      rw [hz, hu, hC] at this
      rw [← this, Go.Deep.add_add]
    obtain ⟨f, hf1, hf2⟩ : ∃ f : Fin len → α, (∀ i, good (f i)) ∧ ∀ i : Fin len, ∀ j u, (en (f i))[j]? = some u → w.cell? (a.add (i.1 * d.sz + j)) = some u :=
      ⟨fun i => Classical.choose (hz i), fun i => (Classical.choose_spec (hz i)).1, fun i => (Classical.choose_spec (hz i)).2⟩
    refine ⟨List.ofFn f, ⟨by simp, by unfold maxLen at hm; omega, fun h0 => ⟨a, rfl, fun j p hj => ?_⟩⟩, hl, fun z hz => ?_, by simp⟩
    · have hjl : j < len := by
        have := (List.getElem?_eq_some_iff.1 hj).1
        simpa using this
      have hp : f ⟨j, hjl⟩ = p := by
        rw [List.getElem?_ofFn] at hj
        simpa [hjl] using hj
      subst hp
      exact ⟨en (f ⟨j, hjl⟩), F.len _, (F.K _ _ _).2 rfl, fun i u hu => hf2 ⟨j, hjl⟩ i u hu⟩
    · obtain ⟨j, hj, rfl⟩ := List.getElem_of_mem hz
      simp only [List.getElem_ofFn]
      exact hf1 _
end
end Go.Proofs.Ytaglmfhpbbpleaa.G
