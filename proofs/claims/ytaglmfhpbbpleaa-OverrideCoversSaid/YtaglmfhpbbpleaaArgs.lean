/-
  The arguments of the laws of layer 34, opened: a value, a hold. Conditions: those that each lemma names.
-/
import Derived.Test.YtaglmfhpbbpleaaOpen
import Derived.Test.YtaglmfhpbbpleaaChk
import Derived.ChangeArms
namespace Go.Proofs.Ytaglmfhpbbpleaa.G
open Go.ChangeShapes Go.WideShapes Go.RowKit Go.Proofs.YtaglmfhpbbpleaaW.PrintWords Go.Proofs.YtaglmfhpbbpleaaW.PrintLast

def enc37 (x : S37) : List Value := [.int .i64 x.f0, .int .i64 x.f1]
section
variable {H : Type} {enc : TypeId × Value → H} {w : World} {base : Nat} {spare : Nat → Bool} {held : Bool}
theorem ncells2 : Try.prog.cellsOf 2 = 1 := by kernel_rfl
theorem ncells3 : Try.prog.cellsOf 3 = 1 := by kernel_rfl
theorem ncells9 : Try.prog.cellsOf 9 = 1 := by kernel_rfl
theorem ncells37 : Try.prog.cellsOf 37 = 2 := by kernel_rfl
theorem ncells42 : Try.prog.cellsOf 42 = 6 := by kernel_rfl
theorem open37 {n : Nat} {cs : List Value} {x : DataW H × List MemPlace} (h : DataW.trod enc Try.prog w base spare held n 37 cs = some x) : ∃ a : S37, cs = enc37 a ∧ True := by
  obtain ⟨xs, m, _, _, hl, hxl, hf⟩ := DataW.trod_struct Try.underlying37 h
  rw [ncells37] at hl
  match cs, hl with
  | [c0, c1], _ =>
    have hx : ∀ i, i < xs.length → ∃ y, xs[i]? = some y := fun i hi => ⟨_, List.getElem?_eq_getElem hi⟩
    obtain ⟨y0, hy0⟩ := hx 0 (by rw [hxl]; decide)
    obtain ⟨y1, hy1⟩ := hx 1 (by rw [hxl]; decide)
    have g0 : DataW.trod enc Try.prog w base spare held m 3 (([c0, c1].drop 0).take (Try.prog.cellsOf 3)) = xs[0]? := hf 0 _ rfl
    have g1 : DataW.trod enc Try.prog w base spare held m 2 (([c0, c1].drop 1).take (Try.prog.cellsOf 2)) = xs[1]? := hf 1 _ rfl
    simp only [ncells2, ncells3, List.drop_zero, List.take_succ_cons, List.take_zero, List.drop_succ_cons, hy0, hy1] at g0 g1
    obtain ⟨n0, e0, _, _⟩ := DataW.trod_int Try.underlying3 g0
    obtain ⟨n1, e1, _, _⟩ := DataW.trod_int Try.underlying2 g1
    simp only [List.cons.injEq, and_true] at e0 e1
    exact ⟨⟨n0, n1⟩, by rw [e0, e1]; rfl, trivial⟩
theorem open42 {n : Nat} {cs : List Value} {x : DataW H × List MemPlace} (h : DataW.trod enc Try.prog w base spare held n 42 cs = some x) : ∃ a : S42, cs = enc42 a ∧ True := by
  obtain ⟨xs, m, _, _, hl, hxl, hf⟩ := DataW.trod_struct Try.underlying42 h
  rw [ncells42] at hl
  match cs, hl with
  | [c0, c1, c2, c3, c4, c5], _ =>
    have hx : ∀ i, i < xs.length → ∃ y, xs[i]? = some y := fun i hi => ⟨_, List.getElem?_eq_getElem hi⟩
    obtain ⟨y0, hy0⟩ := hx 0 (by rw [hxl]; decide)
    obtain ⟨y1, hy1⟩ := hx 1 (by rw [hxl]; decide)
    obtain ⟨y2, hy2⟩ := hx 2 (by rw [hxl]; decide)
    obtain ⟨y3, hy3⟩ := hx 3 (by rw [hxl]; decide)
    obtain ⟨y4, hy4⟩ := hx 4 (by rw [hxl]; decide)
    have g0 : DataW.trod enc Try.prog w base spare held m 9 (([c0, c1, c2, c3, c4, c5].drop 0).take (Try.prog.cellsOf 9)) = xs[0]? := hf 0 _ rfl
    have g1 : DataW.trod enc Try.prog w base spare held m 3 (([c0, c1, c2, c3, c4, c5].drop 1).take (Try.prog.cellsOf 3)) = xs[1]? := hf 1 _ rfl
    have g2 : DataW.trod enc Try.prog w base spare held m 3 (([c0, c1, c2, c3, c4, c5].drop 2).take (Try.prog.cellsOf 3)) = xs[2]? := hf 2 _ rfl
    have g3 : DataW.trod enc Try.prog w base spare held m 37 (([c0, c1, c2, c3, c4, c5].drop 3).take (Try.prog.cellsOf 37)) = xs[3]? := hf 3 _ rfl
    have g4 : DataW.trod enc Try.prog w base spare held m 3 (([c0, c1, c2, c3, c4, c5].drop 5).take (Try.prog.cellsOf 3)) = xs[4]? := hf 4 _ rfl
    simp only [ncells3, ncells9, ncells37, List.drop_zero, List.take_succ_cons, List.take_zero, List.drop_succ_cons, hy0, hy1, hy2, hy3, hy4] at g0 g1 g2 g3 g4
    obtain ⟨n0, e0, _, _⟩ := DataW.trod_string Try.underlying9 g0
    obtain ⟨n1, e1, _, _⟩ := DataW.trod_int Try.underlying3 g1
    obtain ⟨n2, e2, _, _⟩ := DataW.trod_int Try.underlying3 g2
    obtain ⟨n3, e3, _⟩ := open37 g3
    obtain ⟨n4, e4, _, _⟩ := DataW.trod_int Try.underlying3 g4
    simp only [List.cons.injEq, and_true, enc37] at e0 e1 e2 e3 e4
    exact ⟨⟨n0, n1, n2, n3, n4⟩, by rw [e0, e1, e2, e3.1, e3.2, e4]; rfl, trivial⟩
end
end Go.Proofs.Ytaglmfhpbbpleaa.G
