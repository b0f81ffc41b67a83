/-
  override.Check: it returns the first error of a list of holds, or 0. Conditions: none but where the list lies.
-/
import Derived.Test.YtaglmfhpbbpleaaChk
import Derived.StillTailTactics
import Derived.LoopTactic
namespace Go.Proofs.Ytaglmfhpbbpleaa.G
open Go.Shelf Go.RowKit Go.Lib Go.Proofs.YtaglmfhpbbpleaaW.PrintWords Go.Proofs.YtaglmfhpbbpleaaW.PrintLast

def Chk8 (l : List S42) (A : Option Addr) (c : Nat) (W : World) (r : Int) : Prop :=
  Calls Try.prog 8 #[.slice A l.length c] W fun e w' => e = .returned (.int .i64 r) ∧ Below W.heap.size W w'

section
variable (l : List S42) (A : Option Addr) (c : Nat) (W : World) (hC : Kd.C k42 W A l.length l)

set_option maxRecDepth 100000 in
theorem chk_many (h1 : 64 < l.length) (hm : l.length ≤ 9223372036854775807) : Chk8 l A c W 7 := by
  unfold Chk8
  go_enter Try.func8, Try.ntmps8
  go_wp2_with fail
  go_ret
  exact ⟨rfl, (Below.refl _ W).alloc (Nat.le_refl _) _⟩

include hC
/-- What the calls of 'every' do: the list's box lies at B. -/
theorem every_at (g : Nat) (p : S42 → Bool) (T : Tests g p) (r : Bool) (hr : (l.any fun x => !p x) = r) (V : World) (hb : Below W.heap.size W V) (hB : W.heap.size < V.heap.size) (hl : V.cell? ⟨W.heap.size, 0, none⟩ = some (.slice A l.length c)) :
    Calls Try.prog 15 #[.func (.func g) #[] #[], .pointer (some ⟨W.heap.size, 0, none⟩)] V fun e w' => e = .returned (.bool (!r)) ∧ Below V.heap.size V w' := by
  have := every15 g p T l A c W.heap.size V hB hl (Kd.C_below hC hb)
  rw [hr] at this
  exact this

set_option maxRecDepth 100000 in
theorem chk_name (h1 : ¬ 64 < l.length) (h2 : (l.any fun h => !nameB h.f0) = true) : Chk8 l A c W 4 := by
  have E := every_at l A c W hC 18 _ tests18 true h2
  have HE := Lib.hid E
  clear E h2 hC
  unfold Chk8
  go_enter Try.func8, Try.ntmps8
  go_wp2_with fail
  refine (HE.out _ ((Below.refl _ W).alloc (Nat.le_refl _) _) (by simp) (by simp)).mono ?_
  rintro e w1 ⟨rfl, hb⟩
  have HB := Lib.hid (((Below.refl _ W).alloc (Nat.le_refl _) (.cells #[.slice A l.length c] 22)).trans (hb.mono (by simp)))
  clear hb
  go_wp2_with fail
  go_ret
  exact ⟨rfl, HB.out⟩
set_option maxRecDepth 100000 in
set_option maxHeartbeats 1000000 in
theorem chk_span (h1 : ¬ 64 < l.length) (h2 : (l.any fun h => !nameB h.f0) = false) (h3 : (l.any fun h => !spanB h) = true) : Chk8 l A c W 6 := by
  have HE18 := Lib.hid (every_at l A c W hC 18 _ tests18 false h2)
  have HE20 := Lib.hid (every_at l A c W hC 20 _ tests20 true h3)
  clear h2 h3 hC
  unfold Chk8
  go_enter Try.func8, Try.ntmps8
  go_wp2_with fail
  refine (HE18.out _ ((Below.refl _ W).alloc (Nat.le_refl _) _) (by simp) (by simp)).mono ?_
  rintro e w1 ⟨rfl, hb⟩
  have z1 : W.heap.size < w1.heap.size := by have := hb.size; simp at this; omega
  have d1 : w1.cell? ⟨W.heap.size, 0, none⟩ = some (.slice A l.length c) := (hb.cell (p := ⟨W.heap.size, 0, none⟩) (by simp)).trans (by simp)
  have b1 : Below W.heap.size W w1 := (((Below.refl _ W).alloc (Nat.le_refl _) (.cells #[.slice A l.length c] 22)).trans (hb.mono (by simp)))
  have HB1 := Lib.hid b1
  clear hb b1
  go_wp2_with fail
  refine (HE20.out _ HB1.out z1 d1).mono ?_
  rintro e w2 ⟨rfl, hb⟩
  have z2 : W.heap.size < w2.heap.size := Nat.lt_of_lt_of_le z1 hb.size
  have d2 : w2.cell? ⟨W.heap.size, 0, none⟩ = some (.slice A l.length c) := (hb.cell (p := ⟨W.heap.size, 0, none⟩) z1).trans d1
  have b2 : Below W.heap.size W w2 := HB1.out.trans (hb.mono (Nat.le_of_lt z1))
  have HB2 := Lib.hid b2
  clear hb b2 z1 d1
  go_wp2_with fail
  go_ret
  exact ⟨rfl, HB2.out⟩
set_option maxRecDepth 100000 in
set_option maxHeartbeats 1000000 in
theorem chk_type (h1 : ¬ 64 < l.length) (h2 : (l.any fun h => !nameB h.f0) = false) (h3 : (l.any fun h => !spanB h) = false) (h4 : (l.any fun h => !typeB h) = true) : Chk8 l A c W 11 := by
  have HE18 := Lib.hid (every_at l A c W hC 18 _ tests18 false h2)
  have HE20 := Lib.hid (every_at l A c W hC 20 _ tests20 false h3)
  have HE21 := Lib.hid (every_at l A c W hC 21 _ tests21 true h4)
  clear h2 h3 h4 hC
  unfold Chk8
  go_enter Try.func8, Try.ntmps8
  go_wp2_with fail
  refine (HE18.out _ ((Below.refl _ W).alloc (Nat.le_refl _) _) (by simp) (by simp)).mono ?_
  rintro e w1 ⟨rfl, hb⟩
  have z1 : W.heap.size < w1.heap.size := by have := hb.size; simp at this; omega
  have d1 : w1.cell? ⟨W.heap.size, 0, none⟩ = some (.slice A l.length c) := (hb.cell (p := ⟨W.heap.size, 0, none⟩) (by simp)).trans (by simp)
  have b1 : Below W.heap.size W w1 := (((Below.refl _ W).alloc (Nat.le_refl _) (.cells #[.slice A l.length c] 22)).trans (hb.mono (by simp)))
  have HB1 := Lib.hid b1
  clear hb b1
  go_wp2_with fail
  refine (HE20.out _ HB1.out z1 d1).mono ?_
  rintro e w2 ⟨rfl, hb⟩
  have z2 : W.heap.size < w2.heap.size := Nat.lt_of_lt_of_le z1 hb.size
  have d2 : w2.cell? ⟨W.heap.size, 0, none⟩ = some (.slice A l.length c) := (hb.cell (p := ⟨W.heap.size, 0, none⟩) z1).trans d1
  have b2 : Below W.heap.size W w2 := HB1.out.trans (hb.mono (Nat.le_of_lt z1))
  have HB2 := Lib.hid b2
  clear hb b2 z1 d1
  go_wp2_with fail
  refine (HE21.out _ HB2.out z2 d2).mono ?_
  rintro e w3 ⟨rfl, hb⟩
  have z3 : W.heap.size < w3.heap.size := Nat.lt_of_lt_of_le z2 hb.size
  have d3 : w3.cell? ⟨W.heap.size, 0, none⟩ = some (.slice A l.length c) := (hb.cell (p := ⟨W.heap.size, 0, none⟩) z2).trans d2
  have b3 : Below W.heap.size W w3 := HB2.out.trans (hb.mono (Nat.le_of_lt z2))
  have HB3 := Lib.hid b3
  clear hb b3 z2 d2
  go_wp2_with fail
  go_ret
  exact ⟨rfl, HB3.out⟩
end
end Go.Proofs.Ytaglmfhpbbpleaa.G
