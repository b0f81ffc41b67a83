/-
  override.governs: the index of the hold with the greatest Seq among those that hold an instant, or -1. Conditions: none but where the list lies.
-/
import Derived.Test.YtaglmfhpbbpleaaChk3
namespace Go.Proofs.Ytaglmfhpbbpleaa.G
open Go.Shelf Go.RowKit Go.Lib Go.Proofs.YtaglmfhpbbpleaaW.PrintWords Go.Proofs.YtaglmfhpbbpleaaW.PrintLast

theorem ret_val {k : IntKind} {a b : Int} (h : b = a) : Value.int k a = .int k b := by rw [h]
/-- Whether a hold holds an instant. -/
def onB (t : Int) (h : S42) : Bool := decide (h.f1 ≤ t) && decide (t < h.f2)
def govStep (l : List S42) (t best : Int) (k : Nat) : Int :=
  if onB t (l.getD k default) = true ∧ (best < 0 ∨ (l.getD best.toNat default).f4 < (l.getD k default).f4) then k else best
def govTo (l : List S42) (t : Int) : Nat → Int
  | 0 => -1
  | k + 1 => govStep l t (govTo l t k) k
def gov (l : List S42) (t : Int) : Int := govTo l t l.length
theorem govTo_range (l : List S42) (t : Int) (k : Nat) : govTo l t k = -1 ∨ ∃ j : Nat, govTo l t k = j ∧ j < k := by
  induction k with
  | zero => exact .inl rfl
  | succ k ih =>
    unfold govTo govStep
    split
    · exact .inr ⟨k, rfl, by omega⟩
    · rcases ih with h | ⟨j, h, hj⟩
      · exact .inl h
      · exact .inr ⟨j, h, by omega⟩

set_option maxRecDepth 100000 in
set_option maxHeartbeats 4000000 in
theorem governs_any (l : List S42) (A : Option Addr) (c : Nat) (t : Int) (W : World) (hC : Kd.C k42 W A l.length l) :
    Calls Try.prog 13 #[.slice A l.length c, .int .i64 t] W fun e w' => e = .returned (.int .i64 (gov l t)) ∧ Below W.heap.size W w' := by
  have HC := Lib.hid hC
  have hmax := (Flat.read_len hC).2
  clear hC
  go_enter Try.func13, Try.ntmps13
  go_wp2_with fail
  go_loopw [5, 10] (fun v i wr => ∃ k : Nat, k ≤ l.length ∧ i = .int .i64 k ∧ v = .int .i64 (govTo l t k) ∧ Below W.heap.size W wr) (fun _ i _ => l.length - (intOf i).toNat)
  case atStart => exact ⟨0, Nat.zero_le _, rfl, rfl, Below.refl _ _⟩
  case round =>
    obtain ⟨k, hk, rfl, rfl, hb⟩ := hrel
    by_cases hlt : k < l.length
    · obtain ⟨b, off, rfl, hbl, hcell⟩ := flat42.cells (Kd.C_below HC.out hb) (by omega)
      have hx : l[k]? = some l[k] := List.getElem?_eq_getElem hlt
      have r0 : wr.cell? ⟨b, off + k * 6, none⟩ = some (.string l[k].f0) := hcell k 0 _ _ hx rfl
      have r1 : wr.cell? ⟨b, off + k * 6 + 1, none⟩ = some (.int .i64 l[k].f1) := hcell k 1 _ _ hx rfl
      have r2 : wr.cell? ⟨b, off + k * 6 + 2, none⟩ = some (.int .i64 l[k].f2) := hcell k 2 _ _ hx rfl
      have r3 : wr.cell? ⟨b, off + k * 6 + 3, none⟩ = some (.int .i64 l[k].f3.f0) := hcell k 3 _ _ hx rfl
      have r4 : wr.cell? ⟨b, off + k * 6 + 4, none⟩ = some (.int .i64 l[k].f3.f1) := hcell k 4 _ _ hx rfl
      have r5 : wr.cell? ⟨b, off + k * 6 + 5, none⟩ = some (.int .i64 l[k].f4) := hcell k 5 _ _ hx rfl
      have hst : govTo l t (k + 1) = govStep l t (govTo l t k) k := rfl
      have hr := govTo_range l t k
      unfold govStep onB at hst
      rw [show l.getD k default = l[k] from by simp [List.getD, hlt]] at hst
      have HCELL := Lib.hid hcell
      have HB := Lib.hid hb
      clear hcell hb
      generalize l[k] = x at *
      clear hx
      generalize govTo l t k = g at *
      by_cases h1 : x.f1 ≤ t
      · by_cases h2 : t < x.f2
        · rcases hr with hr | ⟨j, hr, hj⟩
          · subst hr
            have HST := Lib.hid hst
            clear hst
            go_wp2_with fail
            go_quiet (fail)
            go_wp2_with fail
            exact ⟨⟨k + 1, by omega, by go_num, ret_val (HST.out.trans (if_pos ⟨by simp [h1, h2], .inl (by decide)⟩)), HB.out.trans ((below_drewN' ((Below.refl _ wr).alloc (Nat.le_refl _) (.cells (cells42 x) 42)) _).mono HB.out.size)⟩, by simp [intOf]; omega⟩
          · subst hr
            have hjl : j < l.length := by omega
            have hy : l[j]? = some l[j] := List.getElem?_eq_getElem hjl
            have s5 : wr.cell? ⟨b, off + j * 6 + 5, none⟩ = some (.int .i64 l[j].f4) := HCELL.out j 5 _ _ hy rfl
            rw [Int.toNat_natCast, show l.getD j default = l[j] from by simp [List.getD, hjl]] at hst
            generalize l[j] = y at *
            have HST := Lib.hid hst
            clear hst hy
            by_cases h3 : y.f4 < x.f4
            · go_wp2_with fail
              go_quiet (fail)
              go_wp2_with fail
              exact ⟨⟨k + 1, by omega, by go_num, ret_val (HST.out.trans (if_pos ⟨by simp [h1, h2], .inr h3⟩)), HB.out.trans ((below_drewN' ((Below.refl _ wr).alloc (Nat.le_refl _) (.cells (cells42 x) 42)) _).mono HB.out.size)⟩, by simp [intOf]; omega⟩
            · go_wp2_with fail
              go_quiet (fail)
              go_wp2_with fail
              exact ⟨⟨k + 1, by omega, by go_num, ret_val (HST.out.trans (if_neg (fun h => by rcases h.2 with h | h <;> omega))), HB.out.trans ((below_drewN' ((Below.refl _ wr).alloc (Nat.le_refl _) (.cells (cells42 x) 42)) _).mono HB.out.size)⟩, by simp [intOf]; omega⟩
        · have hd2 : decide (t < x.f2) = false := by simpa using h2
          have HST := Lib.hid hst
          clear hst hr
          go_wp2_with fail
          go_quiet (fail)
          go_wp2_with fail
          exact ⟨⟨k + 1, by omega, by go_num, ret_val (HST.out.trans (if_neg (fun h => by simp at h; omega))), HB.out.trans ((below_drewN' ((Below.refl _ wr).alloc (Nat.le_refl _) (.cells (cells42 x) 42)) _).mono HB.out.size)⟩, by simp [intOf]; omega⟩
      · have hd1 : decide (x.f1 ≤ t) = false := by simpa using h1
        have HST := Lib.hid hst
        clear hst hr
        go_wp2_with fail
        go_quiet (fail)
        go_wp2_with fail
        exact ⟨⟨k + 1, by omega, by go_num, ret_val (HST.out.trans (if_neg (fun h => by simp at h; omega))), HB.out.trans ((below_drewN' ((Below.refl _ wr).alloc (Nat.le_refl _) (.cells (cells42 x) 42)) _).mono HB.out.size)⟩, by simp [intOf]; omega⟩
    · go_wp2_with fail
      go_ret
      have hkl : k = l.length := by omega
      subst hkl
      exact ⟨rfl, hb⟩
end Go.Proofs.Ytaglmfhpbbpleaa.G
