/-
  override.Expire: the holds of a valid list that have not ended, in memory of the call's own. Conditions: none but where the list lies, and that it is no longer than memory bears.
-/
import Derived.Test.YtaglmfhpbbpleaaGov
import Derived.Test.YtaglmfhpbbpleaaSortRow
import Derived.OwnWalk
namespace Go.Proofs.Ytaglmfhpbbpleaa.G
open Go.Shelf Go.RowKit Go.Lib Go.Proofs.YtaglmfhpbbpleaaW.PrintWords Go.Proofs.YtaglmfhpbbpleaaW.PrintLast

theorem info42E : (Try.prog.info? 42).map (fun i => (i.zero, i.size, i.bytes)) = some (some (.agg #[.string ⟨#[]⟩, .int .i64 0, .int .i64 0, .int .i64 0, .int .i64 0, .int .i64 0]), 6, 56) := by kernel_rfl

theorem q22E (w : World) (a : Option Addr) (n c n' c' : Nat) : (binOp .eql 22 (.slice a n c) (.slice none n' c')).run Try.prog w = .ok (.bool a.isNone) w := Lib.run_eql_slice_nil w _ _ a n c n' c' Try.underlying22

set_option maxRecDepth 100000 in
theorem ended25 (x : S42) (t : Int) (B : Nat) (W : World) (hB : B < W.heap.size) (hc : W.cell? ⟨B, 0, none⟩ = some (.int .i64 t)) :
    Calls Try.prog 25 #[.agg (cells42 x), .pointer (some ⟨B, 0, none⟩)] W fun e w' => e = .returned (.bool (decide (x.f2 ≤ t))) ∧ Below W.heap.size W w' := by
  have hne : B ≠ W.heap.size := by omega
  go_enter Try.func25, Try.ntmps25
  go_wp2_with fail
  go_ret
  exact ⟨rfl, (Below.refl _ W).alloc (Nat.le_refl _) _⟩

set_option maxRecDepth 100000 in
theorem clone_nil (n c : Nat) (W : World) : Calls Try.prog 24 #[.slice none n c] W fun e w' => e = .returned (.slice none 0 0) ∧ w' = W := by
  have q22 := q22E
  go_enter Try.func24, Try.ntmps24
  go_wp2_with fail
  go_ret
  exact ⟨rfl, rfl⟩

set_option maxRecDepth 100000 in
set_option maxHeartbeats 1000000 in
theorem clone_any (l : List S42) (A : Option Addr) (c : Nat) (W : World) (hC : Kd.C k42 W A l.length l) (hbig : l.length ≤ 1000000) :
    Calls Try.prog 24 #[.slice A l.length c] W fun e w' => ∃ v, e = .returned v ∧ w'.ownsRow W.heap.size 42 6 v l.length (l.flatMap enc42) ∧ Below W.heap.size W w' := by
  rcases A with _ | a
  · have h0 : l.length = 0 := by
      rcases Nat.eq_zero_or_pos l.length with h | h
      · exact h
      · obtain ⟨b, off, h1, _⟩ := flat42.cells hC h; cases h1
    have : l = [] := List.length_eq_zero_iff.1 h0
    subst this
    exact (clone_nil 0 c W).mono fun e w' h => ⟨_, h.1, by rw [h.2]; exact own_nil _ _ _ _, by rw [h.2]; exact Below.refl _ _⟩
  · obtain ⟨i0, hi, hz0, hz1, hz2⟩ := info_parts info42E
    have hC' := hC
    have hcells : ∀ j u, (l.flatMap enc42)[j]? = some u → W.cell? (a.add j) = some u := by
      intro j u hu
      rcases Nat.eq_zero_or_pos l.length with h | h
      · have : l = [] := List.length_eq_zero_iff.1 h
        subst this; simp at hu
      · obtain ⟨b, off, h1, _, hc⟩ := flat42.cells hC h
        cases h1
        have hj : j / 6 < l.length := by
          have := (List.getElem?_eq_some_iff.1 hu).1
          rw [flat_len (k := 6) (fun _ => rfl)] at this
          omega
        have h2 := flat_at (enc := enc42) (k := 6) (fun _ => rfl) l (j / 6) (j % 6) (by omega)
        rw [show j / 6 * 6 + j % 6 = j from by omega, hu, List.getElem?_eq_getElem hj] at h2
        have h3 : W.cell? ⟨b, off + j / 6 * 6 + j % 6, none⟩ = some u := hc (j / 6) (j % 6) _ u (List.getElem?_eq_getElem hj) h2.symm
        rw [Addr.add_lit]
        rwa [show off + j / 6 * 6 + j % 6 = off + j from by omega] at h3
    have HC := Lib.hid hcells
    clear hcells hC hC'
    have q22 := q22E
    go_enter Try.func24, Try.ntmps24
    go_wp2_with (at_builtin; refine wpList_append_own _ rfl _ _ 22 rfl W.heap.size 42 i0 _ 6 56 Try.underlying22 hi hz0 hz1 hz2 rfl (by decide) _ _ _ rfl (World.ownsRow_made W #[] 0 (Nat.le_refl _) (Nat.zero_le _) (by simp)) a l.length c (l.flatMap enc42) rfl ?c0 ?c1 ?c2 ?c3 ?c4 ?c5 ?_)
    case c0 => exact flat_len (k := 6) (fun _ => rfl) l
    case c1 => exact fun j u hu => Lib.cell?_alloc_some _ (HC.out j u hu)
    case c2 =>
      intro u hu
      obtain ⟨x, _, hx⟩ := List.mem_flatMap.1 hu
      exact flat42.one x u hx
    case c3 => unfold maxLen; omega
    case c4 => omega
    case c5 => simp
    intro v' w1 hown hg hnil
    have HO := Lib.hid hown
    have HB := Lib.hid (((Below.refl _ W).alloc (Nat.le_refl _) _).grown hg (by simp) (by intro k hk; simp [Value.ownBlock] at hk; omega))
    clear hown hg hnil
    go_wp2_with fail
    go_ret
    exact ⟨v', rfl, by simpa using HO.out, HB.out⟩
end Go.Proofs.Ytaglmfhpbbpleaa.G
