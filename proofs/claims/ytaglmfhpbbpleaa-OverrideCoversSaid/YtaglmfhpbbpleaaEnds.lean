/-
  override.ends: the instants at which holds begin or end, sorted. Conditions: none but where the list lies, and that it is no longer than memory bears.
-/
import Derived.Test.YtaglmfhpbbpleaaGov
import Derived.Test.YtaglmfhpbbpleaaSortRow
import Derived.Test.YtaglmfhpbbpleaaLayS
import Derived.OwnWalk
namespace Go.Proofs.Ytaglmfhpbbpleaa.G
open Go.Shelf Go.RowKit Go.Lib Go.Sort Go.Proofs.YtaglmfhpbbpleaaW.PrintWords Go.Proofs.YtaglmfhpbbpleaaW.PrintLast

def rawEnds (l : List S42) : List Int := l.flatMap fun h => [h.f1, h.f2]
def endsP (l : List S42) : List Int := (rawEnds l).mergeSort fun x y => decide (x ≤ y)
theorem rawEnds_len (l : List S42) : (rawEnds l).length = 2 * l.length := by
  unfold rawEnds
  induction l with
  | nil => rfl
  | cons x r ih => rw [List.flatMap_cons, List.length_append, ih]; simp; omega
theorem rawEnds_next (l : List S42) (k : Nat) (h : k < l.length) : rawEnds (l.take (k + 1)) = rawEnds (l.take k) ++ [l[k].f1, l[k].f2] := by
  unfold rawEnds
  rw [List.take_succ_eq_append_getElem h, List.flatMap_append]; simp
theorem info3E : (Try.prog.info? 3).map (fun i => (i.zero, i.size, i.bytes)) = some (some (.int .i64 0), 1, 8) := by kernel_rfl

set_option maxRecDepth 100000 in
set_option maxHeartbeats 4000000 in
theorem ends_any (l : List S42) (A : Option Addr) (c : Nat) (W : World) (hC : Kd.C k42 W A l.length l) (hbig : l.length ≤ 1000000) :
    Calls Try.prog 14 #[.slice A l.length c] W fun e w' => ∃ v0_ : Value, e = .returned v0_ ∧ Kd.R (Kd.int .i64) 3 w' W.heap.size (fun _ => True) v0_ (endsP l) ∧ Below W.heap.size W w' := by
  have HC := Lib.hid hC
  clear hC
  obtain ⟨i0, hi, hz0, hz1, hz2⟩ := info_parts info3E
  go_enter Try.func14, Try.ntmps14
  go_wp2_with fail
  go_loopw [3, 8] (fun v i wr => ∃ k : Nat, k ≤ l.length ∧ i = .int .i64 k ∧ wr.ownsRow W.heap.size 3 1 v (2 * k) ((rawEnds (l.take k)).map (Value.int .i64)) ∧ Below W.heap.size W wr) (fun _ i _ => l.length - (intOf i).toNat)
  case atStart => exact ⟨0, Nat.zero_le _, rfl, own_nil _ _ _ _, Below.refl _ _⟩
  case round =>
    rename_i v3 _ wr
    obtain ⟨k, hk, rfl, hown, hb⟩ := hrel
    by_cases hlt : k < l.length
    · obtain ⟨b, off, rfl, hbl, hcell⟩ := flat42.cells (Kd.C_below HC.out hb) (by omega)
      have hx : l[k]? = some l[k] := List.getElem?_eq_getElem hlt
      have r0 : wr.cell? ⟨b, off + k * 6, none⟩ = some (.string l[k].f0) := hcell k 0 _ _ hx rfl
      have r1 : wr.cell? ⟨b, off + k * 6 + 1, none⟩ = some (.int .i64 l[k].f1) := hcell k 1 _ _ hx rfl
      have r2 : wr.cell? ⟨b, off + k * 6 + 2, none⟩ = some (.int .i64 l[k].f2) := hcell k 2 _ _ hx rfl
      have r3 : wr.cell? ⟨b, off + k * 6 + 3, none⟩ = some (.int .i64 l[k].f3.f0) := hcell k 3 _ _ hx rfl
      have r4 : wr.cell? ⟨b, off + k * 6 + 4, none⟩ = some (.int .i64 l[k].f3.f1) := hcell k 4 _ _ hx rfl
      have r5 : wr.cell? ⟨b, off + k * 6 + 5, none⟩ = some (.int .i64 l[k].f4) := hcell k 5 _ _ hx rfl
      have hn := rawEnds_next l k hlt
      have HOWN := Lib.hid hown
      have HB := Lib.hid hb
      clear hcell hown hb
      generalize l[k] = x at *
      have HN := Lib.hid hn
      clear hn hx
      go_wp2_with (at_builtin; refine wpList_append_own _ rfl _ _ 43 rfl W.heap.size 3 i0 (.int .i64 0) 1 8 Try.underlying43 hi hz0 hz1 hz2 rfl (by decide) _ _ _ rfl ((HOWN.out.alloc _).alloc _) ⟨wr.heap.size + 1, 0, none⟩ 2 2 [.int .i64 x.f1, .int .i64 x.f2] rfl ?c0 ?c1 ?c2 ?c3 ?c4 ?c5 ?_)
      case c0 => rfl
      case c1 =>
        intro j u hu
        rw [Addr.add_lit]
        rcases j with _ | _ | j
        · simp at hu; subst hu; simp
        · simp at hu; subst hu; simp
        · simp at hu
      case c2 => intro u hu; simp at hu; rcases hu with rfl | rfl <;> rfl
      case c3 => unfold maxLen; omega
      case c4 => omega
      case c5 => have := HB.out.size; simp; omega
      intro v' w2 hown2 hg hnil
      have hb2 : Below W.heap.size W w2 := ((HB.out.alloc (Nat.le_trans HB.out.size (Nat.le_refl _)) _).alloc (by have := HB.out.size; simp; omega) _).grown hg (by have := HB.out.size; simp; omega) (fun q hq => own_base HOWN.out q hq)
      have ho3 : w2.ownsRow W.heap.size 3 1 v' (2 * (k + 1)) ((rawEnds (l.take (k + 1))).map (Value.int .i64)) := by
        rw [HN.out, List.map_append, show 2 * (k + 1) = 2 * k + 2 from by omega]
        exact hown2
      have HB2 := Lib.hid hb2
      have HO3 := Lib.hid ho3
      clear hb2 ho3 hg hown2 hnil
      go_wp2_with fail
      exact ⟨⟨k + 1, by omega, by go_num, HO3.out, HB2.out⟩, by simp [intOf]; omega⟩
    · have hkl : k = l.length := by omega
      subst hkl
      rw [List.take_length] at hown
      have hzl := rawEnds_len l
      have HB := Lib.hid hb
      rcases hown.2 with ⟨rfl, h0⟩ | ⟨g, cap, cur, rfl, hbg, _⟩
      · have hl0 : l = [] := List.length_eq_zero_iff.1 (by omega)
        have HL0 := Lib.hid hl0
        clear hown hb hl0 hzl h0
        go_wp2_with fail
        refine (Any.slices_Sort_int_none l26 none 0 _).mono ?_
        rintro e w1 ⟨rfl, rfl⟩
        go_wp2_with fail
        go_ret
        refine ⟨_, rfl, ?_, HB.out⟩
        rw [show endsP l = [] from by rw [HL0.out]; simp [endsP, rawEnds]]
        exact Kd.R_nil _ _ _ _ _
      · obtain ⟨hH, hgs, hz⟩ := own_holds hown
        have hcon := Any.slices_Sort_int l26 g 0 cap (rawEnds l) wr hH hgs (by omega)
        rw [hz] at hcon
        have HCON := Lib.hid hcon
        have HOWN := Lib.hid hown
        have HZ := Lib.hid hz
        clear hcon hown hb hH hz hzl
        go_wp2_with fail
        refine (HCON.out).mono ?_
        rintro e w1 ⟨rfl, q, os, rfl⟩
        obtain ⟨ho, hg⟩ := own_put HOWN.out ((rawEnds l).mergeSort fun x y => decide (x ≤ y)) (by rw [List.length_mergeSort]; exact HZ.out) q os
        have HO := Lib.hid ho
        have HG := Lib.hid hg
        clear ho hg
        generalize hW1 : grow _ os = w1 at *
        go_wp2_with fail
        go_ret
        refine ⟨_, rfl, (flat_int .i64).made' ?_, HB.out.grown HG.out HB.out.size (fun k hk => by simp at hk; omega)⟩
        rw [flat_single, show (endsP l).length = 2 * l.length from by unfold endsP; rw [List.length_mergeSort]; exact HZ.out]
        exact HO.out
end Go.Proofs.Ytaglmfhpbbpleaa.G
