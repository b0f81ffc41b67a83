/-
  override.Check: it returns the first error of a list of holds, or 0. Conditions: none but where the list lies.
-/
import Derived.Test.YtaglmfhpbbpleaaPure
import Derived.Test.YtaglmfhpbbpleaaFlat
import Derived.Test.YtaglmfhpbbpleaaLay
import Derived.WalkLawsBesides
import Derived.BigQuiet
import Derived.Deep.QuietTactic
namespace Go.Proofs.Ytaglmfhpbbpleaa.G
open Go.Shelf Go.RowKit Go.Lib Go.Proofs.YtaglmfhpbbpleaaW.PrintWords Go.Proofs.YtaglmfhpbbpleaaW.PrintLast

def enc42 (x : S42) : List Value := [.string x.f0, .int .i64 x.f1, .int .i64 x.f2, .int .i64 x.f3.f0, .int .i64 x.f3.f1, .int .i64 x.f4]
@[go_sem] abbrev cells42 (x : S42) : Array Value := #[.string x.f0, .int .i64 x.f1, .int .i64 x.f2, .int .i64 x.f3.f0, .int .i64 x.f3.f1, .int .i64 x.f4]
theorem flat42 : Flat k42 enc42 := ⟨by decide, fun _ => rfl, fun w x cs => ⟨k42_open, fun h => h ▸ k42_mk w x⟩, fun w base ok x cs => ⟨k42_openM, fun h => h ▸ k42_mkM w base ok x⟩⟩

/-- A test of holds: a function without captured variables that returns p of its argument. -/
structure Tests (g : Nat) (p : S42 → Bool) : Prop where
  enters : ∀ args w, (callFunc g args).run Try.prog w = .ok (.enter g args) w
  calls : ∀ x w, Calls Try.prog g #[.agg (cells42 x)] w fun e w' => e = .returned (.bool (p x)) ∧ Below w.heap.size w w'

theorem tests18 : Tests 18 (fun h => nameB h.f0) := ⟨enters_of Try.func18 (by kernel_rfl) rfl, fun x w => override_Check_2.calls 30 _ _ _ _ _ _ _ w (check2_f x)⟩
theorem tests20 : Tests 20 spanB := ⟨enters_of Try.func20 (by kernel_rfl) rfl, fun x w => override_Check_3.calls _ _ _ _ _ _ _ w (check3_f x)⟩
theorem tests21 : Tests 21 typeB := ⟨enters_of Try.func21 (by kernel_rfl) rfl, fun x w => override_Check_4.calls _ _ _ _ _ _ _ w (check4_f x)⟩

set_option maxRecDepth 100000 in
theorem not17 (g : Nat) (p : S42 → Bool) (T : Tests g p) (x : S42) (B : Nat) (W : World) (hB : B < W.heap.size) (hc : W.cell? ⟨B, 0, none⟩ = some (.func (.func g) #[] #[])) :
    Calls Try.prog 17 #[.agg (cells42 x), .pointer (some ⟨B, 0, none⟩)] W fun e w' => e = .returned (.bool (!p x)) ∧ Below W.heap.size W w' := by
  have eg := T.enters
  have hcall := fun w => T.calls x w
  have HC := Lib.hid hcall
  have hne : B ≠ W.heap.size := by omega
  clear hcall T
  go_enter Try.func17, Try.ntmps17
  go_wp2_with (go_at_fn g; refine (HC.out _).mono ?_; rintro e w' ⟨rfl, hb⟩)
  go_ret
  exact ⟨rfl, ((Below.refl _ W).alloc (Nat.le_refl _) _).trans (hb.mono (by simp))⟩

set_option maxHeartbeats 1000000 in
theorem index27_empty (A : Option Addr) (c : Nat) (fv : Value) (W : World) : Calls Try.prog 27 #[.slice A 0 c, fv] W fun e w' => e = .returned (.int .i64 (-1)) ∧ w' = W := by
  go_enter Try.func27, Try.ntmps27
  go_wp2
  go_loopg [5, 8] 0 (fun _ _ s8 wr => s8 = .int .i64 0 ∧ wr = W)
  case atStart => exact ⟨rfl, rfl⟩
  case round =>
    obtain ⟨rfl, rfl⟩ := hrel
    go_wp2
    go_ret
    exact ⟨rfl, rfl⟩
theorem contains16_empty (A : Option Addr) (c : Nat) (fv : Value) (W : World) : Calls Try.prog 16 #[.slice A 0 c, fv] W fun e w' => e = .returned (.bool false) ∧ w' = W := by
  go_enter Try.func16, Try.ntmps16
  go_wp2_with (go_at_call 27; refine (index27_empty A c fv _).mono ?_; rintro e w' ⟨rfl, rfl⟩)
  go_ret
  exact ⟨rfl, rfl⟩
theorem contains16  (p : S42 → Bool) (g : Nat) (lb : Array Value) (eg : ∀ args w, (callFunc g args).run Try.prog w = .ok (.enter g args) w) (l : List S42) (A : Option Addr) (c : Nat) (W : World) (hC : Kd.C k42 W A l.length l)
    (hp : PredBelow Try.prog g lb (fun x : S42 => .agg (enc42 x).toArray) p W) :
    Calls Try.prog 16 #[.slice A l.length c, .func (.func g) #[] lb] W fun e w' => e = .returned (.bool (l.any p)) ∧ Below W.heap.size W w' := by
  rcases Nat.eq_zero_or_pos l.length with h0 | h0
  · have : l = [] := List.length_eq_zero_iff.1 h0
    subst this
    exact (contains16_empty A c (.func (.func g) #[] lb) W).mono fun e w' h => ⟨h.1, by rw [h.2]; exact Below.refl _ _⟩
  · obtain ⟨b, off, rfl, hb, hc⟩ := flat42.cells hC h0
    have hcon := AnyQ.slices_ContainsFunc l16 6 Try.isAgg42 Try.sizeOf42 enc42 (fun _ => rfl) p g lb eg b off l.length c l W hp (Nat.le_refl _) (Flat.read_len hC).2 hb (fun j hj i v hi => by
      rw [getElem!_pos l j hj] at hi
      exact hc j i _ v (List.getElem?_eq_getElem hj) hi)
    rw [List.take_length] at hcon
    exact hcon

set_option maxRecDepth 100000 in
theorem every15 (g : Nat) (p : S42 → Bool) (T : Tests g p) (l : List S42) (A : Option Addr) (c B : Nat) (W : World) (hB : B < W.heap.size) (hl : W.cell? ⟨B, 0, none⟩ = some (.slice A l.length c)) (hC : Kd.C k42 W A l.length l) :
    Calls Try.prog 15 #[.func (.func g) #[] #[], .pointer (some ⟨B, 0, none⟩)] W fun e w' => e = .returned (.bool (!(l.any fun x => !p x))) ∧ Below W.heap.size W w' := by
  have hcon := contains16 (fun x => !p x) 17 #[.pointer (some ⟨W.heap.size, 0, none⟩)] (enters_of Try.func17 (by kernel_rfl) rfl) l A c (W.alloc (.cells #[.func (.func g) #[] #[]] 46)) (Kd.C_alloc hC _)
    (fun V x hb => by
      show Calls Try.prog 17 #[.agg (cells42 x), .pointer (some ⟨W.heap.size, 0, none⟩)] V _
      exact (not17 g p T x W.heap.size V (Nat.lt_of_lt_of_le (by simp) hb.size) ((hb.cell (p := ⟨W.heap.size, 0, none⟩) (by simp)).trans (by simp))).mono fun e w' h => ⟨h.1, hb.trans (h.2.mono hb.size)⟩)
  have HC := Lib.hid hcon
  clear hcon hC T
  go_enter Try.func15, Try.ntmps15
  go_wp2_with fail
  refine (HC.out).mono ?_
  rintro e w' ⟨rfl, hb⟩
  go_wp2_with fail
  go_ret
  exact ⟨rfl, ((Below.refl _ W).alloc (Nat.le_refl _) _).trans (hb.mono (by simp))⟩

set_option maxRecDepth 100000 in
theorem seq22 (y x : S42) (B : Nat) (W : World) (hB : B < W.heap.size) (hc : ∀ t u, (enc42 y)[t]? = some u → W.cell? ⟨B, t, none⟩ = some u) :
    Calls Try.prog 22 #[.agg (cells42 x), .pointer (some ⟨B, 0, none⟩)] W fun e w' => e = .returned (.bool (x.f4 == y.f4)) ∧ Below W.heap.size W w' := by
  have c5 := hc 5 _ rfl
  have hne : B ≠ W.heap.size := by omega
  clear hc
  go_enter Try.func22, Try.ntmps22
  go_wp2_with fail
  go_ret
  exact ⟨rfl, (Below.refl _ W).alloc (Nat.le_refl _) _⟩

theorem take_C {l : List S42} {A : Option Addr} {W : World} (hC : Kd.C k42 W A l.length l) (i : Nat) (hi : i ≤ l.length) : Kd.C k42 W A (l.take i).length (l.take i) := by
  obtain ⟨_, h2, h3⟩ := hC
  have hl : (l.take i).length = i := by rw [List.length_take]; omega
  rw [hl]
  refine ⟨hl, by omega, fun h0 => ?_⟩
  obtain ⟨ad, ha, hc⟩ := h3 (by omega)
  refine ⟨ad, ha, fun j p hj => hc j p ?_⟩
  rw [List.getElem?_take] at hj
  split at hj
  · exact hj
  · cases hj
end Go.Proofs.Ytaglmfhpbbpleaa.G
