/-
  The contracts that the printed callers use: override.Check, governs, ends, Expire, Pieces, each as a function in plain Lean. Conditions: where the list lies.
-/
import Derived.Test.YtaglmfhpbbpleaaPie
import Derived.Test.YtaglmfhpbbpleaaDel
namespace Go.Proofs.Ytaglmfhpbbpleaa.G
open Go.RowKit Go.Proofs.YtaglmfhpbbpleaaW.PrintWords Go.Proofs.YtaglmfhpbbpleaaW.PrintLast
def override_Check.f (l0 : List S42) : Option Int := some (chk l0)
theorem override_Check.calls (A0 : Option Addr) (c0 : Nat) (l0 : List S42) (r : Int) (w : World) (hr0 : Kd.C k42 w A0 l0.length l0) (hc0 : l0.length ≤ c0) (h : override_Check.f l0 = some r) :
    Calls Try.prog 8 #[.slice A0 l0.length c0] w fun e w' => e = .returned (.int .i64 r) ∧ Below w.heap.size w w' := by
  obtain rfl := Option.some.inj h
  exact check_any l0 A0 c0 w hr0 hc0
def override_governs.f (l0 : List S42) (a1 : Int) : Option Int := some (gov l0 a1)
theorem override_governs.calls (A0 : Option Addr) (c0 : Nat) (l0 : List S42) (a1 : Int) (r : Int) (w : World) (hr0 : Kd.C k42 w A0 l0.length l0) (_hc0 : l0.length ≤ c0) (h : override_governs.f l0 a1 = some r) :
    Calls Try.prog 13 #[.slice A0 l0.length c0, .int .i64 a1] w fun e w' => e = .returned (.int .i64 r) ∧ Below w.heap.size w w' := by
  obtain rfl := Option.some.inj h
  exact governs_any l0 A0 c0 a1 w hr0
def override_ends.f (l0 : List S42) : Option (List Int) := if l0.length ≤ 1000000 then some (endsP l0) else none
theorem override_ends.calls (A0 : Option Addr) (c0 : Nat) (l0 : List S42) (r : List Int) (w : World) (hr0 : Kd.C k42 w A0 l0.length l0) (_hc0 : l0.length ≤ c0) (h : override_ends.f l0 = some r) :
    Calls Try.prog 14 #[.slice A0 l0.length c0] w fun e w' => ∃ v0_ : Value, e = .returned v0_ ∧ Kd.R (Kd.int .i64) 3 w' w.heap.size (fun _ => True) v0_ r ∧ Below w.heap.size w w' := by
  unfold override_ends.f at h
  split at h
  · obtain rfl := Option.some.inj h
    exact ends_any l0 A0 c0 w hr0 (by assumption)
  · cases h
def override_Expire.f (l0 : List S42) (a1 : Int) : Option (List S42) := some (expP l0 a1)
theorem override_Expire.calls (A0 : Option Addr) (c0 : Nat) (l0 : List S42) (a1 : Int) (r : List S42) (w : World) (hr0 : Kd.C k42 w A0 l0.length l0) (hc0 : l0.length ≤ c0) (h : override_Expire.f l0 a1 = some r) :
    Calls Try.prog 12 #[.slice A0 l0.length c0, .int .i64 a1] w fun e w' => ∃ v0_ : Value, e = .returned v0_ ∧ Kd.R k42 42 w' w.heap.size (fun _ => True) v0_ r ∧ Below w.heap.size w w' := by
  obtain rfl := Option.some.inj h
  exact expire_any l0 A0 c0 a1 w hr0 hc0
def override_Pieces.f (l0 : List S42) (a1 a2 : Int) : Option (List S31 × Int) := some (piecesP l0 a1 a2)
theorem override_Pieces.calls (A0 : Option Addr) (c0 : Nat) (l0 : List S42) (a1 a2 : Int) (r1 : List S31) (r2 : Int) (w : World) (hr0 : Kd.C k42 w A0 l0.length l0) (hc0 : l0.length ≤ c0) (h : override_Pieces.f l0 a1 a2 = some (r1, r2)) :
    Calls Try.prog 7 #[.slice A0 l0.length c0, .int .i64 a1, .int .i64 a2] w fun e w' => ∃ v0_ : Value, e = .returned (.tuple #[v0_, .int .i64 r2]) ∧ Kd.R k31 31 w' w.heap.size (fun _ => True) v0_ r1 ∧ Below w.heap.size w w' := by
  have h1 := Option.some.inj h
  have := pieces_any l0 A0 c0 a1 a2 w hr0 hc0
  rw [h1] at this
  exact this
end Go.Proofs.Ytaglmfhpbbpleaa.G
