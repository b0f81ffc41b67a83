/-
  What package override computes, in plain Lean: which lists of holds are valid, which hold governs, the ends, the pieces, what is left. No program in sight but the printed name test.
-/
import Derived.Test.YtaglmfhpbbpleaaG3
namespace Go.Proofs.Ytaglmfhpbbpleaa.G
open Go.RowKit Go.Proofs.YtaglmfhpbbpleaaW.PrintWords Go.Proofs.YtaglmfhpbbpleaaW.PrintLast

instance : Inhabited S42 := ⟨z42⟩
instance : Inhabited S31 := ⟨z31⟩

/-! ### names -/
theorem wrap_next {i : Int} {n : Nat} (h0 : 0 ≤ i) (h : i < (n : Int)) (hn : n ≤ 9223372036854775806) : wrap64 (i + 1) = i + 1 := by
  unfold wrap64
  omega

theorem name_loop (s : ByteArray) (hn : s.size ≤ 24) (d : Nat) : ∀ (k : Nat) (i : Int), 0 ≤ i → i ≤ s.size → (s.size : Int) - i = d → d < k → ∃ r, override_name.l0 k s (s.size : Int) i = some r := by
  induction d with
  | zero =>
    intro k i h0 h1 hd hk
    obtain ⟨k, rfl⟩ : ∃ m, k = m + 1 := ⟨k - 1, by omega⟩
    exact ⟨true, by simp only [override_name.l0]; rw [if_neg (by omega)]⟩
  | succ d ih =>
    intro k i h0 h1 hd hk
    obtain ⟨k, rfl⟩ : ∃ m, k = m + 1 := ⟨k - 1, by omega⟩
    have hlt : i < (s.size : Int) := by omega
    obtain ⟨r, hr⟩ := ih k (i + 1) (by omega) (by omega) (by omega) (by omega)
    have hw := wrap_next (n := s.size) h0 hlt (by omega)
    simp only [override_name.l0]
    rw [if_pos hlt, if_pos h0, if_pos hlt, hw, hr]
    generalize bt s i = c
    by_cases a1 : c < 97 <;> by_cases a2 : c < 48 <;> by_cases a3 : c = 95 <;> by_cases a4 : c > 57 <;> by_cases a5 : c > 122 <;> simp only [a1, a2, a3, a4, a5, if_true, if_false] <;> exact ⟨_, rfl⟩

theorem name_total (s : ByteArray) : ∃ r, override_name.f 30 s = some r := by
  have hl : ∀ b : Bool, s.size ≤ 24 → ∃ r, override_name.j0 30 s b = some r := by
    intro b hs
    cases b with
    | true => exact ⟨false, by simp [override_name.j0]⟩
    | false =>
      obtain ⟨r, hr⟩ := name_loop s hs s.size 29 0 (by omega) (by omega) (by omega) (by omega)
      exact ⟨r, by simp only [override_name.j0]; simpa using hr⟩
  have ht : ∃ r, override_name.j0 30 s true = some r := ⟨false, by simp [override_name.j0]⟩
  unfold override_name.f
  by_cases h1 : s.toList = []
  · rw [if_pos h1]; exact ht
  rw [if_neg h1]
  by_cases h2 : (s.size : Int) > 24
  · rw [if_pos h2]; exact ht
  rw [if_neg h2]
  have h3 : 0 < (s.size : Int) := by
    rcases Nat.eq_zero_or_pos s.size with h | h
    · exfalso
      apply h1
      obtain ⟨⟨l⟩⟩ := s
      have : l = [] := by simpa [ByteArray.size] using h
      subst this
      unfold ByteArray.toList ByteArray.toList.loop; rfl
    · omega
  rw [if_pos h3]
  by_cases h4 : bt s 0 < 97
  · rw [if_pos h4]; exact ht
  · rw [if_neg h4]; exact hl _ (by omega)

/-- Whether a string is a name. -/
def nameB (s : ByteArray) : Bool := (override_name.f 30 s).getD false
theorem nameB_f (s : ByteArray) : override_name.f 30 s = some (nameB s) := by
  obtain ⟨r, hr⟩ := name_total s
  rw [hr]; simp [nameB, hr]

/-! ### valid lists -/
def spanB (h : S42) : Bool := decide (0 ≤ h.f1) && decide (h.f1 < h.f2) && decide (h.f2 ≤ 6311433600) && decide (0 ≤ h.f4) && decide (h.f4 ≤ 1000000000)
def typeB (h : S42) : Bool := decide (1 ≤ h.f3.f0) && decide (h.f3.f0 ≤ 3)
theorem check2_f (h : S42) : override_Check_2.f 30 h.f0 h.f1 h.f2 h.f3.f0 h.f3.f1 h.f4 = some (nameB h.f0) := by
  unfold override_Check_2.f; rw [nameB_f]; rfl
theorem check3_f (h : S42) : override_Check_3.f h.f0 h.f1 h.f2 h.f3.f0 h.f3.f1 h.f4 = some (spanB h) := by
  unfold override_Check_3.f spanB
  by_cases a1 : 0 ≤ h.f1 <;> by_cases a2 : h.f1 < h.f2 <;> by_cases a3 : h.f2 ≤ 6311433600 <;> by_cases a4 : 0 ≤ h.f4 <;> simp [a1, a2, a3, a4]
theorem check4_f (h : S42) : override_Check_4.f h.f0 h.f1 h.f2 h.f3.f0 h.f3.f1 h.f4 = some (typeB h) := by
  unfold override_Check_4.f typeB
  by_cases a1 : 1 ≤ h.f3.f0 <;> simp [a1]
/-- Whether the hold with the index i follows its neighbour and has a Seq of its own. -/
def dupAt (l : List S42) (i : Nat) : Bool :=
  (decide (0 < i) && !(Op.bytesLess (l.getD (i - 1) default).f0.toList (l.getD i default).f0.toList)) || (l.take i).any (fun x => x.f4 == (l.getD i default).f4)
def dups (l : List S42) : Bool := (List.range l.length).any (dupAt l)
def chk (l : List S42) : Int :=
  if 64 < l.length then 7
  else if l.any (fun h => !nameB h.f0) then 4
  else if l.any (fun h => !spanB h) then 6
  else if l.any (fun h => !typeB h) then 11
  else if dups l then 5
  else 0
end Go.Proofs.Ytaglmfhpbbpleaa.G
