/-
  The printed function of OverrideExpires answers true at every input: the examples are as the chapter says, and what is expired does not matter. No program in sight.
-/
import Derived.Test.YtaglmfhpbbpleaaG5
import Derived.Test.YtaglmfhpbbpleaaPure2
namespace Go.Proofs.Ytaglmfhpbbpleaa.G
open Go.RowKit Go.Proofs.YtaglmfhpbbpleaaW.PrintWords Go.Proofs.YtaglmfhpbbpleaaW.PrintLast

def ex : List S42 := [(⟨(⟨#[97]⟩ : ByteArray), 100, 200, (⟨2, 1⟩ : S37), 1⟩ : S42), (⟨(⟨#[98]⟩ : ByteArray), 150, 160, (⟨2, 1⟩ : S37), 2⟩ : S42)]
theorem ex_ends : endsP ex = [100, 150, 160, 200] := by
  simp [endsP, rawEnds, ex, List.mergeSort, List.MergeSort.Internal.splitInTwo]
theorem ex_pieces : (pieces ex 140 210).map (fun p => (p.f0, p.f1, p.f2)) = [(140, 150, 0), (150, 160, 1), (160, 200, 0), (200, 210, -1)] := by
  unfold pieces; rw [ex_ends]; decide +kernel
theorem ex_chk : chk ex = 0 := by decide +kernel
theorem ex_ends_f : override_ends.f ex = some [100, 150, 160, 200] := by
  unfold override_ends.f; rw [ex_ends]; rfl
theorem ex_next1 : override_Next.f 200 ex 140 = some (150, 0) := by
  unfold override_Next.f override_Check.f override_governs.f; rw [ex_ends_f, ex_chk]; decide +kernel
theorem ex_next2 : override_Next.f 200 ex 200 = some (0, 9) := by
  unfold override_Next.f override_Check.f override_governs.f; rw [ex_ends_f, ex_chk]; decide +kernel
theorem ex_at1 : override_At.f ex 160 = some 0 := by
  unfold override_At.f override_Check.f override_governs.f; rw [ex_chk]; decide +kernel
theorem ex_at2 : override_At.f ex 200 = some (-1) := by
  unfold override_At.f override_Check.f override_governs.f; rw [ex_chk]; decide +kernel
theorem awake_ok : plenumlaw34_awake.f 200 = some true := by
  have hp : override_Pieces.f ex 140 210 = some (pieces ex 140 210, 0) := by
    unfold override_Pieces.f piecesP; rw [ex_chk]; rfl
  have h := ex_pieces
  generalize pieces ex 140 210 = ps at hp h
  have hlen : ps.length = 4 := by have := congrArg List.length h; simpa using this
  have h1 := congrArg (fun x => x[1]?) h
  simp at h1
  obtain ⟨p, hp1, h1, h2, h3⟩ := h1
  have hrd : rd_T31 ps 1 = p := by unfold rd_T31; simp [List.getD, hp1]
  show (some ex).bind _ = some true
  simp only [Option.bind_some]
  rw [hp, ex_next1, ex_next2, ex_at1, ex_at2]
  simp only [Option.bind_some, hlen, hrd, h1, h2, h3]
  rfl

theorem few_loop (l : List S42) (hl : l.length ≤ 70) (d : Nat) : ∀ (k : Nat) (i : Int), 0 ≤ i → i ≤ l.length → (l.length : Int) - i = d → d < k → ∃ r, plenumref34_Few.l0 k l i = some r := by
  induction d with
  | zero =>
    intro k i h0 h1 hd hk
    obtain ⟨k, rfl⟩ : ∃ m, k = m + 1 := ⟨k - 1, by omega⟩
    exact ⟨true, by simp only [plenumref34_Few.l0]; rw [if_neg (by omega)]⟩
  | succ d ih =>
    intro k i h0 h1 hd hk
    obtain ⟨k, rfl⟩ : ∃ m, k = m + 1 := ⟨k - 1, by omega⟩
    have hlt : i < (l.length : Int) := by omega
    simp only [plenumref34_Few.l0]
    rw [if_pos hlt, if_pos h0]
    split
    · exact ⟨_, rfl⟩
    · rw [wrap_next (n := l.length) h0 hlt (by omega)]
      exact ih k (i + 1) (by omega) (by omega) (by omega) (by omega)
theorem few_total (l : List S42) : ∃ r, plenumref34_Few.f 200 l = some r := by
  unfold plenumref34_Few.f
  by_cases h : (l.length : Int) > 70
  · rw [if_pos h]; exact ⟨_, rfl⟩
  · rw [if_neg h]
    exact few_loop l (by omega) l.length 200 0 (by omega) (by omega) (by omega) (by omega)

theorem value_f (l : List S42) (t a b : Int) : override_Value.f l t a b = some (valueP l t (a, b)) := by
  unfold override_Value.f override_At.f override_Check.f override_governs.f valueP valP
  simp only [Option.bind_some]
  by_cases h0 : chk l = 0
  · rw [if_pos h0, if_pos h0]
    simp only [Option.bind_some]
    rcases gov_is l t with ⟨h1, h2⟩ | ⟨j, h1, hj, h2⟩
    · rw [h1, h2]; rfl
    · rw [h1, h2, if_pos (by omega), if_pos (by omega), if_pos (by omega)]
      have : rd_T42 l (j : Int) = l.getD j default := by unfold rd_T42; rw [Int.toNat_natCast]; rfl
      rw [this]
  · rw [if_neg h0, if_neg h0]; rfl

theorem expires_true (l : List S42) (i t a b : Int) : plenumlaw34_OverrideExpires.f 200 l i t a b = some true := by
  obtain ⟨r, hr⟩ := few_total l
  unfold plenumlaw34_OverrideExpires.f
  rw [awake_ok, hr]
  simp only [Option.bind_some, if_true]
  have hj : ∀ c : Bool, (c = false → i ≤ t) → plenumlaw34_OverrideExpires.j0 200 l i t c a b = some true := by
    intro c hc
    simp only [plenumlaw34_OverrideExpires.j0]
    cases c with
    | true => rfl
    | false =>
      rw [if_neg (by simp)]
      unfold override_Expire.f
      simp only [Option.bind_some, value_f]
      rw [expired_same l i t (hc rfl)]
      simp
  cases r with
  | true => rw [if_pos rfl]; exact hj _ (fun h => by simp at h; omega)
  | false => rw [if_neg (by simp)]; exact hj true (fun h => by cases h)
end Go.Proofs.Ytaglmfhpbbpleaa.G
