/-
  What is expired does not matter from its instant on: the plain law of OverrideExpires. No program in sight.
-/
import Derived.Test.YtaglmfhpbbpleaaDel
namespace Go.Proofs.Ytaglmfhpbbpleaa.G
open Go.RowKit Go.Proofs.YtaglmfhpbbpleaaW.PrintWords Go.Proofs.YtaglmfhpbbpleaaW.PrintLast

/-- The hold that governs, as a fold over the holds themselves. -/
def pick (t : Int) (best : Option S42) (h : S42) : Option S42 :=
  if onB t h = true ∧ (∀ b, best = some b → b.f4 < h.f4) then some h else best
def best (t : Int) (l : List S42) : Option S42 := l.foldl (pick t) none
theorem best_take (t : Int) (l : List S42) (k : Nat) (h : k < l.length) : best t (l.take (k + 1)) = pick t (best t (l.take k)) l[k] := by
  unfold best; rw [List.take_succ_eq_append_getElem h, List.foldl_append]; rfl

/-- What governs returns is the place of that hold. -/
theorem gov_best (l : List S42) (t : Int) (k : Nat) (hk : k ≤ l.length) :
    (govTo l t k = -1 ∧ best t (l.take k) = none) ∨ ∃ j : Nat, govTo l t k = j ∧ j < k ∧ best t (l.take k) = some (l.getD j default) := by
  induction k with
  | zero => exact .inl ⟨rfl, by simp [best]⟩
  | succ k ih =>
    have hlt : k < l.length := by omega
    have hb := best_take t l k hlt
    have hd : l.getD k default = l[k] := by simp [List.getD, hlt]
    have hg : govTo l t (k + 1) = govStep l t (govTo l t k) k := rfl
    rcases ih (by omega) with ⟨h1, h2⟩ | ⟨j, h1, hj, h2⟩
    · rw [hg, h1, hb, h2]
      unfold govStep pick
      rw [hd]
      by_cases ho : onB t l[k] = true
      · right
        exact ⟨k, by rw [if_pos ⟨ho, .inl (by omega)⟩], by omega, by rw [if_pos ⟨ho, by simp⟩, hd]⟩
      · left
        exact ⟨by rw [if_neg (fun h => ho h.1)], by rw [if_neg (fun h => ho h.1)]⟩
    · rw [hg, h1, hb, h2]
      unfold govStep pick
      rw [hd, Int.toNat_natCast]
      by_cases ho : onB t l[k] = true ∧ (l.getD j default).f4 < l[k].f4
      · right
        exact ⟨k, by rw [if_pos ⟨ho.1, .inr ho.2⟩], by omega, by rw [if_pos ⟨ho.1, by intro b hb'; cases hb'; exact ho.2⟩, hd]⟩
      · right
        refine ⟨j, ?_, by omega, ?_⟩
        · rw [if_neg (fun h => by
            rcases h.2 with h' | h'
            · omega
            · exact ho ⟨h.1, h'⟩)]
        · rw [if_neg (fun h => ho ⟨h.1, h.2 _ rfl⟩)]
theorem gov_is (l : List S42) (t : Int) : (gov l t = -1 ∧ best t l = none) ∨ ∃ j : Nat, gov l t = j ∧ j < l.length ∧ best t l = some (l.getD j default) := by
  have := gov_best l t l.length (Nat.le_refl _)
  rwa [List.take_length] at this

/-- The value that governs. -/
def valP (l : List S42) (t : Int) (o : Int × Int) : Int × Int :=
  match best t l with | none => o | some h => (h.f3.f0, h.f3.f1)
theorem best_filter (l : List S42) (i t : Int) (h : i ≤ t) (b : Option S42) : (l.filter (keepB i)).foldl (pick t) b = l.foldl (pick t) b := by
  induction l generalizing b with
  | nil => rfl
  | cons x r ih =>
    rw [List.filter_cons]
    by_cases hk : keepB i x = true
    · rw [if_pos hk, List.foldl_cons, List.foldl_cons, ih]
    · rw [if_neg hk, List.foldl_cons, ih]
      have : onB t x = false := by
        unfold keepB at hk
        unfold onB
        simp at hk ⊢
        omega
      have hp : pick t b x = b := by unfold pick; rw [if_neg (fun h => by rw [this] at h; cases h.1)]
      rw [hp]

/-! ### what is left of a valid list is valid -/
theorem any_filter {l : List S42} {p q : S42 → Bool} (h : l.any p = false) : (l.filter q).any p = false := by
  rw [List.any_eq_false] at h ⊢
  intro x hx
  exact h x ((List.mem_filter.1 hx).1)
theorem less_trans : ∀ (x y z : List UInt8), Op.bytesLess x y = true → Op.bytesLess y z = true → Op.bytesLess x z = true
  | _, y, [], _, h => by cases y <;> simp [Op.bytesLess] at h
  | [], _, _ :: _, _, _ => rfl
  | _ :: _, [], _ :: _, h, _ => by simp [Op.bytesLess] at h
  | a :: x, b :: y, c :: z, h1, h2 => by
    simp only [Op.bytesLess, Bool.or_eq_true, Bool.and_eq_true, decide_eq_true_eq, beq_iff_eq] at h1 h2 ⊢
    rcases h1 with h1 | ⟨rfl, h1⟩
    · rcases h2 with h2 | ⟨rfl, h2⟩
      · exact .inl (by have := UInt8.lt_iff_toNat_lt.1 h1; have := UInt8.lt_iff_toNat_lt.1 h2; exact UInt8.lt_iff_toNat_lt.2 (by omega))
      · exact .inl h1
    · rcases h2 with h2 | ⟨rfl, h2⟩
      · exact .inl h2
      · exact .inr ⟨rfl, less_trans x y z h1 h2⟩

/-- Names increase, and no two have one Seq. -/
def Before (x y : S42) : Prop := Op.bytesLess x.f0.toList y.f0.toList = true ∧ x.f4 ≠ y.f4
theorem dups_iff (l : List S42) : dups l = false ↔ l.Pairwise Before := by
  have hat : ∀ i (h : i < l.length), dupAt l i = false ↔ (∀ h0 : 0 < i, Op.bytesLess (l[i - 1]'(by omega)).f0.toList l[i].f0.toList = true) ∧ ∀ j (hj : j < i), (l[j]'(by omega)).f4 ≠ l[i].f4 := by
    intro i hi
    unfold dupAt
    have hd : l.getD i default = l[i] := by simp [List.getD, hi]
    rw [hd, Bool.or_eq_false_iff]
    constructor
    · rintro ⟨h1, h2⟩
      refine ⟨fun h0 => ?_, fun j hj e => ?_⟩
      · have hp : l.getD (i - 1) default = l[i - 1] := by simp [List.getD, show i - 1 < l.length from by omega]
        rw [hp] at h1
        simpa [h0] using h1
      · rw [List.any_eq_false] at h2
        have := h2 (l[j]'(by omega)) (by
          have : (l.take i)[j]? = some (l[j]'(by omega)) := by rw [List.getElem?_take, if_pos hj, List.getElem?_eq_getElem]
          exact List.mem_of_getElem? this)
        simp [e] at this
    · rintro ⟨h1, h2⟩
      refine ⟨?_, ?_⟩
      · by_cases h0 : 0 < i
        · have hp : l.getD (i - 1) default = l[i - 1] := by simp [List.getD, show i - 1 < l.length from by omega]
          rw [hp, h1 h0]; simp
        · simp [h0]
      · rw [List.any_eq_false]
        intro x hx
        obtain ⟨j, hj, rfl⟩ := List.getElem_of_mem hx
        rw [List.length_take] at hj
        rw [List.getElem_take]
        simpa using h2 j (by omega)
  unfold dups
  rw [List.any_eq_false, List.pairwise_iff_getElem]
  constructor
  · intro h
    have hz : ∀ i (hi : i < l.length), dupAt l i = false := fun i hi => by simpa using h i (List.mem_range.2 hi)
    have hless : ∀ d i (hj : i + d + 1 < l.length), Op.bytesLess (l[i]'(by omega)).f0.toList (l[i + d + 1]).f0.toList = true := by
      intro d
      induction d with
      | zero => intro i hj; exact ((hat (i + 1) hj).1 (hz _ hj)).1 (by omega)
      | succ d ih =>
        intro i hj
        have h1 := ih i (by omega)
        have h2 := ((hat (i + (d + 1) + 1) hj).1 (hz _ hj)).1 (by omega)
        exact less_trans _ _ _ h1 h2
    intro i j hi hj hij
    refine ⟨?_, ((hat j hj).1 (hz j hj)).2 i hij⟩
    obtain ⟨d, rfl⟩ : ∃ d, j = i + d + 1 := ⟨j - i - 1, by omega⟩
    exact hless d i hj
  · intro h i hi
    have hi' := List.mem_range.1 hi
    have := (hat i hi').2 ⟨fun h0 => (h (i - 1) i (by omega) hi' (by omega)).1, fun j hj => (h j i (by omega) hi' hj).2⟩
    rw [this]; simp

theorem chk_zero (l : List S42) : chk l = 0 ↔ l.length ≤ 64 ∧ (l.any fun h => !nameB h.f0) = false ∧ (l.any fun h => !spanB h) = false ∧ (l.any fun h => !typeB h) = false ∧ dups l = false := by
  unfold chk
  by_cases h1 : 64 < l.length
  · rw [if_pos h1]; constructor
    · intro h; cases h
    · intro h; omega
  rw [if_neg h1]
  cases h2 : l.any fun h => !nameB h.f0 <;> cases h3 : l.any fun h => !spanB h <;> cases h4 : l.any fun h => !typeB h <;> cases h5 : dups l <;> simp [h1] <;> omega

theorem chk_filter {l : List S42} (h : chk l = 0) (q : S42 → Bool) : chk (l.filter q) = 0 := by
  rw [chk_zero] at h ⊢
  obtain ⟨h1, h2, h3, h4, h5⟩ := h
  refine ⟨Nat.le_trans (List.length_filter_le _ _) h1, any_filter h2, any_filter h3, any_filter h4, ?_⟩
  rw [dups_iff] at h5 ⊢
  exact h5.filter q
theorem chk_nil : chk [] = 0 := rfl

/-- The value of a list, valid or not. -/
def valueP (l : List S42) (t : Int) (o : Int × Int) : Int × Int := if chk l = 0 then valP l t o else o
theorem expired_same (l : List S42) (i t : Int) (h : i ≤ t) (o : Int × Int) : valueP (expP l i) t o = valueP l t o := by
  unfold expP
  by_cases h0 : chk l = 0
  · rw [if_pos h0]
    unfold valueP
    rw [if_pos h0, if_pos (chk_filter h0 _)]
    unfold valP best
    rw [best_filter l i t h]
  · rw [if_neg h0]
    unfold valueP
    rw [if_neg h0, if_pos chk_nil]
    rfl
end Go.Proofs.Ytaglmfhpbbpleaa.G
