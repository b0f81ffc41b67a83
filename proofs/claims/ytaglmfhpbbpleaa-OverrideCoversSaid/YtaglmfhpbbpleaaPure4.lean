/-
  The pieces of a span cover it, in plain Lean: neighbours differ, and in each piece one hold governs; the next change is where the next piece begins. No program in sight.
-/
import Derived.Test.YtaglmfhpbbpleaaPure3
namespace Go.Proofs.Ytaglmfhpbbpleaa.G
open Go.RowKit Go.Proofs.YtaglmfhpbbpleaaW.PrintWords Go.Proofs.YtaglmfhpbbpleaaW.PrintLast

/-- No end lies behind x and not behind y. -/
def Calm (l : List S42) (x y : Int) : Prop := ∀ e ∈ endsP l, ¬ (x < e ∧ e ≤ y)
theorem mem_ends (l : List S42) (e : Int) : e ∈ endsP l ↔ ∃ h ∈ l, e = h.f1 ∨ e = h.f2 := by
  unfold endsP
  rw [List.mem_mergeSort]
  unfold rawEnds
  simp
theorem onB_calm {l : List S42} {x y : Int} (hxy : x ≤ y) (hc : Calm l x y) {h : S42} (hh : h ∈ l) : onB x h = onB y h := by
  have h1 := hc h.f1 ((mem_ends l _).2 ⟨h, hh, .inl rfl⟩)
  have h2 := hc h.f2 ((mem_ends l _).2 ⟨h, hh, .inr rfl⟩)
  unfold onB
  have e1 : (decide (h.f1 ≤ x)) = decide (h.f1 ≤ y) := by rw [decide_eq_decide]; omega
  have e2 : (decide (x < h.f2)) = decide (y < h.f2) := by rw [decide_eq_decide]; omega
  rw [e1, e2]
theorem govTo_calm {l : List S42} {x y : Int} (hxy : x ≤ y) (hc : Calm l x y) (k : Nat) (hk : k ≤ l.length) : govTo l x k = govTo l y k := by
  induction k with
  | zero => rfl
  | succ k ih =>
    unfold govTo govStep
    rw [ih (by omega)]
    have hm : l.getD k default ∈ l := by
      have : l.getD k default = l[k]'(by omega) := by simp [List.getD, show k < l.length from by omega]
      rw [this]; exact List.getElem_mem _
    rw [onB_calm hxy hc hm]
theorem gov_calm {l : List S42} {x y : Int} (hxy : x ≤ y) (hc : Calm l x y) : gov l x = gov l y := govTo_calm hxy hc l.length (Nat.le_refl _)

/-- The pieces so far: they follow each other from a on; in each one hold governs; neighbours differ. -/
structure Chain (l : List S42) (a : Int) (ps : List S31) : Prop where
  first : ∀ p : S31, ps[0]? = some p → p.f0 = a
  long : ∀ (i : Nat) (p : S31), ps[i]? = some p → p.f0 < p.f1
  next : ∀ (i : Nat) (p q : S31), ps[i]? = some p → ps[i + 1]? = some q → p.f1 = q.f0 ∧ p.f2 ≠ q.f2 ∧ q.f0 ∈ endsP l
  gov : ∀ (i : Nat) (p : S31) (t : Int), ps[i]? = some p → p.f0 ≤ t → t < p.f1 → Go.Proofs.Ytaglmfhpbbpleaa.G.gov l t = p.f2

/-- The state behind the instants P, before the instants Q. -/
structure PieInv (l : List S42) (a b : Int) (P Q : List Int) (s : List S31 × S31) : Prop where
  chain : Chain l a s.1
  join : ∀ p : S31, s.1.getLast? = some p → p.f1 = s.2.f0 ∧ p.f2 ≠ s.2.f2 ∧ s.2.f0 ∈ endsP l
  start : s.1 = [] → s.2.f0 = a
  last1 : s.2.f1 = b
  lo : a ≤ s.2.f0
  hi : s.2.f0 < b
  from_ : s.2.f0 = a ∨ s.2.f0 ∈ P
  here : Go.Proofs.Ytaglmfhpbbpleaa.G.gov l s.2.f0 = s.2.f2
  rest : ∀ t, s.2.f0 ≤ t → t < b → (∀ q ∈ Q, t < q) → Go.Proofs.Ytaglmfhpbbpleaa.G.gov l t = s.2.f2

theorem pie_inv0 (l : List S42) (a b : Int) (h : a < b) : PieInv l a b [] (endsP l) ([], ⟨a, b, gov l a⟩) where
  chain := ⟨by simp, by simp, by simp, by simp⟩
  join := by simp
  start := fun _ => rfl
  last1 := rfl
  lo := Int.le_refl _
  hi := h
  from_ := .inl rfl
  here := rfl
  rest := fun t h1 _ h3 => (gov_calm h1 (fun e he hh => by have := h3 e he; omega)).symm

theorem pie_inv_step {l : List S42} {a b e : Int} {P Q : List Int} {s : List S31 × S31} (I : PieInv l a b P (e :: Q) s) (hs : P ++ e :: Q = endsP l) (hle : ∀ p ∈ P, p ≤ e) (hge : ∀ q ∈ Q, e ≤ q) : PieInv l a b (P ++ [e]) Q (pieStep l a b s e) := by
  have hmem : ∀ x ∈ endsP l, x ∈ P ∨ x = e ∨ x ∈ Q := fun x hx => by
    rw [← hs] at hx
    rcases List.mem_append.1 hx with h | h
    · exact .inl h
    · rcases List.mem_cons.1 h with h | h
      · exact .inr (.inl h)
      · exact .inr (.inr h)
  have he : e ∈ endsP l := by rw [← hs]; simp
  have hcalm : ∀ t, e ≤ t → (∀ q ∈ Q, t < q) → gov l e = gov l t := fun t h1 h2 => gov_calm h1 (fun x hx hh => by
    rcases hmem x hx with h | h | h
    · have := hle x h; omega
    · omega
    · have := h2 x h; omega)
  unfold pieStep
  by_cases hc : a < e ∧ e < b ∧ gov l e ≠ s.2.f2
  · rw [if_pos hc]
    obtain ⟨h1, h2, h3⟩ := hc
    have hlt : s.2.f0 < e := by
      have hle' : s.2.f0 ≤ e := by
        rcases I.from_ with h | h
        · omega
        · exact hle _ h
      rcases Int.lt_or_eq_of_le hle' with h | h
      · exact h
      · exact absurd (by rw [← h]; exact I.here) h3
    have hnew : ∀ t, s.2.f0 ≤ t → t < e → gov l t = s.2.f2 := fun t h4 h5 => I.rest t h4 (by omega) (fun q hq => by
      rcases List.mem_cons.1 hq with h | h
      · omega
      · have := hge q h; omega)
    refine ⟨⟨?_, ?_, ?_, ?_⟩, ?_, ?_, rfl, ?_, ?_, ?_, rfl, ?_⟩
    · intro p hp
      cases hs1 : s.1 with
      | nil =>
        rw [hs1] at hp
        simp at hp
        subst hp
        exact I.start hs1
      | cons x r =>
        rw [hs1] at hp
        have : s.1[0]? = some p := by rw [hs1]; simpa using hp
        exact I.chain.first p this
    · intro i p hp
      rw [List.getElem?_append] at hp
      split at hp
      · exact I.chain.long i p hp
      · have : p = ⟨s.2.f0, e, s.2.f2⟩ := by
          have hi := (List.getElem?_eq_some_iff.1 hp).1
          simp at hi
          rw [show i - s.1.length = 0 from by omega] at hp
          simpa using hp.symm
        subst this
        exact hlt
    · intro i p q hp hq
      rw [List.getElem?_append] at hp hq
      by_cases hi : i + 1 < s.1.length
      · rw [if_pos (by omega)] at hp
        rw [if_pos hi] at hq
        exact I.chain.next i p q hp hq
      · rw [if_neg hi] at hq
        have hi2 := (List.getElem?_eq_some_iff.1 hq).1
        simp at hi2
        have hq' : q = ⟨s.2.f0, e, s.2.f2⟩ := by
          rw [show i + 1 - s.1.length = 0 from by omega] at hq
          simpa using hq.symm
        subst hq'
        rw [if_pos (by omega)] at hp
        have hl : s.1.getLast? = some p := by rw [List.getLast?_eq_getElem?, show s.1.length - 1 = i from by omega]; exact hp
        exact I.join p hl
    · intro i p t hp h4 h5
      rw [List.getElem?_append] at hp
      split at hp
      · exact I.chain.gov i p t hp h4 h5
      · have : p = ⟨s.2.f0, e, s.2.f2⟩ := by
          have hi := (List.getElem?_eq_some_iff.1 hp).1
          simp at hi
          rw [show i - s.1.length = 0 from by omega] at hp
          simpa using hp.symm
        subst this
        exact hnew t h4 h5
    · intro p hp
      rw [List.getLast?_append] at hp
      simp at hp
      subst hp
      exact ⟨rfl, fun h => h3 h.symm, he⟩
    · intro h; simp at h
    · show a ≤ e; omega
    · exact h2
    · exact .inr (by simp)
    · intro t h4 h5 h6
      exact (hcalm t h4 h6).symm
  · rw [if_neg hc]
    refine ⟨I.chain, I.join, I.start, I.last1, I.lo, I.hi, ?_, I.here, ?_⟩
    · rcases I.from_ with h | h
      · exact .inl h
      · exact .inr (by simp [h])
    · intro t h4 h5 h6
      rcases Int.lt_or_le t e with h7 | h7
      · exact I.rest t h4 h5 (fun q hq => by
          rcases List.mem_cons.1 hq with h | h
          · omega
          · exact h6 q h)
      · by_cases h8 : gov l e = s.2.f2
        · rw [← hcalm t h7 h6, h8]
        · have h9 : e ≤ a := by
            have := I.hi
            by_cases h : a < e
            · exact absurd ⟨h, by omega, h8⟩ hc
            · omega
          have hlo := I.lo
          have hfa : s.2.f0 = a := by
            rcases I.from_ with h | h
            · exact h
            · have := hle _ h; omega
          rw [← gov_calm h4 (fun x hx hh => by
            rcases hmem x hx with h | h | h
            · have := hle x h; omega
            · omega
            · have := h6 x h; omega)]
          exact I.here

theorem ends_sorted (l : List S42) : (endsP l).Pairwise (fun x y => x ≤ y) := by
  have := List.pairwise_mergeSort (le := fun x y : Int => decide (x ≤ y)) (fun a b c h1 h2 => by simp at *; omega) (fun a b => by simp; omega) (rawEnds l)
  unfold endsP
  exact this.imp (fun h => by simpa using h)

theorem pie_inv_all (l : List S42) (a b : Int) (h : a < b) : ∀ (Q P : List Int) (s : List S31 × S31), P ++ Q = endsP l → PieInv l a b P Q s → PieInv l a b (endsP l) [] (Q.foldl (pieStep l a b) s)
  | [], P, s, hs, I => by rw [List.append_nil] at hs; rw [← hs]; exact I
  | e :: Q, P, s, hs, I => by
    have hp := ends_sorted l
    rw [← hs, List.pairwise_append] at hp
    obtain ⟨_, h2, h3⟩ := hp
    rw [List.pairwise_cons] at h2
    exact pie_inv_all l a b h Q (P ++ [e]) _ (by simpa using hs) (pie_inv_step I hs (fun p hp => h3 p hp e (by simp)) h2.1)

/-- What the pieces of a span are. -/
structure Covers (l : List S42) (a b : Int) (ps : List S31) : Prop where
  chain : Chain l a ps
  some_ : ps ≠ []
  last : ∀ p : S31, ps.getLast? = some p → p.f1 = b
theorem pieces_cover (l : List S42) (a b : Int) (h : a < b) : Covers l a b (pieces l a b) := by
  have I := pie_inv_all l a b h (endsP l) [] _ rfl (pie_inv0 l a b h)
  have hpt : (endsP l).foldl (pieStep l a b) ([], ⟨a, b, gov l a⟩) = pieTo l a b (endsP l) := rfl
  rw [hpt] at I
  unfold pieces
  generalize pieTo l a b (endsP l) = s at I
  have hlt : s.2.f0 < s.2.f1 := by rw [I.last1]; exact I.hi
  have hat : ∀ i p, (s.1 ++ [s.2])[i]? = some p → (i < s.1.length ∧ s.1[i]? = some p) ∨ (i = s.1.length ∧ p = s.2) := by
    intro i p hp
    rw [List.getElem?_append] at hp
    split at hp
    · exact .inl ⟨by assumption, hp⟩
    · right
      have hi := (List.getElem?_eq_some_iff.1 hp).1
      simp at hi
      rw [show i - s.1.length = 0 from by omega] at hp
      exact ⟨by omega, by simpa using hp.symm⟩
  refine ⟨⟨?_, ?_, ?_, ?_⟩, by simp, ?_⟩
  · intro p hp
    rcases hat 0 p hp with ⟨_, h1⟩ | ⟨h1, rfl⟩
    · exact I.chain.first p h1
    · exact I.start (List.length_eq_zero_iff.1 h1.symm)
  · intro i p hp
    rcases hat i p hp with ⟨_, h1⟩ | ⟨_, rfl⟩
    · exact I.chain.long i p h1
    · exact hlt
  · intro i p q hp hq
    rcases hat (i + 1) q hq with ⟨h0, h1⟩ | ⟨h0, rfl⟩
    · rcases hat i p hp with ⟨_, h2⟩ | ⟨h2, _⟩
      · exact I.chain.next i p q h2 h1
      · omega
    · rcases hat i p hp with ⟨_, h2⟩ | ⟨h2, _⟩
      · exact I.join p (by rw [List.getLast?_eq_getElem?, show s.1.length - 1 = i from by omega]; exact h2)
      · omega
  · intro i p t hp h4 h5
    rcases hat i p hp with ⟨_, h1⟩ | ⟨_, rfl⟩
    · exact I.chain.gov i p t h1 h4 h5
    · exact I.rest t h4 (by rw [← I.last1]; exact h5) (by simp)
  · intro p hp
    rw [List.getLast?_append] at hp
    simp at hp
    subst hp
    exact I.last1

/-- The first instant of a sorted list that is behind t and at which another hold governs. -/
theorem next_first {l : List S42} {a b : Int} {ps : List S31} (C : Covers l a b ps) {i : Nat} {p q : S31} (hp : ps[i]? = some p) (hq : ps[i + 1]? = some q) :
    q.f0 = p.f1 ∧ p.f1 ∈ endsP l ∧ gov l p.f1 ≠ gov l p.f0 ∧ ∀ e ∈ endsP l, p.f0 < e → gov l e ≠ gov l p.f0 → p.f1 ≤ e := by
  obtain ⟨h1, h2, h3⟩ := C.chain.next i p q hp hq
  have hl := C.chain.long i p hp
  have hlq := C.chain.long (i + 1) q hq
  have g0 := C.chain.gov i p p.f0 hp (Int.le_refl _) hl
  have g1 := C.chain.gov (i + 1) q q.f0 hq (Int.le_refl _) hlq
  refine ⟨h1.symm, by rw [h1]; exact h3, by rw [h1, g1, g0]; exact fun h => h2 h.symm, ?_⟩
  intro e _ h5 h6
  rcases Int.lt_or_le e p.f1 with h | h
  · exact absurd ((C.chain.gov i p e hp (by omega) h).trans g0.symm) h6
  · exact h

theorem Covers.lo {l : List S42} {a b : Int} {ps : List S31} (C : Covers l a b ps) : ∀ (i : Nat) (p : S31), ps[i]? = some p → a ≤ p.f0
  | 0, p, hp => by rw [C.chain.first p hp]; exact Int.le_refl _
  | i + 1, p, hp => by
    have hi := (List.getElem?_eq_some_iff.1 hp).1
    have hq : ps[i]? = some ps[i] := List.getElem?_eq_getElem (by omega)
    have h1 := C.lo i _ hq
    have h2 := C.chain.long i _ hq
    have h3 := (C.chain.next i _ p hq hp).1
    omega
theorem Covers.hi {l : List S42} {a b : Int} {ps : List S31} (C : Covers l a b ps) (d : Nat) : ∀ (i : Nat) (p : S31), ps[i]? = some p → i + d + 1 = ps.length → p.f1 ≤ b := by
  induction d with
  | zero =>
    intro i p hp hd
    rw [C.last p (by rw [List.getLast?_eq_getElem?, show ps.length - 1 = i from by omega]; exact hp)]
    exact Int.le_refl _
  | succ d ih =>
    intro i p hp hd
    have hq : ps[i + 1]? = some (ps[i + 1]'(by omega)) := List.getElem?_eq_getElem (by omega)
    have h1 := ih (i + 1) _ hq (by omega)
    have h2 := C.chain.long (i + 1) _ hq
    have h3 := (C.chain.next i p _ hp hq).1
    omega

/-- Where the piece i begins; behind the last one: the span's end. -/
def atOf (b : Int) (ps : List S31) (i : Nat) : Int := match ps[i]? with | some p => p.f0 | none => b
theorem atOf_some {b : Int} {ps : List S31} {i : Nat} {p : S31} (h : ps[i]? = some p) : atOf b ps i = p.f0 := by unfold atOf; rw [h]
theorem atOf_next {l : List S42} {a b : Int} {ps : List S31} (C : Covers l a b ps) {i : Nat} {p : S31} (h : ps[i]? = some p) : atOf b ps (i + 1) = p.f1 := by
  unfold atOf
  cases hq : ps[i + 1]? with
  | some q => exact (C.chain.next i p q h hq).1.symm
  | none =>
    have h1 := List.getElem?_eq_none_iff.1 hq
    have h2 := (List.getElem?_eq_some_iff.1 h).1
    exact (C.last p (by rw [List.getLast?_eq_getElem?, show ps.length - 1 = i from by omega]; exact h)).symm
theorem atOf_end (b : Int) (ps : List S31) : atOf b ps ps.length = b := by unfold atOf; rw [List.getElem?_eq_none (Nat.le_refl _)]

/-! ### the next change -/
def hit (l : List S42) (t g e : Int) : Bool := decide (t < e) && decide (gov l e ≠ g)
def nextOf (l : List S42) (t g : Int) (ts : List Int) : Int × Int := match ts.find? (hit l t g) with | some e => (e, 0) | none => (0, 9)
theorem next_loop (l : List S42) (t g : Int) (ts : List Int) (hn : ts.length ≤ 128) (d : Nat) : ∀ (k : Nat) (i : Int), 0 ≤ i → i ≤ ts.length → (ts.length : Int) - i = d → d < k →
    override_Next.l0 k l t g ts (ts.length : Int) i = some (nextOf l t g (ts.drop i.toNat)) := by
  induction d with
  | zero =>
    intro k i h0 h1 hd hk
    obtain ⟨k, rfl⟩ : ∃ m, k = m + 1 := ⟨k - 1, by omega⟩
    simp only [override_Next.l0]
    rw [if_neg (by omega), List.drop_of_length_le (by omega)]
    rfl
  | succ d ih =>
    intro k i h0 h1 hd hk
    obtain ⟨k, rfl⟩ : ∃ m, k = m + 1 := ⟨k - 1, by omega⟩
    have hlt : i < (ts.length : Int) := by omega
    have hih := ih k (i + 1) (by omega) (by omega) (by omega) (by omega)
    obtain ⟨j, rfl⟩ := Int.eq_ofNat_of_zero_le h0
    have hjl : j < ts.length := by omega
    have hrd : rd ts (j : Int) = ts[j] := by unfold rd; simp [List.getD, hjl]
    simp only [override_Next.l0]
    rw [if_pos hlt, if_pos h0, if_pos hlt, wrap_next (n := ts.length) h0 hlt (by omega), hih, hrd]
    rw [Int.toNat_natCast, show ((j : Int) + 1).toNat = j + 1 from by omega, List.drop_eq_getElem_cons hjl]
    unfold nextOf
    rw [List.find?_cons]
    unfold override_governs.f
    simp only [Option.bind_some]
    by_cases h1 : ts[j] > t
    · rw [if_pos h1]
      by_cases h2 : gov l ts[j] = g
      · rw [if_pos h2]
        have : hit l t g ts[j] = false := by unfold hit; simp [h2]
        rw [this]
      · rw [if_neg h2]
        have : hit l t g ts[j] = true := by unfold hit; simp [h2]; omega
        rw [this]
    · rw [if_neg h1]
      have : hit l t g ts[j] = false := by unfold hit; simp; omega
      rw [this]
theorem next_f (l : List S42) (t : Int) (h : chk l = 0) : override_Next.f 200 l t = some (nextOf l t (gov l t) (endsP l)) := by
  have hl : l.length ≤ 64 := (chk_zero l).1 h |>.1
  have hel : (endsP l).length ≤ 128 := by unfold endsP; rw [List.length_mergeSort, rawEnds_len]; omega
  unfold override_Next.f override_Check.f override_governs.f override_ends.f
  rw [h, if_pos (show l.length ≤ 1000000 from by omega)]
  simp only [Option.bind_some, if_true]
  exact next_loop l t _ (endsP l) hel (endsP l).length 200 0 (by omega) (by omega) (by omega) (by omega)
theorem next_is {l : List S42} {t g e : Int} (h1 : e ∈ endsP l) (h2 : t < e) (h3 : gov l e ≠ g) (h4 : ∀ x ∈ endsP l, t < x → gov l x ≠ g → e ≤ x) : nextOf l t g (endsP l) = (e, 0) := by
  unfold nextOf
  cases hf : (endsP l).find? (hit l t g) with
  | none =>
    have := List.find?_eq_none.1 hf e h1
    unfold hit at this
    simp [h3] at this
    omega
  | some x =>
    have hx := List.find?_some hf
    have hm := List.mem_of_find?_eq_some hf
    unfold hit at hx
    simp at hx
    have hle := h4 x hm (by omega) hx.2
    obtain ⟨_, l1, l2, hs, hno⟩ := List.find?_eq_some_iff_append.1 hf
    have hp := ends_sorted l
    rw [hs, List.pairwise_append] at hp
    obtain ⟨_, hp2, hp3⟩ := hp
    rw [List.pairwise_cons] at hp2
    rw [hs] at h1
    rcases List.mem_append.1 h1 with h | h
    · have := hno e h
      unfold hit at this
      simp [h3] at this
      omega
    · rcases List.mem_cons.1 h with h | h
      · rw [h]
      · have := hp2.1 e h
        have : x = e := by omega
        rw [this]
end Go.Proofs.Ytaglmfhpbbpleaa.G
