/-
  A statement that leaves its order open, walked once: the operations that only read are taken in a stated order, under a fact S on the world that every operation but the last keeps; the others come alone. Conditions: the checks on the region's edges (closed, by the kernel), and what each lemma names.
-/
import Derived.WalkKit
import Derived.RegionTactic
import Derived.OrdersHeld
import Derived.StillTail
namespace Go.Proofs.Ytaglmfhpbbpleaa.G

section
variable {P : Program} {ops : Array Oper} {md : Region.Mode} {S : World → Prop} {last : Nat}

/-- What was carried out has nothing open ahead of it. -/
def ClosedL (md : Region.Mode) (ops : Array Oper) (listed : Array Bool) : Prop :=
  ∀ j oj, ops[j]? = some oj → listed.getD j false = true → ∀ e ∈ oj.after, Region.binds md e = true → listed.getD e.on false = true

theorem ClosedL.set {listed : Array Bool} (h : ClosedL md ops listed) {i : Nat} (hi : i ∈ Region.ready md ops listed) : ClosedL md ops (listed.setIfInBounds i true) := by
  obtain ⟨_, o, ho, hall⟩ := mem_ready.1 hi
  intro j oj hj hl e he hb
  by_cases hji : i = j
  · subst hji
    rw [ho] at hj
    cases hj
    exact getD_set_true (hall e he hb)
  · rw [getD_set_ne false hji] at hl
    exact getD_set_true (h j oj hj hl e he hb)

/-- The last operation comes up when all others were carried out. -/
theorem last_late {listed : Array Bool} (hs : Region.sinkB md ops last = true) (hc : ClosedL md ops listed) (hsz : listed.size = ops.size) (hl : last < ops.size) (hr : last ∈ Region.ready md ops listed) :
    ∀ d i, last - i = d → i < last → listed.getD i true = true := by
  obtain ⟨_, ol, hol, hall⟩ := mem_ready.1 hr
  intro d
  induction d using Nat.strongRecOn with
  | _ d ih =>
    intro i hd hi
    cases hli : listed.getD i true with
    | true => rfl
    | false =>
      exfalso
      have hlf : listed.getD i false = false := by
        have : i < listed.size := by omega
        simp [this] at hli ⊢; exact hli
      have h1 := List.all_eq_true.1 hs i (List.mem_range.2 hi)
      obtain ⟨j, hj, hj2⟩ := List.any_eq_true.1 h1
      simp only [Bool.and_eq_true, decide_eq_true_eq] at hj2
      obtain ⟨oj, hoj, e, he, hb, hon⟩ := Region.waitsFor_spec hj2.2
      have hjle := List.mem_range.1 hj
      by_cases hjl : j = last
      · subst hjl
        rw [hol] at hoj; cases hoj
        have := hall e he hb
        rw [hon, hlf] at this; cases this
      · have hjt := ih (last - j) (by omega) j rfl (by omega)
        have hjf : listed.getD j false = true := by
          have : j < listed.size := by omega
          simp [this] at hjt ⊢; exact hjt
        have := hc j oj hoj hjf e he hb
        rw [hon, hlf] at this; cases this

/-- The post speaks of the ordinary end alone. -/
def OnlyN (K : Act → World → Prop) : Exit → Act → World → Prop := fun e a w => e = .normal ∧ K a w

def wpAnyT (P : Program) (md : Region.Mode) (ops : Array Oper) (K : Act → World → Prop) (S : World → Prop) (last : Nat) : Nat → Array Bool → Act → World → Prop
  | 0, listed, a, w => Region.ready md ops listed = [] ∧ K a w
  | f + 1, listed, a, w =>
    Region.ready md ops listed ≠ [] ∧
    ∀ i ∈ Region.ready md ops listed, wpOp P ops (OnlyN K) i (fun a' w' => (i ≠ last → S w') ∧ wpAnyT P md ops K S last f (listed.setIfInBounds i true) a' w') a w

theorem wpAny_of_T {K : Act → World → Prop} : ∀ (f : Nat) (listed : Array Bool) (a : Act) (w : World), wpAnyT P md ops K S last f listed a w → wpAny P md ops (OnlyN K) f listed a w
  | 0, _, _, _, h => ⟨h.1, rfl, h.2⟩
  | f + 1, _, _, _, h => ⟨fun h0 => absurd h0 h.1, fun i hi => wpOp_mono (fun a' w' h' => wpAny_of_T f _ a' w' h'.2) (h.2 i hi)⟩

theorem wpAnyT_first {K : Act → World → Prop} {i : Nat} {oi : Oper} {v : Value} (hi : ops[i]? = some oi) (hsel : ∀ (j : Nat) (o : Oper) cs b, ops[j]? = some o → o.op ≠ .select cs b)
    (hs : Region.sinkB md ops last = true) (hlt : last < ops.size) (hil : i < last) :
    ∀ (f : Nat) (listed : Array Bool) (a : Act) (w : World), ClosedL md ops listed → listed.size = ops.size →
      (∀ j oj, ops[j]? = some oj → j ≠ i → listed.getD j true = false → (∀ e ∈ oj.after, Region.binds md e = true → e.on ≠ i) → oi.apart ops oj = true) →
      i ∈ Region.ready md ops listed → YieldsIf P ops S oi v a → S w →
      wpAnyT P md ops K S last f (listed.setIfInBounds i true) (a.put oi.dst v) w → wpAnyT P md ops K S last (f + 1) listed a w := by
  intro f
  induction f with
  | zero =>
    intro listed a w _ _ _ hr hy hS H
    refine ⟨fun h => (by rw [h] at hr; cases hr), fun j hj => ?_⟩
    by_cases hji : j = i
    · subst hji; exact hy.wpOp hi hS ⟨fun _ => hS, H⟩
    · have := ready_mono hj hji
      rw [H.1] at this
      cases this
  | succ f ih =>
    intro listed a w hcl hsz hfree hr hy hS H
    refine ⟨fun h => (by rw [h] at hr; cases hr), fun j hj => ?_⟩
    by_cases hji : j = i
    · subst hji; exact hy.wpOp hi hS ⟨fun _ => hS, H⟩
    · have hjl : j ≠ last := by
        intro e
        subst e
        have h1 := last_late hs hcl hsz hlt hj _ i rfl hil
        have h0 := (mem_ready.1 hr).1
        rw [h1] at h0; cases h0
      have h1 := H.2 j (ready_mono hj hji)
      obtain ⟨hjun, oj, hoj, hall⟩ := mem_ready.1 hj
      have hnot : ∀ e ∈ oj.after, Region.binds md e = true → e.on ≠ i := fun e he hb heq => by
        have h2 := hall e he hb
        have h0 := (mem_ready.1 hr).1
        rw [heq] at h2
        rcases Nat.lt_or_ge i listed.size with h' | h'
        · simp [h'] at h0 h2; rw [h0] at h2; cases h2
        · simp [Array.getElem?_eq_none h'] at h2
      have h2 := wpOp_putIf hoj (hfree j oj hoj hji hjun hnot) (fun cs b => hsel i oi cs b hi) (fun cs b => hsel j oj cs b hoj) (fun c a w h => by cases h.1) hy h1
      have hfree' : ∀ k ok, ops[k]? = some ok → k ≠ i → (listed.setIfInBounds j true).getD k true = false →
          (∀ e ∈ ok.after, Region.binds md e = true → e.on ≠ i) → oi.apart ops ok = true := fun k ok hk hki hun hno => by
        refine hfree k ok hk hki ?_ hno
        by_cases hjk : j = k
        · subst hjk; exact hjun
        · rw [getD_set_ne true hjk] at hun; exact hun
      refine wpOp_mono (fun a' w' h3 => ⟨fun _ => h3.2.1 hjl, ih (listed.setIfInBounds j true) a' w' (hcl.set hj) (by simp [hsz]) hfree' (ready_mono hr (Ne.symm hji)) h3.1 (h3.2.1 hjl) ?_⟩) h2
      rw [Array.setIfInBounds_comm _ _ hji]
      exact h3.2.2

/-- The walk: 'true' marks an operation that only reads, 'false' one that comes alone. -/
def wpOrd (P : Program) (ops : Array Oper) (K : Act → World → Prop) (S : World → Prop) (last : Nat) : List (Nat × Bool) → Act → World → Prop
  | [], a, w => K a w
  | (k, true) :: r, a, w => ∃ o v, ops[k]? = some o ∧ YieldsIf P ops S o v a ∧ S w ∧ wpOrd P ops K S last r (a.put o.dst v) w
  | (k, false) :: r, a, w => wpOp P ops (OnlyN K) k (fun a' w' => (k ≠ last → S w') ∧ wpOrd P ops K S last r a' w') a w
def ordB (md : Region.Mode) (ops : Array Oper) (last : Nat) : List (Nat × Bool) → Array Bool → Bool
  | [], listed => (Region.ready md ops listed).isEmpty
  | (k, true) :: r, listed => decide (k < last) && (Region.ready md ops listed).contains k && Region.free md ops listed k && ordB md ops last r (listed.setIfInBounds k true)
  | (k, false) :: r, listed => decide (Region.ready md ops listed = [k]) && ordB md ops last r (listed.setIfInBounds k true)

theorem wpAnyT_of_ord {K : Act → World → Prop} (hsel : Region.noSelect ops = true) (hs : Region.sinkB md ops last = true) (hlt : last < ops.size) :
    ∀ (l : List (Nat × Bool)) (listed : Array Bool) (a : Act) (w : World), ClosedL md ops listed → listed.size = ops.size → ordB md ops last l listed = true → wpOrd P ops K S last l a w → wpAnyT P md ops K S last l.length listed a w
  | [], listed, a, w, _, _, hB, h => ⟨by simpa [ordB] using hB, h⟩
  | (k, true) :: r, listed, a, w, hc, hsz, hB, h => by
    simp only [ordB, Bool.and_eq_true, decide_eq_true_eq] at hB
    obtain ⟨⟨⟨hk, hr⟩, hf⟩, hB'⟩ := hB
    obtain ⟨o, v, ho, hy, hS, hn⟩ := h
    have hr' : k ∈ Region.ready md ops listed := by simpa using hr
    exact wpAnyT_first ho (Region.noSelect_spec hsel) hs hlt hk r.length listed a w hc hsz (Region.free_spec ho hf) hr' hy hS
      (wpAnyT_of_ord hsel hs hlt r _ _ _ (hc.set hr') (by simp [hsz]) hB' hn)
  | (k, false) :: r, listed, a, w, hc, hsz, hB, h => by
    simp only [ordB, Bool.and_eq_true, decide_eq_true_eq] at hB
    refine ⟨fun h0 => (by rw [hB.1] at h0; cases h0), fun i hi => ?_⟩
    have hi' := hi
    rw [hB.1] at hi
    have hik : i = k := by simpa using hi
    subst hik
    exact wpOp_mono (fun a' w' h' => ⟨h'.1, wpAnyT_of_ord hsel hs hlt r _ a' w' (hc.set hi') (by simp [hsz]) hB.2 h'.2⟩) h

def regionB (ops : Array Oper) (l : List (Nat × Bool)) : Bool :=
  Region.noSelect ops && decide (l.length = ops.size) && decide (0 < ops.size) && Region.sinkB .any ops (ops.size - 1) && ordB .any ops (ops.size - 1) l (Array.replicate ops.size false)

theorem wp_region_ord {id : Nat} {Q : Exit → Act → World → Prop} {a : Act} {w : World} (S : World → Prop) (l : List (Nat × Bool)) (hm : P.follows .mixedOrders = true) (hB : regionB ops l = true)
    (h : ∀ K : Act → World → Prop, (∀ a w, Q .normal a w → K a w) → wpOrd P ops K S (ops.size - 1) l a w.drew) : (Code.region id ops true).wp P Q a w := by
  simp only [regionB, Bool.and_eq_true, decide_eq_true_eq] at hB
  obtain ⟨⟨⟨⟨hsel, hlen⟩, hpos⟩, hs⟩, ho⟩ := hB
  have h1 := wpAnyT_of_ord hsel hs (by omega) l _ a _ (fun j oj _ hl => by rw [getD_replicate_false] at hl; cases hl) (by simp) ho (h _ (fun _ _ h => h))
  rw [hlen] at h1
  exact Code.wp_mono (fun e a' w' q => by obtain ⟨rfl, q⟩ := q; exact q) (wp_region_any hm (wpAny_of_T _ _ _ _ h1))

section
variable {K : Act → World → Prop} {r : List (Nat × Bool)} {a : Act} {w : World} {k : Nat} {o : Oper}
theorem ord_take {v : Value} (ho : ops[k]? = some o) (hg : o.guard = none) (hr : ∀ w', S w' → (execOp a.eval o).run P w' = .ok (.value v) w') (hS : S w) (h : wpOrd P ops K S last r (a.put o.dst v) w) :
    wpOrd P ops K S last ((k, true) :: r) a w :=
  ⟨o, v, ho, .inl ⟨by simp [Region.wanted, hg], hr⟩, hS, h⟩
theorem ord_take_on {v : Value} (ho : ops[k]? = some o) (hg : Region.wanted o (yielded ops a.tmps) = true) (hr : ∀ w', S w' → (execOp a.eval o).run P w' = .ok (.value v) w') (hS : S w) (h : wpOrd P ops K S last r (a.put o.dst v) w) :
    wpOrd P ops K S last ((k, true) :: r) a w :=
  ⟨o, v, ho, .inl ⟨hg, hr⟩, hS, h⟩
theorem ord_take_off (ho : ops[k]? = some o) (hg : Region.wanted o (yielded ops a.tmps) = false) (hS : S w) (h : wpOrd P ops K S last r (a.put o.dst undef) w) :
    wpOrd P ops K S last ((k, true) :: r) a w :=
  ⟨o, undef, ho, .inr ⟨hg, rfl⟩, hS, h⟩
theorem ord_alone (ho : ops[k]? = some o) (hg : o.guard = none) (h : ∀ K' : Act → World → Prop, (∀ a w, (k ≠ last → S w) → wpOrd P ops K S last r a w → K' a w) → Oper.wp P o a w K' (OnlyN K)) :
    wpOrd P ops K S last ((k, false) :: r) a w :=
  wpOp_step ho fun K' hK' => by
    rw [if_pos (by simp [Region.wanted, hg])]
    exact h K' (fun a w h1 h2 => hK' a w ⟨h1, h2⟩)
theorem ord_alone_if (ho : ops[k]? = some o) (h : ∀ K' : Act → World → Prop, (∀ a w, (k ≠ last → S w) → wpOrd P ops K S last r a w → K' a w) → if Region.wanted o (yielded ops a.tmps) = true then Oper.wp P o a w K' (OnlyN K) else K' (a.put o.dst undef) w) :
    wpOrd P ops K S last ((k, false) :: r) a w :=
  wpOp_step ho fun K' hK' => h K' (fun a w h1 h2 => hK' a w ⟨h1, h2⟩)
theorem ord_step (ho : ops[k]? = some o) (hg : o.guard = none) (hS : S w) (h : ∃ v, (∀ w', S w' → (execOp a.eval o).run P w' = .ok (.value v) w') ∧ wpOrd P ops K S last r (a.put o.dst v) w) :
    wpOrd P ops K S last ((k, true) :: r) a w :=
  let ⟨_, hr, h⟩ := h; ord_take ho hg hr hS h
theorem ord_step_on (ho : ops[k]? = some o) (hg : Region.wanted o (yielded ops a.tmps) = true) (hS : S w) (h : ∃ v, (∀ w', S w' → (execOp a.eval o).run P w' = .ok (.value v) w') ∧ wpOrd P ops K S last r (a.put o.dst v) w) :
    wpOrd P ops K S last ((k, true) :: r) a w :=
  let ⟨_, hr, h⟩ := h; ord_take_on ho hg hr hS h
theorem ord_nil (h : K a w) : wpOrd P ops K S last [] a w := h
end
end
end Go.Proofs.Ytaglmfhpbbpleaa.G
