/-
  Rows of flat elements in the printer's words: a kind whose cells are a function of the value; what its reading and its making say, cell by cell. Conditions: those that each lemma names.
-/
import Derived.Test.YtaglmfhpbbpleaaWWords
import Derived.Test.YtaglmfhpbbpleaaWLast
import Derived.Below
import Derived.WalkKit
import Derived.Lib.Hide
import Derived.Deep.AppendLies
namespace Go.Proofs.Ytaglmfhpbbpleaa.G
open Go.RowKit Go.Proofs.YtaglmfhpbbpleaaW.PrintWords Go.Proofs.YtaglmfhpbbpleaaW.PrintLast

/-- The cells of x are enc x, wherever. -/
structure Flat {α : Type} (d : Kd α) (enc : α → List Value) : Prop where
  pos : 0 < d.sz
  len : ∀ x, (enc x).length = d.sz
  K : ∀ w x cs, d.K w x cs ↔ cs = enc x
  M : ∀ w base ok x cs, d.M w base ok x cs ↔ cs = enc x

section
variable {α : Type} {d : Kd α} {enc : α → List Value} {w w' : World} {A : Option Addr} {n : Nat} {xs : List α} {e : Nat} {base : Nat} {v : Value}
theorem Flat.one (F : Flat d enc) (x : α) : ∀ u ∈ enc x, u.oneCell' = true := d.K_one ((F.K default x (enc x)).2 rfl)
theorem flat_at {k : Nat} (hk : ∀ x, (enc x).length = k) : ∀ (xs : List α) (j t : Nat), t < k → (xs.flatMap enc)[j * k + t]? = (xs[j]?).bind fun x => (enc x)[t]?
  | [], j, t, _ => by simp
  | x :: r, 0, t, ht => by
    rw [List.flatMap_cons, Nat.zero_mul, Nat.zero_add, List.getElem?_append_left (by rw [hk]; exact ht)]; simp
  | x :: r, j + 1, t, ht => by
    have e1 : (j + 1) * k + t = k + (j * k + t) := by rw [Nat.succ_mul]; omega
    rw [List.flatMap_cons, e1, List.getElem?_append_right (by rw [hk]; omega), hk]
    simp only [Nat.add_sub_cancel_left, List.getElem?_cons_succ]
    exact flat_at hk r j t ht
theorem flat_len {k : Nat} (hk : ∀ x, (enc x).length = k) (xs : List α) : (xs.flatMap enc).length = xs.length * k := by
  induction xs with
  | nil => simp
  | cons x r ih => rw [List.flatMap_cons, List.length_append, ih, hk, List.length_cons, Nat.succ_mul]; omega

/-- A row that is read: where its cells lie. -/
theorem Flat.cells (F : Flat d enc) (h : Kd.C d w A n xs) (h0 : 0 < n) : ∃ b off, A = some ⟨b, off, none⟩ ∧ b < w.heap.size ∧ ∀ j t x u, xs[j]? = some x → (enc x)[t]? = some u → w.cell? ⟨b, off + j * d.sz + t, none⟩ = some u := by
  obtain ⟨hl, _, h2⟩ := h
  obtain ⟨ad, rfl, hc⟩ := h2 h0
  obtain ⟨b, off, sp⟩ := ad
  have hat : ∀ j t x u, xs[j]? = some x → (enc x)[t]? = some u → w.cell? ((⟨b, off, sp⟩ : Addr).add (j * d.sz + t)) = some u := fun j t x u hj ht => by
    obtain ⟨c, _, hk, hcell⟩ := hc j x hj
    rw [(F.K w x c).1 hk] at hcell
    exact hcell t u ht
  have hx0 : xs[0]? = some xs[0] := List.getElem?_eq_getElem (by omega)
  have hp := F.pos
  have hl0 := F.len xs[0]
  have ht0 : (enc xs[0])[0]? = some (enc xs[0])[0] := List.getElem?_eq_getElem (by omega)
  have h00 := hat 0 0 _ _ hx0 ht0
  have hsp : sp = none := by
    have := World.cell?_spot h00
    simpa [Addr.add] using this
  subst hsp
  refine ⟨b, off, rfl, ?_, fun j t x u hj ht => ?_⟩
  · rcases Nat.lt_or_ge b w.heap.size with hb | hb
    · exact hb
    · simp [World.cell?, Addr.add, Array.getElem?_eq_none hb] at h00
  · have := hat j t x u hj ht
    have e : (⟨b, off, none⟩ : Addr).add (j * d.sz + t) = ⟨b, off + j * d.sz + t, none⟩ := by
      unfold Addr.add
      split
      · rename_i hz; simp only [Addr.mk.injEq, and_true, true_and]; omega
      · simp only [Addr.mk.injEq, and_true, true_and]; omega
    rw [e] at this
    exact this
theorem Flat.read_len (h : Kd.C d w A n xs) : xs.length = n ∧ n ≤ 9223372036854775807 := ⟨h.1, h.2.1⟩

/-- A row of one's own: its cells one behind the other. -/
theorem Flat.reps (F : Flat d enc) {ok : Nat → Prop} {inner : List Value} (h : Reps (d.M w base ok) d.sz xs inner) : inner = xs.flatMap enc := by
  obtain ⟨hl, hj⟩ := h
  apply List.ext_getElem?
  intro i
  have hp := F.pos
  rcases Nat.lt_or_ge i inner.length with hi | hi
  · have hx : i / d.sz < xs.length := by rw [Nat.div_lt_iff_lt_mul hp]; omega
    have hm := (F.M _ _ _ _ _).1 (hj (i / d.sz) _ (List.getElem?_eq_getElem hx))
    have hmod : i % d.sz < d.sz := Nat.mod_lt _ hp
    have hdm : i / d.sz * d.sz + i % d.sz = i := by rw [Nat.mul_comm]; exact Nat.div_add_mod i d.sz
    have h1 := flat_at F.len xs (i / d.sz) (i % d.sz) hmod
    rw [hdm, List.getElem?_eq_getElem hx] at h1
    rw [h1]
    show _ = (enc xs[i / d.sz])[i % d.sz]?
    rw [← hm, List.getElem?_take, if_pos hmod, List.getElem?_drop, hdm]
  · rw [List.getElem?_eq_none hi, List.getElem?_eq_none (by rw [flat_len F.len]; omega)]
theorem Flat.to_reps (F : Flat d enc) (ok : Nat → Prop) : Reps (d.M w base ok) d.sz xs (xs.flatMap enc) := by
  refine ⟨flat_len F.len xs, fun j p hj => (F.M _ _ _ _ _).2 ?_⟩
  apply List.ext_getElem?
  intro t
  have hp := F.pos
  rcases Nat.lt_or_ge t d.sz with ht | ht
  · rw [List.getElem?_take, if_pos ht, List.getElem?_drop, flat_at F.len xs j t ht, hj]; rfl
  · rw [List.getElem?_eq_none (by rw [List.length_take]; omega), List.getElem?_eq_none (by rw [F.len]; omega)]
theorem Flat.own (F : Flat d enc) {ok : Nat → Prop} (h : Kd.R d e w base ok v xs) : w.ownsRow base e d.sz v xs.length (xs.flatMap enc) := by
  obtain ⟨_, inner, ho, hr⟩ := h
  rw [← F.reps hr]; exact ho
theorem Flat.made (F : Flat d enc) {ok : Nat → Prop} (h : w.ownsRow base e d.sz v xs.length (xs.flatMap enc)) (hok : ∀ k, v.ownBlock = some k → ok k) : Kd.R d e w base ok v xs := ⟨hok, _, h, F.to_reps _⟩
theorem Flat.made' (F : Flat d enc) (h : w.ownsRow base e d.sz v xs.length (xs.flatMap enc)) : Kd.R d e w base (fun _ => True) v xs := F.made h (fun _ _ => trivial)
end

theorem flat_int (k : IntKind) : Flat (Kd.int k) (fun x => [Value.int k x]) := ⟨Nat.one_pos, fun _ => rfl, fun _ _ _ => Iff.rfl, fun _ _ _ _ _ => Iff.rfl⟩

theorem flat_single (k : IntKind) (xs : List Int) : (xs.flatMap fun x => [Value.int k x]) = xs.map (Value.int k) := by
  induction xs with
  | nil => rfl
  | cons x r ih => rw [List.flatMap_cons, ih]; rfl

theorem bcell {W w1 : World} (hb : Below W.heap.size W w1) : (∀ b o, b < W.heap.size → w1.cell? ⟨b, o, none⟩ = W.cell? ⟨b, o, none⟩) ∧ (∀ b o, b < W.heap.size → w1.frozen? ⟨b, o, none⟩ = W.frozen? ⟨b, o, none⟩) :=
  ⟨fun b o h => hb.cell (p := ⟨b, o, none⟩) h, fun b o h => hb.frozen (p := ⟨b, o, none⟩) h⟩
end Go.Proofs.Ytaglmfhpbbpleaa.G
