/-
  What the library's sorts leave of a row of one-cell elements that the caller owns: the row, sorted; all else as it was. Conditions: those that each lemma names.
-/
import Derived.Shelf.Sort.Plain
import Derived.WalkKit
import Derived.Below
import Derived.Laws.AppendOwn
namespace Go.Proofs.Ytaglmfhpbbpleaa.G
open Go.Shelf Go.RowKit Go.Lib Go.Sort

section
variable {α : Type} [Inhabited α] {enc : α → Value} {w : World} {g n cap base : Nat} {e : TypeId}
theorem heap_put (w : World) (g : Nat) (d : Array α) (cur : Array Value) (T : TypeId) (fr : Nat × Nat) (h : w.heap[g]? = some (.cells cur T fr)) :
    (putRow enc w g 0 d).heap[g]? = some (.cells (putCells enc 0 d cur) T fr) := by
  unfold putRow mapBlock
  simp only [Array.getElem?_modify, if_true, h, Option.map_some, onCells]
theorem heap_put_ne (w : World) (g k : Nat) (d : Array α) (h : k ≠ g) : (putRow enc w g 0 d).heap[k]? = w.heap[k]? := by
  unfold putRow mapBlock
  simp only [Array.getElem?_modify]
  rw [if_neg (fun e => h e.symm)]

theorem own_holds {zs : List α} (h : w.ownsRow base e 1 (.slice (some ⟨g, 0, none⟩) n cap) n (zs.map enc)) : Holds enc w g 0 zs.toArray ∧ g < w.heap.size ∧ zs.length = n := by
  obtain ⟨hl, h2⟩ := h
  rcases h2 with ⟨h2, _⟩ | ⟨g', cap', cur, h2, _, hg, hn, _, hs, ht⟩
  · cases h2
  simp only [Value.slice.injEq, Option.some.injEq, Addr.mk.injEq, and_true, true_and] at h2
  obtain ⟨rfl, rfl⟩ := h2
  have hzl : zs.length = n := by simpa using hl
  have hgs : g < w.heap.size := by
    rcases Nat.lt_or_ge g w.heap.size with h' | h'
    · exact h'
    · simp [Array.getElem?_eq_none h'] at hg
  refine ⟨fun j hj => ?_, hgs, hzl⟩
  have hj' : j < zs.length := by simpa using hj
  refine ⟨?_, by simp [World.frozen?, hg]⟩
  have h1 : (cur.toList.take (n * 1))[j]? = some (enc zs[j]) := by rw [ht]; simp [hj']
  rw [List.getElem?_take, if_pos (by omega)] at h1
  rw [Nat.zero_add, getElem!_pos zs.toArray j hj]
  simp only [World.cell?, hg]
  simpa using h1

theorem own_put {xs : List Value} (h : w.ownsRow base e 1 (.slice (some ⟨g, 0, none⟩) n cap) n xs) (ds : List α) (hd : ds.length = n) (q : Nat) (os : Array Obj) :
    (grow (putRow enc (Sort.ahead w q) g 0 ds.toArray) os).ownsRow base e 1 (.slice (some ⟨g, 0, none⟩) n cap) n (ds.map enc) ∧ w.grownBy (grow (putRow enc (Sort.ahead w q) g 0 ds.toArray) os) (some g) := by
  obtain ⟨hl, h2⟩ := h
  rcases h2 with ⟨h2, _⟩ | ⟨g', cap', cur, h2, hbg, hg, hn, hcm, hs, ht⟩
  · cases h2
  simp only [Value.slice.injEq, Option.some.injEq, Addr.mk.injEq, and_true, true_and] at h2
  obtain ⟨rfl, rfl⟩ := h2
  have hsz : (putRow enc (Sort.ahead w q) g 0 ds.toArray).heap.size = w.heap.size := by rw [size_putRow]; rfl
  have hgs : g < w.heap.size := by
    rcases Nat.lt_or_ge g w.heap.size with h' | h'
    · exact h'
    · simp [Array.getElem?_eq_none h'] at hg
  have old : ∀ k, k < w.heap.size → (grow (putRow enc (Sort.ahead w q) g 0 ds.toArray) os).heap[k]? = (putRow enc (Sort.ahead w q) g 0 ds.toArray).heap[k]? := fun k hk => by
    show ((putRow enc (Sort.ahead w q) g 0 ds.toArray).heap ++ os)[k]? = _
    exact Array.getElem?_append_left (by rw [hsz]; exact hk)
  refine ⟨⟨by simp [hd], .inr ⟨g, cap, putCells enc 0 ds.toArray cur, rfl, hbg, ?_, hn, hcm, by simp [putCells, hs], ?_⟩⟩, rfl, rfl, rfl, ?_, ?_⟩
  · rw [old g hgs]
    exact heap_put (Sort.ahead w q) g ds.toArray cur e (0, 0) hg
  · apply List.ext_getElem?
    intro j
    rw [List.getElem?_take]
    by_cases hj : j < n
    · have hjc : j < cur.size := by omega
      have hjd : j < ds.length := by omega
      rw [if_pos (by omega), List.getElem?_map, List.getElem?_eq_getElem hjd]
      simp only [putCells, Array.getElem?_toList, Array.getElem?_mapIdx, Array.getElem?_eq_getElem hjc, Option.map_some, Option.some.injEq]
      rw [if_pos ⟨Nat.zero_le _, by simpa using hjd⟩, Nat.sub_zero, getElem!_pos ds.toArray j (by simpa using hjd)]
      rfl
    · rw [if_neg (by omega)]
      symm
      apply List.getElem?_eq_none
      rw [List.length_map]; omega
  · show w.heap.size ≤ ((putRow enc (Sort.ahead w q) g 0 ds.toArray).heap ++ os).size
    rw [Array.size_append, hsz]; omega
  · intro k hk hne
    rw [old k hk, heap_put_ne _ _ _ _ (fun e => hne (by rw [e]))]
    rfl
end
end Go.Proofs.Ytaglmfhpbbpleaa.G
