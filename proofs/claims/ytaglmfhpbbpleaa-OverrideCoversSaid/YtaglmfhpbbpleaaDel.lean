/-
  slices.DeleteFunc at a row of holds that the call owns, with the test 'ended'; override.Expire. Conditions: none but where the list lies, and that it is no longer than memory bears.
-/
import Derived.Test.YtaglmfhpbbpleaaExp
import Derived.Laws.CopyRow
namespace Go.Proofs.Ytaglmfhpbbpleaa.G
open Go.Shelf Go.RowKit Go.Lib Go.Proofs.YtaglmfhpbbpleaaW.PrintWords Go.Proofs.YtaglmfhpbbpleaaW.PrintLast

theorem grown_trans {w w1 w2 : World} {r : Option Nat} (h : w.grownBy w1 r) (k : w1.grownBy w2 r) : w.grownBy w2 r :=
  ⟨k.os.trans h.os, k.tape.trans h.tape, k.output.trans h.output, Nat.le_trans h.size k.size, fun i hi hn => (k.block i (Nat.lt_of_lt_of_le hi h.size) hn).trans (h.block i hi hn)⟩
theorem grown_below {w w1 : World} {r : Option Nat} (h : Below w.heap.size w w1) : w.grownBy w1 r := ⟨h.os, h.tape, h.output, h.size, fun k hk _ => h.block k hk⟩
theorem grown_refl (w : World) (r : Option Nat) : w.grownBy w r := ⟨rfl, rfl, rfl, Nat.le_refl _, fun _ _ _ => rfl⟩
theorem own_below {w w1 : World} {base : Nat} {e : TypeId} {size n : Nat} {v : Value} {xs : List Value} (h : w.ownsRow base e size v n xs) (hb : Below w.heap.size w w1) : w1.ownsRow base e size v n xs :=
  own_move h (fun k hk => hb.block k (own_lt h k hk))

/-- clear(s[i:]): the cells from i on hold the zero value. -/
theorem run_clear_row {P : Program} (w : World) (t e : TypeId) (z : Value) (ht : P.underlying t = some (.slice e)) (hv : (zeroValue e).run P w = .ok z w) (h1 : ∀ u ∈ z.cells.toList, u.oneCell' = true) (hz : 0 < z.cells.size)
    (g o n c : Nat) (cur : Array Value) (T : TypeId) (hn : 0 < n) (hg : w.heap[g]? = some (.cells cur T (0, 0))) (hs : o + n * z.cells.size ≤ cur.size) :
    ∃ cur', (∀ ty, (Builtin.clear_ #[t] ty #[.slice (some ⟨g, o, none⟩) n c]).run P w = .ok (.tuple #[]) (w.setRow g cur')) ∧ cur'.size = cur.size ∧ cur'.toList.take o = cur.toList.take o := by
  have hl : (Builtin.zeroCells z.cells n).toList.length = n * z.cells.size := by simp [Builtin.zeroCells]
  have hone : ∀ v ∈ (Builtin.zeroCells z.cells n).toList, v.oneCell' = true := by
    intro v hvm
    simp only [Builtin.zeroCells, Array.toList_map, List.mem_map, Array.mem_toList_iff, Array.mem_range] at hvm
    obtain ⟨i, _, rfl⟩ := hvm
    have : i % z.cells.size < z.cells.size := Nat.mod_lt _ hz
    rw [getElem!_pos z.cells _ this]
    exact h1 _ (by simp)
  have hst := run_storeCells_at (P := P) g o T (Builtin.zeroCells z.cells n).toList 0 cur w hg (by rw [hl]; omega) hone
  simp only [Nat.add_zero] at hst
  obtain ⟨m, rfl⟩ : ∃ m, n = m + 1 := ⟨n - 1, by omega⟩
  refine ⟨(cur.toList.take o ++ (Builtin.zeroCells z.cells (m + 1)).toList ++ cur.toList.drop (o + (Builtin.zeroCells z.cells (m + 1)).toList.length)).toArray, fun ty => by simp [Builtin.clear_, run_underlying ht, hv, hst], ?_, ?_⟩
  · simp only [List.size_toArray, List.length_append, List.length_take, List.length_drop, Array.length_toList, hl]; omega
  · rw [List.toList_toArray, List.append_assoc, List.take_append_of_le_length (by rw [List.length_take, Array.length_toList]; omega), List.take_take, Nat.min_self]

def keepB (t : Int) (x : S42) : Bool := !decide (x.f2 ≤ t)

theorem take_flat (L : List S42) (i : Nat) (hi : i ≤ L.length) : (L.flatMap enc42).take (i * 6) = (L.take i).flatMap enc42 := by
  have h : L.flatMap enc42 = (L.take i).flatMap enc42 ++ (L.drop i).flatMap enc42 := by rw [← List.flatMap_append, List.take_append_drop]
  have hl : ((L.take i).flatMap enc42).length = i * 6 := by rw [flat_len (k := 6) (fun _ => rfl), List.length_take, Nat.min_eq_left hi]
  rw [h, List.take_append_of_le_length (by omega), List.take_of_length_le (by omega)]

/-- What a call of DeleteFunc comes to. -/
def Deleted (l : List S42) (v : Value) (t : Int) (base : Nat) (W : World) (e : Ending) (w' : World) : Prop :=
  ∃ v', e = .returned v' ∧ w'.ownsRow base 42 6 v' (l.filter (keepB t)).length ((l.filter (keepB t)).flatMap enc42) ∧ W.grownBy w' v.ownBlock

theorem own_cells {w : World} {base g n cap : Nat} {L : List S42} (h : w.ownsRow base 42 6 (.slice (some ⟨g, 0, none⟩) n cap) n (L.flatMap enc42)) (hL : L.length = n) (j : Nat) (hj : j < n) :
    ∀ t u, (enc42 (L[j]'(by omega)))[t]? = some u → w.cell? ⟨g, j * 6 + t, none⟩ = some u := by
  intro t u hu
  rcases h.2 with ⟨h2, _⟩ | ⟨g', cap', cur, h2, _, hg, hn, _, hs, ht⟩
  · cases h2
  simp only [Value.slice.injEq, Option.some.injEq, Addr.mk.injEq, and_true, true_and] at h2
  obtain ⟨rfl, rfl⟩ := h2
  have htl : t < 6 := (List.getElem?_eq_some_iff.1 hu).1
  have h1 := flat_at (enc := enc42) (k := 6) (fun _ => rfl) L j t htl
  rw [List.getElem?_eq_getElem (l := L) (i := j) (by omega), ← ht, List.getElem?_take, if_pos (by omega)] at h1
  simp only [World.cell?, hg]
  simpa using h1.trans hu

theorem pred25 (t : Int) (B : Nat) (W : World) (hB : B < W.heap.size) (hc : W.cell? ⟨B, 0, none⟩ = some (.int .i64 t)) :
    PredBelow Try.prog 25 #[.pointer (some ⟨B, 0, none⟩)] (fun x : S42 => .agg (enc42 x).toArray) (fun x => decide (x.f2 ≤ t)) W := fun V x hb => by
  show Calls Try.prog 25 #[.agg (cells42 x), .pointer (some ⟨B, 0, none⟩)] V _
  exact (ended25 x t B V (Nat.lt_of_lt_of_le hB hb.size) ((hb.cell (p := ⟨B, 0, none⟩) hB).trans hc)).mono fun e w' h => ⟨h.1, hb.trans (h.2.mono hb.size)⟩

theorem index_own (l : List S42) (v : Value) (t : Int) (B base : Nat) (W : World) (hO : W.ownsRow base 42 6 v l.length (l.flatMap enc42)) (hB : B < W.heap.size) (hc : W.cell? ⟨B, 0, none⟩ = some (.int .i64 t)) :
    Calls Try.prog 27 #[v, .func (.func 25) #[] #[.pointer (some ⟨B, 0, none⟩)]] W fun e w' => e = .returned (.int .i64 (Lib.idxBy (fun _ y => decide (y.f2 ≤ t)) l default)) ∧ Below W.heap.size W w' := by
  have eg : ∀ args w, (callFunc 25 args).run Try.prog w = .ok (.enter 25 args) w := enters_of Try.func25 (by kernel_rfl) rfl
  rcases hO.2 with ⟨rfl, h0⟩ | ⟨g, cap, cur, rfl, _, hg, hn, hm, hs, ht⟩
  · have : l = [] := List.length_eq_zero_iff.1 h0
    subst this
    exact (index27_empty none 0 _ W).mono fun e w' h => ⟨h.1, by rw [h.2]; exact Below.refl _ _⟩
  · have hcon := AnyQ.slices_IndexFunc l27 6 Try.isAgg42 Try.sizeOf42 enc42 (fun _ => rfl) (fun x => decide (x.f2 ≤ t)) 25 #[.pointer (some ⟨B, 0, none⟩)] eg g 0 l.length cap l W (pred25 t B W hB hc) (Nat.le_refl _) (by unfold maxLen at hm; omega)
      (by rcases Nat.lt_or_ge g W.heap.size with h | h; exact h; simp [Array.getElem?_eq_none h] at hg) (fun j hj i u hi => by
        rw [getElem!_pos l j hj] at hi
        rw [Nat.zero_add]
        exact own_cells hO rfl j hj i u hi)
    rw [List.take_length] at hcon
    exact hcon

set_option maxRecDepth 100000 in
theorem delete_none (l : List S42) (v : Value) (t : Int) (B base : Nat) (W : World) (hO : W.ownsRow base 42 6 v l.length (l.flatMap enc42)) (hB : B < W.heap.size) (hc : W.cell? ⟨B, 0, none⟩ = some (.int .i64 t)) (hf : l.findIdx? (fun x => decide (x.f2 ≤ t)) = none) :
    Calls Try.prog 23 #[v, .func (.func 25) #[] #[.pointer (some ⟨B, 0, none⟩)]] W (Deleted l v t base W) := by
  have hI := index_own l v t B base W hO hB hc
  have hall := List.findIdx?_eq_none_iff.1 hf
  have hm : Lib.idxBy (fun _ y => decide (y.f2 ≤ t)) l default = -1 := by
    have := Lib.idxBy_miss (fun _ (y : S42) => decide (y.f2 ≤ t)) l l.length default (fun j hj => by rw [getElem!_pos l j hj]; exact hall _ (List.getElem_mem hj) |> fun h => by simpa using h)
    rwa [List.take_length] at this
  rw [hm] at hI
  have hfl : l.filter (keepB t) = l := List.filter_eq_self.2 fun x hx => by
    have := hall x hx
    unfold keepB; rw [this]; rfl
  have HI := Lib.hid hI
  have HO := Lib.hid hO
  have HFL := Lib.hid hfl
  clear hI hO hfl hm hall hf hc
  go_enter Try.func23, Try.ntmps23
  go_wp2_with fail
  refine (HI.out).mono ?_
  rintro e w1 ⟨rfl, hb⟩
  have HB := Lib.hid hb
  clear hb
  go_wp2_with fail
  go_ret
  refine ⟨v, rfl, ?_, grown_below HB.out⟩
  rw [HFL.out]
  exact own_below HO.out HB.out

/-- What the loop keeps: i elements are kept of the first j. -/
structure Part (l : List S42) (t : Int) (i j : Nat) (L : List S42) : Prop where
  len : L.length = l.length
  lt : i < j
  le : j ≤ l.length
  done : L.take i = (l.take j).filter (keepB t)
  rest : L.drop j = l.drop j
theorem Part.at {l L : List S42} {t : Int} {i j : Nat} (h : Part l t i j L) (hj : j < l.length) : L[j]? = some l[j] := by
  have h1 := congrArg (fun x => x[0]?) h.rest
  simpa [List.getElem?_drop, hj] using h1
theorem Part.skip {l L : List S42} {t : Int} {i j : Nat} (h : Part l t i j L) (hj : j < l.length) (hd : keepB t l[j] = false) : Part l t i (j + 1) L := by
  refine ⟨h.len, by have := h.lt; omega, by omega, ?_, ?_⟩
  · rw [List.take_succ_eq_append_getElem hj, List.filter_append, h.done]; simp [hd]
  · rw [← List.drop_drop, h.rest, List.drop_drop]
theorem Part.keep {l L : List S42} {t : Int} {i j : Nat} (h : Part l t i j L) (hj : j < l.length) (hd : keepB t l[j] = true) : Part l t (i + 1) (j + 1) (L.set i l[j]) := by
  have hi := h.lt
  refine ⟨by simp [h.len], by omega, by omega, ?_, ?_⟩
  · rw [List.take_succ_eq_append_getElem hj, List.filter_append, ← h.done, List.take_succ_eq_append_getElem (by simp [h.len]; omega)]
    simp [hd]
    rw [List.take_set, List.set_eq_of_length_le (by rw [List.length_take]; omega)]
  · rw [List.drop_set_of_lt (by omega), ← List.drop_drop, h.rest, List.drop_drop]
theorem Part.start {l : List S42} {t : Int} {k : Nat} (hf : l.findIdx? (fun x => decide (x.f2 ≤ t)) = some k) : Part l t k (k + 1) l := by
  obtain ⟨hk, h1, h2⟩ := List.findIdx?_eq_some_iff_getElem.1 hf
  refine ⟨rfl, by omega, by omega, ?_, rfl⟩
  rw [List.take_succ_eq_append_getElem hk, List.filter_append]
  have h3 : (l.take k).filter (keepB t) = l.take k := List.filter_eq_self.2 fun x hx => by
    obtain ⟨j, hj, rfl⟩ := List.getElem_of_mem hx
    rw [List.length_take] at hj
    have := h2 j (by omega)
    rw [List.getElem_take]
    unfold keepB; simpa using this
  rw [h3]
  have : keepB t l[k] = false := by unfold keepB; rw [h1]; rfl
  simp [this]

set_option maxRecDepth 100000 in
set_option maxHeartbeats 4000000 in
theorem delete_some (l : List S42) (g cap : Nat) (t : Int) (B base k0 : Nat) (W : World) (hO : W.ownsRow base 42 6 (.slice (some ⟨g, 0, none⟩) l.length cap) l.length (l.flatMap enc42)) (hB : B < W.heap.size) (hc : W.heap[B]? = some (.cells #[.int .i64 t] 3 (0, 0)))
    (hf : l.findIdx? (fun x => decide (x.f2 ≤ t)) = some k0) :
    Calls Try.prog 23 #[.slice (some ⟨g, 0, none⟩) l.length cap, .func (.func 25) #[] #[.pointer (some ⟨B, 0, none⟩)]] W (Deleted l (.slice (some ⟨g, 0, none⟩) l.length cap) t base W) := by
  have eg : ∀ args w, (callFunc 25 args).run Try.prog w = .ok (.enter 25 args) w := enters_of Try.func25 (by kernel_rfl) rfl
  have hI := index_own l _ t B base W hO hB (by simp [World.cell?, hc])
  obtain ⟨hk, h1, h2⟩ := List.findIdx?_eq_some_iff_getElem.1 hf
  have hm : Lib.idxBy (fun _ y => decide (y.f2 ≤ t)) l default = k0 := by
    have := Lib.idxBy_hit (fun _ (y : S42) => decide (y.f2 ≤ t)) l l.length k0 default hk (Nat.le_refl _) (by rw [getElem!_pos l k0 hk]; exact h1) (fun j hj => by rw [getElem!_pos l j (by omega)]; simpa using h2 j hj)
    rwa [List.take_length] at this
  rw [hm] at hI
  have hPart := Part.start hf
  have hBg : B ≠ g := by
    intro e
    subst e
    obtain ⟨cells, hg⟩ := own_typed hO B rfl
    rw [hc] at hg
    cases hg
  have hcapm : l.length ≤ cap ∧ cap ≤ 9223372036854775807 := by
    rcases hO.2 with ⟨h, _⟩ | ⟨g', cap', cur, h, _, _, hn, hmx, _⟩
    · cases h
    · cases h; exact ⟨hn, hmx⟩
  obtain ⟨hcap1, hcap2⟩ := hcapm
  have HI := Lib.hid hI
  have HO := Lib.hid hO
  have HC := Lib.hid hc
  have HP := Lib.hid hPart
  have hne1 : ((k0 : Int) == -1) = false := beq_eq_false_iff_ne.2 (by omega)
  clear hI hO hm hf hc h1 h2 hPart
  go_enter Try.func23, Try.ntmps23
  go_wp2_with fail
  refine (HI.out).mono ?_
  rintro e w1 ⟨rfl, hb⟩
  have HB := Lib.hid hb
  clear hb
  go_wp2_with fail
  go_loopw [5, 6, 7] (fun s5 s6 _ wr => ∃ (i j : Nat) (L : List S42), s5 = .int .i64 i ∧ s6 = .int .i64 j ∧ Part l t i j L ∧ wr.ownsRow base 42 6 (.slice (some ⟨g, 0, none⟩) l.length cap) l.length (L.flatMap enc42) ∧ W.grownBy wr (some g)) (fun _ s6 _ _ => l.length - (intOf s6).toNat)
  case atStart => exact ⟨k0, k0 + 1, l, rfl, by go_num, HP.out, own_below HO.out HB.out, grown_below HB.out⟩
  case round =>
    obtain ⟨i, j, L, rfl, rfl, hp, hown, hgr⟩ := hrel
    have hil := hp.lt
    have hjl := hp.le
    by_cases hlt : j < l.length
    · have hLj : L[j]? = some l[j] := hp.at hlt
      have hcell := own_cells hown hp.len j hlt
      have hLe : L[j]'(by rw [hp.len]; exact hlt) = l[j] := by
        have := List.getElem?_eq_getElem (l := L) (i := j) (by rw [hp.len]; exact hlt)
        rw [hLj] at this; exact (Option.some.inj this).symm
      rw [hLe] at hcell
      have hBr : wr.heap[B]? = some (.cells #[.int .i64 t] 3 (0, 0)) := (hgr.block B hB (by simpa using hBg)).trans HC.out
      have hBs : B < wr.heap.size := Nat.lt_of_lt_of_le hB hgr.size
      have r0 : wr.cell? ⟨g, j * 6, none⟩ = some (.string l[j].f0) := hcell 0 _ rfl
      have r1 : wr.cell? ⟨g, j * 6 + 1, none⟩ = some (.int .i64 l[j].f1) := hcell 1 _ rfl
      have r2 : wr.cell? ⟨g, j * 6 + 2, none⟩ = some (.int .i64 l[j].f2) := hcell 2 _ rfl
      have r3 : wr.cell? ⟨g, j * 6 + 3, none⟩ = some (.int .i64 l[j].f3.f0) := hcell 3 _ rfl
      have r4 : wr.cell? ⟨g, j * 6 + 4, none⟩ = some (.int .i64 l[j].f3.f1) := hcell 4 _ rfl
      have r5 : wr.cell? ⟨g, j * 6 + 5, none⟩ = some (.int .i64 l[j].f4) := hcell 5 _ rfl
      have hsk := fun h => hp.skip hlt h
      have hkp := fun h => hp.keep hlt h
      have hil2 : i < L.length := by rw [hp.len]; omega
      have hold := own_cells hown hp.len i (by omega)
      have hLl := hp.len
      generalize l[j] = x at *
      generalize L[i] = y at hold
      have hend := fun V hV hc => ended25 x t B V hV hc
      have HSK := Lib.hid hsk
      have HKP := Lib.hid hkp
      have HOLD := Lib.hid hold
      have HOWN := Lib.hid hown
      have HGR := Lib.hid hgr
      have HBR := Lib.hid hBr
      have HEND := Lib.hid hend
      have HLL := Lib.hid hLl
      clear hsk hkp hold hown hgr hBr hcell hLj hLe hp hend hLl
      by_cases hx : x.f2 ≤ t
      · have hxd : decide (x.f2 ≤ t) = true := by simpa using hx
        have hkd : keepB t x = false := by unfold keepB; rw [hxd]; rfl
        have HKD := Lib.hid hkd
        clear hkd
        go_wp2_with fail
        refine (HEND.out _ (by simp; omega) (Lib.cell?_alloc_some _ (by simp [World.cell?, HBR.out]))).mono ?_
        rintro e w2 ⟨rfl, hb2⟩
        have HB2 := Lib.hid (((Below.refl _ wr).alloc (Nat.le_refl _) (.cells (cells42 x) 42)).trans (hb2.mono (by simp)))
        clear hb2
        go_wp2_with fail
        exact ⟨⟨i, j + 1, L, rfl, by go_num, HSK.out HKD.out, own_below HOWN.out HB2.out, grown_trans HGR.out (grown_below HB2.out)⟩, by simp [intOf]; omega⟩
      · have hxd : decide (x.f2 ≤ t) = false := by simpa using hx
        have hkd : keepB t x = true := by unfold keepB; rw [hxd]; rfl
        have HKD := Lib.hid hkd
        clear hkd
        go_wp2_with fail
        refine (HEND.out _ (by simp; omega) (Lib.cell?_alloc_some _ (by simp [World.cell?, HBR.out]))).mono ?_
        rintro e w2 ⟨rfl, hb2⟩
        have hb3 := ((Below.refl _ wr).alloc (Nat.le_refl _) (.cells (cells42 x) 42)).trans (hb2.mono (by simp))
        have HB2 := Lib.hid hb3
        have hzz : wr.heap.size < w2.heap.size := by have := hb2.size; simp at this; omega
        have x0 : w2.cell? ⟨wr.heap.size, 0, none⟩ = some (.string x.f0) := (hb2.cell (p := ⟨wr.heap.size, 0, none⟩) (by simp)).trans (by simp)
        have x1 : w2.cell? ⟨wr.heap.size, 1, none⟩ = some (.int .i64 x.f1) := (hb2.cell (p := ⟨wr.heap.size, 1, none⟩) (by simp)).trans (by simp)
        have x2 : w2.cell? ⟨wr.heap.size, 2, none⟩ = some (.int .i64 x.f2) := (hb2.cell (p := ⟨wr.heap.size, 2, none⟩) (by simp)).trans (by simp)
        have x3 : w2.cell? ⟨wr.heap.size, 3, none⟩ = some (.int .i64 x.f3.f0) := (hb2.cell (p := ⟨wr.heap.size, 3, none⟩) (by simp)).trans (by simp)
        have x4 : w2.cell? ⟨wr.heap.size, 4, none⟩ = some (.int .i64 x.f3.f1) := (hb2.cell (p := ⟨wr.heap.size, 4, none⟩) (by simp)).trans (by simp)
        have x5 : w2.cell? ⟨wr.heap.size, 5, none⟩ = some (.int .i64 x.f4) := (hb2.cell (p := ⟨wr.heap.size, 5, none⟩) (by simp)).trans (by simp)
        have hown2 := own_below HOWN.out hb3
        have hgs : g < wr.heap.size := own_lt HOWN.out g rfl
        have hold2 : ∀ q u, (enc42 y)[q]? = some u → w2.cell? ⟨g, i * 6 + q, none⟩ = some u := fun q u hu => (hb3.cell (p := ⟨g, i * 6 + q, none⟩) hgs).trans (HOLD.out q u hu)
        have HOWN2 := Lib.hid hown2
        have HOLD2 := Lib.hid hold2
        clear hb2 hb3 hown2 hold2
        go_wp2_with ((with_reducible refine gate_store (p := 33) rfl ?_); refine Kd.R_store k42 (w0 := w2) base rfl rfl 42 (.tmp 33) (.tmp 32) rfl 42 (i : Int) 0 L x (.agg (cells42 x)) (enc42 x) (enc42 y) (fun _ => True) (fun _ => False) (g := g) (n := l.length) (cap := cap) (o' := i * 6) ?a1 ?a2 ?a3 ?a4 ?a5 ?a6 ?a7 ?a8 ?a9 ?b1 ?b2 ?b3 ?b4 ?b5 ?b6 ?_)
        case a1 => rfl
        case a2 => show i * 6 = (i : Int).toNat * 6 + 0; simp
        case a3 => rfl
        case a4 => rfl
        case a5 => kernel_rfl
        case a6 => exact flat42.one x
        case a7 => exact flat42.made' (by rw [HLL.out]; exact HOWN2.out)
        case a8 => omega
        case a9 => omega
        case b1 => rfl
        case b2 => exact fun q u hu => by show w2.cell? ⟨g, (i : Int).toNat * 6 + q, none⟩ = some u; simpa using HOLD2.out q u hu
        case b3 => show 0 + 6 ≤ 6; omega
        case b4 => exact (flat42.M _ _ _ _ _).2 (by simp [enc42])
        case b5 => exact fun k h => h.elim
        case b6 => exact Below.refl _ _
        intro w3 hR3 hB3 hG3
        have hO3 := flat42.own hR3
        rw [Int.toNat_natCast, List.length_set, HLL.out] at hO3
        have HO3 := Lib.hid hO3
        have HG3 := Lib.hid (grown_trans HGR.out (grown_trans (grown_below HB2.out) hG3))
        clear hO3 hR3 hB3 hG3
        go_wp2_with fail
        exact ⟨⟨i + 1, j + 1, L.set i x, by go_num, by go_num, HKP.out HKD.out, HO3.out, HG3.out⟩, by simp [intOf]; omega⟩
    · have hjn : j = l.length := by omega
      subst hjn
      rcases hown.2 with ⟨h, _⟩ | ⟨g', cap', cur, h, hbg, hg, hn, hm, hs, ht⟩
      · cases h
      simp only [Value.slice.injEq, Option.some.injEq, Addr.mk.injEq, and_true, true_and] at h
      obtain ⟨rfl, rfl⟩ := h
      obtain ⟨cur', hrun, hcs, hct⟩ := run_clear_row (P := Try.prog) wr 22 42 (.agg #[.string ⟨#[]⟩, .int .i64 0, .int .i64 0, .int .i64 0, .int .i64 0, .int .i64 0]) Try.underlying22 (by kernel_rfl) (by intro u hu; simp [Value.cells] at hu; rcases hu with rfl | rfl <;> rfl) (by decide) g (i * 6) (l.length - i) (cap - i) cur 42 (by omega) hg (by show i * 6 + (l.length - i) * 6 ≤ cur.size; omega)
      have hrow : (wr.setRow g cur').ownsRow base 42 6 (.slice (some ⟨g, 0, none⟩) i cap) (l.filter (keepB t)).length ((l.filter (keepB t)).flatMap enc42) := by
        have hd := hp.done
        rw [List.take_length] at hd
        have hli : (l.filter (keepB t)).length = i := by rw [← hd, List.length_take, hp.len]; omega
        refine ⟨by rw [flat_len (k := 6) (fun _ => rfl)], .inr ⟨g, cap, cur', by rw [hli], hbg, setRow_heap wr g cur cur' 42 (0, 0) hg, by omega, hm, by omega, ?_⟩⟩
        rw [hli, hct, ← hd, ← take_flat L i (by rw [hp.len]; omega), ← ht, List.take_take]
        congr 1
        omega
      have hgrow : wr.grownBy (wr.setRow g cur') (some g) := ⟨rfl, rfl, rfl, by simp, fun k hk hne => setRow_other wr g k cur' (by simpa using hne)⟩
      have HROW := Lib.hid hrow
      have HGR := Lib.hid (grown_trans hgr hgrow)
      have hic : i < cap := by omega
      clear hrow hgrow hgr hg hs ht hct hcs hown hp
      go_wp2_with fail
      go_ret
      exact ⟨_, rfl, HROW.out, HGR.out⟩

theorem delete_any (l : List S42) (v : Value) (t : Int) (B base : Nat) (W : World) (hO : W.ownsRow base 42 6 v l.length (l.flatMap enc42)) (hB : B < W.heap.size) (hc : W.heap[B]? = some (.cells #[.int .i64 t] 3 (0, 0))) :
    Calls Try.prog 23 #[v, .func (.func 25) #[] #[.pointer (some ⟨B, 0, none⟩)]] W (Deleted l v t base W) := by
  cases hf : l.findIdx? (fun x => decide (x.f2 ≤ t)) with
  | none => exact delete_none l v t B base W hO hB (by simp [World.cell?, hc]) hf
  | some k =>
    rcases hO.2 with ⟨rfl, h0⟩ | ⟨g, cap, cur, rfl, _⟩
    · have : l = [] := List.length_eq_zero_iff.1 h0
      subst this
      simp at hf
    · exact delete_some l g cap t B base k W hO hB hc hf

/-- What is left of a valid list; nothing of another. -/
def expP (l : List S42) (t : Int) : List S42 := if chk l = 0 then l.filter (keepB t) else []

set_option maxRecDepth 100000 in
set_option maxHeartbeats 1000000 in
theorem expire_any (l : List S42) (A : Option Addr) (c : Nat) (t : Int) (W : World) (hC : Kd.C k42 W A l.length l) (hcap : l.length ≤ c) :
    Calls Try.prog 12 #[.slice A l.length c, .int .i64 t] W fun e w' => ∃ v0_ : Value, e = .returned v0_ ∧ Kd.R k42 42 w' W.heap.size (fun _ => True) v0_ (expP l t) ∧ Below W.heap.size W w' := by
  have hck := check_any l A c (W.alloc (.cells #[.int .i64 t] 3)) (Kd.C_alloc hC _) hcap
  unfold Chk8 at hck
  by_cases h0 : chk l = 0
  · have hl : l.length ≤ 64 := by
      unfold chk at h0
      by_cases h : 64 < l.length
      · rw [if_pos h] at h0; cases h0
      · omega
    have hexp : expP l t = l.filter (keepB t) := by unfold expP; rw [if_pos h0]
    rw [h0] at hck
    have HCK := Lib.hid hck
    have HC := Lib.hid hC
    have HEXP := Lib.hid hexp
    clear hck hC hexp h0
    go_enter Try.func12, Try.ntmps12
    go_wp2_with fail
    refine (HCK.out).mono ?_
    rintro e w1 ⟨rfl, hb⟩
    have hb1 : Below W.heap.size W w1 := ((Below.refl _ W).alloc (Nat.le_refl _) (.cells #[.int .i64 t] 3)).trans (hb.mono (by simp))
    have z1 : W.heap.size < w1.heap.size := by have := hb.size; simp at this; omega
    have hcell : w1.heap[W.heap.size]? = some (.cells #[.int .i64 t] 3 (0, 0)) := (hb.block W.heap.size (by simp)).trans (heap_alloc_new W _)
    have HB1 := Lib.hid hb1
    have HCELL := Lib.hid hcell
    clear hb hb1 hcell
    go_wp2_with fail
    refine (clone_any l A c w1 (Kd.C_below HC.out HB1.out) (by omega)).mono ?_
    rintro e w2 ⟨v2, rfl, ho2, hb2⟩
    have hcell2 : w2.heap[W.heap.size]? = some (.cells #[.int .i64 t] 3 (0, 0)) := (hb2.block W.heap.size z1).trans HCELL.out
    have z2 : W.heap.size < w2.heap.size := Nat.lt_of_lt_of_le z1 hb2.size
    have HO2 := Lib.hid ho2
    have HB2 := Lib.hid (HB1.out.trans (hb2.mono HB1.out.size))
    have HCELL2 := Lib.hid hcell2
    clear ho2 hb2 hcell2
    go_wp2_with fail
    refine (delete_any l v2 t W.heap.size w1.heap.size w2 HO2.out z2 HCELL2.out).mono ?_
    rintro e w3 ⟨v3, rfl, ho3, hg3⟩
    have HO3 := Lib.hid ho3
    have HB3 := Lib.hid (HB2.out.grown hg3 HB2.out.size (fun k hk => Nat.le_trans HB1.out.size (own_base HO2.out k hk)))
    clear ho3 hg3
    go_wp2_with fail
    go_ret
    refine ⟨v3, rfl, ?_, HB3.out⟩
    rw [HEXP.out]
    exact flat42.made' (own_weaken HO3.out HB1.out.size)
  · have hexp : expP l t = [] := by unfold expP; rw [if_neg h0]
    have HCK := Lib.hid hck
    have HEXP := Lib.hid hexp
    have hne : (chk l != 0) = true := by rw [bne_iff_ne]; exact h0
    clear hck hC hexp h0
    generalize chk l = r at *
    go_enter Try.func12, Try.ntmps12
    go_wp2_with fail
    refine (HCK.out).mono ?_
    rintro e w1 ⟨rfl, hb⟩
    have HB1 := Lib.hid (((Below.refl _ W).alloc (Nat.le_refl _) (.cells #[.int .i64 t] 3)).trans (hb.mono (by simp)))
    clear hb
    go_wp2_with fail
    go_ret
    refine ⟨.slice none 0 0, rfl, ?_, HB1.out⟩
    rw [HEXP.out]
    exact Kd.R_nil _ _ _ _ _
end Go.Proofs.Ytaglmfhpbbpleaa.G
