/-
  override.Pieces: the pieces of a span, or the first error. Conditions: none but where the list lies.
-/
import Derived.Test.YtaglmfhpbbpleaaEnds
namespace Go.Proofs.Ytaglmfhpbbpleaa.G
open Go.Shelf Go.RowKit Go.Lib Go.Proofs.YtaglmfhpbbpleaaW.PrintWords Go.Proofs.YtaglmfhpbbpleaaW.PrintLast

def enc31 (x : S31) : List Value := [.int .i64 x.f0, .int .i64 x.f1, .int .i64 x.f2]
theorem flat31 : Flat k31 enc31 := ⟨by decide, fun _ => rfl, fun w x cs => ⟨k31_open, fun h => h ▸ k31_mk w x⟩, fun w base ok x cs => ⟨k31_openM, fun h => h ▸ k31_mkM w base ok x⟩⟩
theorem info31E : (Try.prog.info? 31).map (fun i => (i.zero, i.size, i.bytes)) = some (some (.agg #[.int .i64 0, .int .i64 0, .int .i64 0]), 3, 24) := by kernel_rfl

/-- One instant: the last piece may end there, and another begin. -/
def pieStep (l : List S42) (a b : Int) (s : List S31 × S31) (t : Int) : List S31 × S31 :=
  if a < t ∧ t < b ∧ gov l t ≠ s.2.f2 then (s.1 ++ [⟨s.2.f0, t, s.2.f2⟩], ⟨t, b, gov l t⟩) else s
def pieTo (l : List S42) (a b : Int) (ts : List Int) : List S31 × S31 := ts.foldl (pieStep l a b) ([], ⟨a, b, gov l a⟩)
def pieces (l : List S42) (a b : Int) : List S31 := (pieTo l a b (endsP l)).1 ++ [(pieTo l a b (endsP l)).2]
def piecesP (l : List S42) (a b : Int) : List S31 × Int :=
  if chk l ≠ 0 then ([], chk l) else if b < a then ([], 1) else if a = b then ([], 0) else (pieces l a b, 0)

theorem pieTo_next (l : List S42) (a b : Int) (ts : List Int) (k : Nat) (h : k < ts.length) : pieTo l a b (ts.take (k + 1)) = pieStep l a b (pieTo l a b (ts.take k)) ts[k] := by
  unfold pieTo
  rw [List.take_succ_eq_append_getElem h, List.foldl_append]; rfl

def Pie7 (l : List S42) (A : Option Addr) (c : Nat) (a b : Int) (W : World) (r : List S31 × Int) : Prop :=
  Calls Try.prog 7 #[.slice A l.length c, .int .i64 a, .int .i64 b] W fun e w' => ∃ v0_ : Value, e = .returned (.tuple #[v0_, .int .i64 r.2]) ∧ Kd.R k31 31 w' W.heap.size (fun _ => True) v0_ r.1 ∧ Below W.heap.size W w'

theorem own_below' {w w1 : World} {base : Nat} {e : TypeId} {size n : Nat} {v : Value} {xs : List Value} (h : w.ownsRow base e size v n xs) (hb : Below w.heap.size w w1) : w1.ownsRow base e size v n xs :=
  own_move h (fun k hk => hb.block k (own_lt h k hk))
theorem lt_of_some {w : World} {b : Nat} {o : Obj} (h : w.heap[b]? = some o) : b < w.heap.size := by
  rcases Nat.lt_or_ge b w.heap.size with h' | h'
  · exact h'
  · simp [Array.getElem?_eq_none h'] at h
theorem own_cells31 {w : World} {base g n cap : Nat} {L : List S31} (h : w.ownsRow base 31 3 (.slice (some ⟨g, 0, none⟩) n cap) n (L.flatMap enc31)) (hL : L.length = n) (j : Nat) (hj : j < n) :
    ∀ t u, (enc31 (L[j]'(by omega)))[t]? = some u → w.cell? ⟨g, j * 3 + t, none⟩ = some u := by
  intro t u hu
  rcases h.2 with ⟨h2, _⟩ | ⟨g', cap', cur, h2, _, hg, hn, _, hs, ht⟩
  · cases h2
  simp only [Value.slice.injEq, Option.some.injEq, Addr.mk.injEq, and_true, true_and] at h2
  obtain ⟨rfl, rfl⟩ := h2
  have htl : t < 3 := (List.getElem?_eq_some_iff.1 hu).1
  have h1 := flat_at (enc := enc31) (k := 3) (fun _ => rfl) L j t htl
  rw [List.getElem?_eq_getElem (l := L) (i := j) (by omega), ← ht, List.getElem?_take, if_pos (by omega)] at h1
  simp only [World.cell?, hg]
  simpa using h1.trans hu

section
variable (l : List S42) (A : Option Addr) (c : Nat) (a b : Int) (W : World) (hC : Kd.C k42 W A l.length l) (hcap : l.length ≤ c)
include hC hcap

set_option maxRecDepth 100000 in
theorem pie_err (h0 : chk l ≠ 0) : Pie7 l A c a b W ([], chk l) := by
  have HCK := Lib.hid (check_any l A c W hC hcap)
  have hne : (chk l != 0) = true := by rw [bne_iff_ne]; exact h0
  clear hC h0
  unfold Pie7
  unfold Chk8 at HCK
  generalize chk l = r at *
  go_enter Try.func7, Try.ntmps7
  go_wp2_with fail
  refine (HCK.out).mono ?_
  rintro e w1 ⟨rfl, hb⟩
  have HB := Lib.hid hb
  clear hb
  go_wp2_with fail
  go_ret2
  exact ⟨.slice none 0 0, rfl, Kd.R_nil _ _ _ _ _, HB.out⟩

set_option maxRecDepth 100000 in
theorem pie_inv (h0 : chk l = 0) (h1 : b < a) : Pie7 l A c a b W ([], 1) := by
  have HCK := Lib.hid (check_any l A c W hC hcap)
  unfold Chk8 at HCK
  rw [h0] at HCK
  clear hC h0
  unfold Pie7
  go_enter Try.func7, Try.ntmps7
  go_wp2_with fail
  refine (HCK.out).mono ?_
  rintro e w1 ⟨rfl, hb⟩
  have HB := Lib.hid hb
  clear hb
  go_wp2_with fail
  go_ret2
  exact ⟨.slice none 0 0, rfl, Kd.R_nil _ _ _ _ _, HB.out⟩

set_option maxRecDepth 100000 in
theorem pie_same (h0 : chk l = 0) (h1 : a = b) : Pie7 l A c a b W ([], 0) := by
  have HCK := Lib.hid (check_any l A c W hC hcap)
  unfold Chk8 at HCK
  rw [h0] at HCK
  subst h1
  clear hC h0
  unfold Pie7
  go_enter Try.func7, Try.ntmps7
  go_wp2_with fail
  refine (HCK.out).mono ?_
  rintro e w1 ⟨rfl, hb⟩
  have HB := Lib.hid hb
  clear hb
  go_wp2_with fail
  go_ret2
  exact ⟨.slice none 0 0, rfl, Kd.R_nil _ _ _ _ _, HB.out⟩

set_option maxRecDepth 100000 in
set_option maxHeartbeats 4000000 in
theorem pie_ok (h0 : chk l = 0) (h1 : a < b) : Pie7 l A c a b W (pieces l a b, 0) := by
  have HCK := Lib.hid (check_any l A c W hC hcap)
  unfold Chk8 at HCK
  rw [h0] at HCK
  have hl : l.length ≤ 64 := by
    unfold chk at h0
    by_cases h : 64 < l.length
    · rw [if_pos h] at h0; cases h0
    · omega
  have HC := Lib.hid hC
  have hnb : (a == b) = false := by rw [beq_eq_false_iff_ne]; omega
  obtain ⟨i3, hi3, hz30, hz31, hz32⟩ := info_parts info31E
  clear hC h0
  unfold Pie7
  go_enter Try.func7, Try.ntmps7
  go_wp2_with fail
  refine (HCK.out).mono ?_
  rintro e w1 ⟨rfl, hb⟩
  have HB1 := Lib.hid hb
  clear hb
  go_wp2_with fail
  refine (governs_any l A c a w1 (Kd.C_below HC.out HB1.out)).mono ?_
  rintro e w2 ⟨rfl, hb⟩
  have HB2 := Lib.hid (HB1.out.trans (hb.mono HB1.out.size))
  clear hb
  go_wp2_with fail
  refine (ends_any l A c _ (Kd.C_alloc (Kd.C_below HC.out HB2.out) _) (by omega)).mono ?_
  rintro e w3 ⟨vE, rfl, hE, hb⟩
  obtain ⟨AE, cE, rfl⟩ := Kd.R_slice hE
  have hrowE := (flat_int .i64).own hE
  rw [flat_single] at hrowE
  have hgO : w3.heap[w2.heap.size]? = some (.cells #[.int .i64 a, .int .i64 b, .int .i64 (gov l a)] 31 (0, 0)) := (hb.block w2.heap.size (by simp)).trans (heap_alloc_new w2 _)
  have hb3 : Below W.heap.size W w3 := (HB2.out.alloc HB2.out.size (.cells #[.int .i64 a, .int .i64 b, .int .i64 (gov l a)] 31)).trans (hb.mono (by have := HB2.out.size; simp; omega))
  have hrowO : w3.ownsRow W.heap.size 31 3 (.slice (some ⟨w2.heap.size, 0, none⟩) 1 1) (([] : List S31).length + 1) ((([] : List S31) ++ [(⟨a, b, gov l a⟩ : S31)]).flatMap enc31) :=
    ⟨rfl, .inr ⟨w2.heap.size, 1, _, rfl, HB2.out.size, hgO, Nat.le_refl _, by unfold maxLen; omega, rfl, rfl⟩⟩
  have hrowE' : w3.ownsRow W.heap.size 3 1 (.slice AE (endsP l).length cE) (endsP l).length ((endsP l).map (Value.int .i64)) := own_weaken hrowE (by have := HB2.out.size; simp; omega)
  have hel : (endsP l).length ≤ 128 := by unfold endsP; rw [List.length_mergeSort, rawEnds_len]; omega
  have HB3 := Lib.hid hb3
  have HRO := Lib.hid hrowO
  have HRE := Lib.hid hrowE'
  clear hb3 hrowO hrowE hrowE' hgO hb hE
  generalize hes : endsP l = es at *
  have HES := Lib.hid hes
  clear hes
  go_wp2_with fail
  go_loopw [9, 35] (fun v i wr => ∃ (k : Nat) (st : List S31 × S31), k ≤ es.length ∧ i = .int .i64 k ∧ st = pieTo l a b (es.take k) ∧ wr.ownsRow W.heap.size 31 3 v (st.1.length + 1) ((st.1 ++ [st.2]).flatMap enc31) ∧ st.1.length ≤ k ∧
    wr.ownsRow W.heap.size 3 1 (.slice AE es.length cE) es.length (es.map (Value.int .i64)) ∧ Below W.heap.size W wr) (fun _ i _ => es.length - (intOf i).toNat)
  case atStart => exact ⟨0, ([], ⟨a, b, gov l a⟩), Nat.zero_le _, rfl, rfl, HRO.out, Nat.le_refl _, HRE.out, HB3.out⟩
  case round =>
    obtain ⟨k, st, hk, rfl, hst, hro, hsl, hre, hbr⟩ := hrel
    by_cases hlt : k < es.length
    · have hnext := pieTo_next l a b es k hlt
      rw [← hst] at hnext
      rcases hre.2 with ⟨h, h'⟩ | ⟨gE, cap', cur, h, _⟩
      · omega
      simp only [Value.slice.injEq, true_and] at h
      obtain ⟨rfl, rfl⟩ := h
      obtain ⟨hH, hgs, _⟩ := own_holds hre
      have e0 : wr.cell? ⟨gE, k, none⟩ = some (.int .i64 es[k]) := by
        have := (hH k (by simpa using hlt)).1
        rw [Nat.zero_add, getElem!_pos es.toArray k (by simpa using hlt)] at this
        simpa using this
      generalize es[k] = te at *
      obtain ⟨done, last⟩ := st
      simp only at hro hsl
      rcases hro.2 with ⟨_, h⟩ | ⟨gO, capO, curO, rfl, hbO, hgO, hnO, _⟩
      · omega
      have hlen : (done ++ [last]).length = done.length + 1 := by simp
      have hmx : done.length + 1 ≤ 200 := by omega
      have hlc := own_cells31 hro hlen done.length (by omega)
      rw [List.getElem_append_right (Nat.le_refl _)] at hlc
      simp only [Nat.sub_self, List.getElem_singleton] at hlc
      have q0 : wr.cell? ⟨gO, done.length * 3, none⟩ = some (.int .i64 last.f0) := hlc 0 _ rfl
      have q1 : wr.cell? ⟨gO, done.length * 3 + 1, none⟩ = some (.int .i64 last.f1) := hlc 1 _ rfl
      have q2 : wr.cell? ⟨gO, done.length * 3 + 2, none⟩ = some (.int .i64 last.f2) := hlc 2 _ rfl
      have e1 : ((done.length + 1 : Nat) : Int) - 1 = (done.length : Int) := by omega
      have HLC := Lib.hid hlc
      have HRO := Lib.hid hro
      have HRE := Lib.hid hre
      have HBR := Lib.hid hbr
      have HST := Lib.hid hst
      have HNX := Lib.hid hnext
      have HGO := Lib.hid hgO
      clear hlc hro hre hbr hst hnext hgO hH
      go_wp2_with fail
      refine (governs_any l A c te wr (Kd.C_below HC.out HBR.out)).mono ?_
      rintro e w4 ⟨rfl, hb⟩
      have hgs4 : gO < wr.heap.size := lt_of_some HGO.out
      have p0 : w4.cell? ⟨gO, done.length * 3, none⟩ = some (.int .i64 last.f0) := (hb.cell (p := ⟨gO, done.length * 3, none⟩) hgs4).trans q0
      have p1 : w4.cell? ⟨gO, done.length * 3 + 1, none⟩ = some (.int .i64 last.f1) := (hb.cell (p := ⟨gO, done.length * 3 + 1, none⟩) hgs4).trans q1
      have p2 : w4.cell? ⟨gO, done.length * 3 + 2, none⟩ = some (.int .i64 last.f2) := (hb.cell (p := ⟨gO, done.length * 3 + 2, none⟩) hgs4).trans q2
      have HRO4 := Lib.hid (own_below' HRO.out hb)
      have HRE4 := Lib.hid (own_below' HRE.out hb)
      have HB4 := Lib.hid (HBR.out.trans (hb.mono HBR.out.size))
      clear hb q0 q1 q2 e0
      unfold pieStep at HNX
      generalize gov l te = h at *
      by_cases c1 : a < te
      · by_cases c2 : te < b
        · by_cases c3 : h = last.f2
          · have hne : (h != last.f2) = false := by rw [bne_eq_false_iff_eq]; exact c3
            have C3 := Lib.hid c3
            clear c3
            have HNX2 := Lib.hid (HNX.out.trans (if_neg (fun h => h.2.2 C3.out)))
            go_wp2_with fail
            exact ⟨⟨k + 1, (done, last), by omega, by go_num, HNX2.out.symm, HRO4.out, by show done.length ≤ k + 1; omega, HRE4.out, HB4.out⟩, by simp [intOf]; omega⟩
          · have hne : (h != last.f2) = true := by rw [bne_iff_ne]; exact c3
            have HNX2 := Lib.hid (HNX.out.trans (if_pos ⟨c1, c2, c3⟩))
            clear c3
            go_wp2_with ((with_reducible refine gate_store (p := 66) rfl ?_); refine Kd.R_store k31 (w0 := w4) W.heap.size rfl rfl 3 (.tmp 66) (.tmp 64) rfl 31 (done.length : Int) 1 (done ++ [last]) ⟨last.f0, te, last.f2⟩ (.int .i64 te) [.int .i64 te] (enc31 last) (fun _ => True) (fun _ => False) (g := gO) (n := done.length + 1) (cap := capO) (o' := done.length * 3 + 1) ?a1 ?a2 ?a3 ?a4 ?a5 ?a6 ?a7 ?a8 ?a9 ?b1 ?b2 ?b3 ?b4 ?b5 ?b6 ?_)
            case a1 => rfl
            case a2 => show done.length * 3 + 1 = (done.length : Int).toNat * 3 + 1; simp
            case a3 => rfl
            case a4 => rfl
            case a5 => kernel_rfl
            case a6 => intro q hq; simp at hq; subst hq; rfl
            case a7 => exact flat31.made' (by rw [List.length_append]; exact HRO4.out)
            case a8 => omega
            case a9 => omega
            case b1 => rfl
            case b2 =>
              intro q u hu
              show w4.cell? ⟨gO, (done.length : Int).toNat * 3 + q, none⟩ = some u
              rw [Int.toNat_natCast]
              rcases q with _ | _ | _ | q
              · simp [enc31] at hu; subst hu; exact p0
              · simp [enc31] at hu; subst hu; exact p1
              · simp [enc31] at hu; subst hu; exact p2
              · simp [enc31] at hu
            case b3 => show 1 + 1 ≤ 3; omega
            case b4 => exact (flat31.M _ _ _ _ _).2 (by simp [enc31])
            case b5 => exact fun k h => h.elim
            case b6 => exact ⟨rfl, rfl, rfl, Nat.le_refl _, fun _ _ => rfl⟩
            intro w5 hR5 _ hG5
            have hO5 := flat31.own hR5
            rw [Int.toNat_natCast, List.length_set, hlen, List.set_append_right _ _ (Nat.le_refl _), Nat.sub_self, List.set_cons_zero] at hO5
            have hE5 : w5.ownsRow W.heap.size 3 1 (.slice (some ⟨gE, 0, none⟩) es.length cE) es.length (es.map (Value.int .i64)) := own_move HRE4.out (fun q hq => hG5.block q (own_lt HRE4.out q hq) (by
              intro e; cases e
              obtain ⟨x1, y1⟩ := own_typed HRE4.out gO hq
              obtain ⟨x2, y2⟩ := own_typed HRO4.out gO rfl
              rw [y1] at y2; cases y2))
            have HO5 := Lib.hid hO5
            have HE5 := Lib.hid hE5
            have HB5 := Lib.hid (HB4.out.grown hG5 HB4.out.size (fun q hq => own_base HRO4.out q hq))
            clear hO5 hE5 hG5 hR5 p0 p1 p2
            go_wp2_with (at_builtin; refine wpList_append_own _ rfl _ _ 25 rfl W.heap.size 31 i3 _ 3 24 Try.underlying25 hi3 hz30 hz31 hz32 rfl (by decide) (.slice (some ⟨gO, 0, none⟩) (done.length + 1) capO) (done.length + 1) _ rfl (HO5.out.alloc _) ⟨w5.heap.size, 0, none⟩ 1 1 [.int .i64 te, .int .i64 b, .int .i64 h] rfl ?c0 ?c1 ?c2 ?c3 ?c4 ?c5 ?_)
            case c0 => rfl
            case c1 =>
              intro j u hu
              rw [Addr.add_lit]
              rcases j with _ | _ | _ | j
              · simp at hu; subst hu; simp
              · simp at hu; subst hu; simp
              · simp at hu; subst hu; simp
              · simp at hu
            case c2 => intro u hu; simp at hu; rcases hu with rfl | rfl | rfl <;> rfl
            case c3 => unfold maxLen; omega
            case c4 => omega
            case c5 => have := HB5.out.size; simp; omega
            intro v' w6 hown6 hg6 _
            have hO6 : w6.ownsRow W.heap.size 31 3 v' (done.length + 1 + 1) (((done ++ [(⟨last.f0, te, last.f2⟩ : S31)]) ++ [(⟨te, b, h⟩ : S31)]).flatMap enc31) := by
              simpa [List.flatMap_append, enc31] using hown6
            have hE6 : w6.ownsRow W.heap.size 3 1 (.slice (some ⟨gE, 0, none⟩) es.length cE) es.length (es.map (Value.int .i64)) := own_move (HE5.out.alloc (.cells #[.int .i64 te, .int .i64 b, .int .i64 h] 31)) (fun q hq => hg6.block q (own_lt (HE5.out.alloc _) q hq) (by
              intro e
              obtain ⟨x1, y1⟩ := own_typed HE5.out q hq
              obtain ⟨x2, y2⟩ := own_typed HO5.out q e.symm
              rw [y1] at y2; cases y2))
            have HO6 := Lib.hid hO6
            have HE6 := Lib.hid hE6
            have HB6 := Lib.hid ((HB5.out.alloc HB5.out.size (.cells #[.int .i64 te, .int .i64 b, .int .i64 h] 31)).grown hg6 (by have := HB5.out.size; simp; omega) (fun q hq => own_base HO5.out q hq))
            clear hO6 hE6 hown6 hg6
            go_wp2_with fail
            exact ⟨⟨k + 1, (done ++ [(⟨last.f0, te, last.f2⟩ : S31)], (⟨te, b, h⟩ : S31)), by omega, by go_num, HNX2.out.symm, by rw [List.length_append]; exact HO6.out, by simp; omega, HE6.out, HB6.out⟩, by simp [intOf]; omega⟩
        · have d2 : decide (te < b) = false := by simpa using c2
          have HNX2 := Lib.hid (HNX.out.trans (if_neg (fun h => c2 h.2.1)))
          go_wp2_with fail
          exact ⟨⟨k + 1, (done, last), by omega, by go_num, HNX2.out.symm, HRO4.out, by show done.length ≤ k + 1; omega, HRE4.out, HB4.out⟩, by simp [intOf]; omega⟩
      · have d1 : decide (a < te) = false := by simpa using c1
        have HNX2 := Lib.hid (HNX.out.trans (if_neg (fun h => c1 h.1)))
        go_wp2_with fail
        exact ⟨⟨k + 1, (done, last), by omega, by go_num, HNX2.out.symm, HRO4.out, by show done.length ≤ k + 1; omega, HRE4.out, HB4.out⟩, by simp [intOf]; omega⟩
    · have hkl : k = es.length := by omega
      subst hkl
      rw [List.take_length] at hst
      have HRO := Lib.hid hro
      have HST := Lib.hid hst
      have HBR := Lib.hid hbr
      rcases hro.2 with ⟨_, h⟩ | ⟨gO, capO, curO, rfl, _⟩
      · omega
      clear hro hst hbr hre
      go_wp2_with fail
      go_ret2
      refine ⟨_, rfl, ?_, HBR.out⟩
      show Kd.R k31 31 wr W.heap.size (fun _ => True) _ (pieces l a b)
      unfold pieces
      rw [HES.out, ← HST.out]
      exact flat31.made' (by rw [List.length_append]; exact HRO.out)

theorem pieces_any : Pie7 l A c a b W (piecesP l a b) := by
  unfold piecesP
  by_cases h0 : chk l = 0
  · rw [if_neg (by simpa using h0)]
    by_cases h1 : b < a
    · rw [if_pos h1]; exact pie_inv l A c a b W hC hcap h0 h1
    · rw [if_neg h1]
      by_cases h2 : a = b
      · rw [if_pos h2]; exact pie_same l A c a b W hC hcap h0 h2
      · rw [if_neg h2]; exact pie_ok l A c a b W hC hcap h0 (by omega)
  · rw [if_pos h0]; exact pie_err l A c a b W hC hcap h0
end
end Go.Proofs.Ytaglmfhpbbpleaa.G
