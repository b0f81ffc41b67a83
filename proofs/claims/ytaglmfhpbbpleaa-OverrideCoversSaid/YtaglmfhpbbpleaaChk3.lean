/-
  override.Check's last loop: no two holds with one Seq, the names increasing. Conditions: none but where the list lies.
-/
import Derived.Test.YtaglmfhpbbpleaaChk2
import Derived.Test.YtaglmfhpbbpleaaOrd
import Derived.IntWalk
namespace Go.Proofs.Ytaglmfhpbbpleaa.G
open Go.Shelf Go.RowKit Go.Lib Go.Proofs.YtaglmfhpbbpleaaW.PrintWords Go.Proofs.YtaglmfhpbbpleaaW.PrintLast

/-- What the last loop says. -/
def chkD (l : List S42) : Int := if dups l = true then 5 else 0
theorem ret_int {k : IntKind} {a b : Int} (h : a = b) : Ending.returned (.int k a) = .returned (.int k b) := by rw [h]
theorem chkD_yes {l : List S42} (h : dups l = true) : 5 = chkD l := by unfold chkD; rw [if_pos h]
theorem chkD_no {l : List S42} (h : dups l = false) : 0 = chkD l := by unfold chkD; rw [if_neg (by rw [h]; simp)]
theorem dups_at (l : List S42) (k : Nat) (h : k < l.length) (hd : dupAt l k = true) : dups l = true := by
  unfold dups; rw [List.any_eq_true]; exact ⟨k, List.mem_range.2 h, hd⟩
theorem dups_none (l : List S42) (h : ∀ j, j < l.length → dupAt l j = false) : dups l = false := by
  unfold dups; rw [List.any_eq_false]; intro j hj; rw [h j (List.mem_range.1 hj)]; simp
theorem cell_new (w : World) (cs : Array Value) (T : TypeId) (t : Nat) : (w.alloc (.cells cs T)).drew.cell? ⟨w.heap.size, t, none⟩ = cs[t]? := by
  show (w.alloc (.cells cs T)).cell? _ = _
  simp
set_option maxRecDepth 100000 in
set_option maxHeartbeats 4000000 in
theorem chk_dups (l : List S42) (A : Option Addr) (c : Nat) (W : World) (hC : Kd.C k42 W A l.length l) (hcap : l.length ≤ c) (h1 : ¬ 64 < l.length) (h2 : (l.any fun h => !nameB h.f0) = false) (h3 : (l.any fun h => !spanB h) = false) (h4 : (l.any fun h => !typeB h) = false) : Chk8 l A c W (chkD l) := by
  have HE18 := Lib.hid (every_at l A c W hC 18 _ tests18 false h2)
  have HE20 := Lib.hid (every_at l A c W hC 20 _ tests20 false h3)
  have HE21 := Lib.hid (every_at l A c W hC 21 _ tests21 false h4)
  have HC := Lib.hid hC
  have hmax := (Flat.read_len hC).2
  clear h2 h3 h4 hC
  unfold Chk8
  go_enter Try.func8, Try.ntmps8
  go_wp2_with fail
  refine (HE18.out _ ((Below.refl _ W).alloc (Nat.le_refl _) _) (by simp) (by simp)).mono ?_
  rintro e w1 ⟨rfl, hb⟩
  have z1 : W.heap.size < w1.heap.size := by have := hb.size; simp at this; omega
  have d1 : w1.cell? ⟨W.heap.size, 0, none⟩ = some (.slice A l.length c) := (hb.cell (p := ⟨W.heap.size, 0, none⟩) (by simp)).trans (by simp)
  have b1 : Below W.heap.size W w1 := (((Below.refl _ W).alloc (Nat.le_refl _) (.cells #[.slice A l.length c] 22)).trans (hb.mono (by simp)))
  have HB1 := Lib.hid b1
  clear hb b1
  go_wp2_with fail
  refine (HE20.out _ HB1.out z1 d1).mono ?_
  rintro e w2 ⟨rfl, hb⟩
  have z2 : W.heap.size < w2.heap.size := Nat.lt_of_lt_of_le z1 hb.size
  have d2 : w2.cell? ⟨W.heap.size, 0, none⟩ = some (.slice A l.length c) := (hb.cell (p := ⟨W.heap.size, 0, none⟩) z1).trans d1
  have b2 : Below W.heap.size W w2 := HB1.out.trans (hb.mono (Nat.le_of_lt z1))
  have HB2 := Lib.hid b2
  clear hb b2 z1 d1
  go_wp2_with fail
  refine (HE21.out _ HB2.out z2 d2).mono ?_
  rintro e w3 ⟨rfl, hb⟩
  have z3 : W.heap.size < w3.heap.size := Nat.lt_of_lt_of_le z2 hb.size
  have d3 : w3.cell? ⟨W.heap.size, 0, none⟩ = some (.slice A l.length c) := (hb.cell (p := ⟨W.heap.size, 0, none⟩) z2).trans d2
  have b3 : Below W.heap.size W w3 := HB2.out.trans (hb.mono (Nat.le_of_lt z2))
  have HB3 := Lib.hid b3
  clear hb b3 z2 d2
  go_wp2_with fail
  go_loopw [21] (fun i wr => ∃ k : Nat, k ≤ l.length ∧ i = .int .i64 k ∧ Below W.heap.size W wr ∧ wr.cell? ⟨W.heap.size, 0, none⟩ = some (.slice A l.length c) ∧ W.heap.size < wr.heap.size ∧ ∀ j, j < k → dupAt l j = false) (fun i _ => l.length - (intOf i).toNat)
  case atStart => exact ⟨0, Nat.zero_le _, rfl, HB3.out, d3, z3, fun j hj => absurd hj (Nat.not_lt_zero _)⟩
  case round =>
    obtain ⟨k, hk, rfl, hb, d4, z4, hd⟩ := hrel
    by_cases hlt : k < l.length
    · obtain ⟨b, off, rfl, hbl, hcell⟩ := flat42.cells (Kd.C_below HC.out hb) (by omega)
      have hx : l[k]? = some l[k] := List.getElem?_eq_getElem hlt
      have r0 : wr.cell? ⟨b, off + k * 6, none⟩ = some (.string l[k].f0) := hcell k 0 _ _ hx rfl
      have r1 : wr.cell? ⟨b, off + k * 6 + 1, none⟩ = some (.int .i64 l[k].f1) := hcell k 1 _ _ hx rfl
      have r2 : wr.cell? ⟨b, off + k * 6 + 2, none⟩ = some (.int .i64 l[k].f2) := hcell k 2 _ _ hx rfl
      have r3 : wr.cell? ⟨b, off + k * 6 + 3, none⟩ = some (.int .i64 l[k].f3.f0) := hcell k 3 _ _ hx rfl
      have r4 : wr.cell? ⟨b, off + k * 6 + 4, none⟩ = some (.int .i64 l[k].f3.f1) := hcell k 4 _ _ hx rfl
      have r5 : wr.cell? ⟨b, off + k * 6 + 5, none⟩ = some (.int .i64 l[k].f4) := hcell k 5 _ _ hx rfl
      have HCELL := Lib.hid hcell
      have HD := Lib.hid hd
      have HB := Lib.hid hb
      clear hcell hd hb
      generalize hlk : l[k] = x at *
      have HLK := Lib.hid hlk
      clear hlk hx
      have hcon : ∀ V, Below wr.heap.size (wr.alloc (.cells (cells42 x) 42)) V → wr.heap.size < V.heap.size → (∀ t u, (enc42 x)[t]? = some u → V.cell? ⟨wr.heap.size, t, none⟩ = some u) →
          Calls Try.prog 16 #[.slice (some ⟨b, off, none⟩) k c, .func (.func 22) #[] #[.pointer (some ⟨wr.heap.size, 0, none⟩)]] V fun e w' => e = .returned (.bool ((l.take k).any fun z => z.f4 == x.f4)) ∧ Below V.heap.size V w' := by
        intro V hbV hzV hcV
        have hV : Below wr.heap.size wr V := ((Below.refl _ wr).alloc (Nat.le_refl _) _).trans hbV
        have := contains16 (fun z => z.f4 == x.f4) 22 #[.pointer (some ⟨wr.heap.size, 0, none⟩)] (enters_of Try.func22 (by kernel_rfl) rfl) (l.take k) (some ⟨b, off, none⟩) c V (take_C (Kd.C_below (Kd.C_below HC.out HB.out) hV) k hk) (fun V' z hb' => by
          show Calls Try.prog 22 #[.agg (cells42 z), .pointer (some ⟨wr.heap.size, 0, none⟩)] V' _
          exact (seq22 x z wr.heap.size V' (Nat.lt_of_lt_of_le hzV hb'.size) (fun t u hu => (hb'.cell (p := ⟨wr.heap.size, t, none⟩) hzV).trans (hcV t u hu))).mono fun e w' h => ⟨h.1, hb'.trans (h.2.mono hb'.size)⟩)
        rw [List.length_take, Nat.min_eq_left hk] at this
        exact this
      have HCON := Lib.hid hcon
      clear hcon
      have hkc : k ≤ c := by omega
      have hdef : dupAt l k = ((decide (0 < k) && !(Op.bytesLess (l.getD (k - 1) default).f0.toList x.f0.toList)) || (l.take k).any (fun z => z.f4 == x.f4)) := by
        unfold dupAt
        rw [show l.getD k default = x from by rw [← HLK.out]; simp [List.getD, hlt]]
      have HDEF := Lib.hid hdef
      clear hdef
      go_wp2_with fail
      rcases Nat.eq_zero_or_pos k with hk0 | hk0
      · have hk1 : decide (0 < (k : Int)) = false := by simp; omega
        have hk2 : decide (0 < k) = false := by simp; omega
        have HK0 := Lib.hid hk0
        clear hk0
        have hS0 : (wr.alloc (.cells (cells42 x) 42)).drew.cell? ⟨W.heap.size, 0, none⟩ = some (.slice (some ⟨b, off, none⟩) l.length c) := (Lib.cell?_alloc_some _ d4)
        refine wp_region_ord (fun w' => w'.cell? ⟨W.heap.size, 0, none⟩ = some (.slice (some ⟨b, off, none⟩) l.length c))
          [(0, true), (1, true), (2, true), (3, true), (4, true), (5, true), (6, true), (7, true), (8, true), (9, true), (10, true), (11, true), (12, true), (13, true), (14, true), (15, true), (16, true), (17, true), (18, false), (19, false)] (by kernel_rfl) (by kernel_rfl) (fun K hK => ?_)
        have HS0 := Lib.hid hS0
        clear hS0
        repeat (first | (refine ord_step rfl rfl HS0.out ?_; apply Exists.intro; refine ⟨fun w' hS => ?_, ?_⟩; (go_simp; try rfl); go_simp) | (refine ord_step_on rfl rfl HS0.out ?_; apply Exists.intro; refine ⟨fun w' hS => ?_, ?_⟩; (go_simp; try rfl); go_simp) | (refine ord_take_off rfl rfl HS0.out ?_; go_simp))
        refine ord_alone_if rfl (fun K' hK' => ?_)
        refine goes_ Try.func16 (by kernel_rfl) rfl #[.slice (some ⟨b, off, none⟩) k c, .func (.func 22) #[] #[.pointer (some ⟨wr.heap.size, 0, none⟩)]] rfl rfl rfl (by go_simp) ?_
        refine (HCON.out _ ((Below.refl _ _).drew) (by simp) (fun t u hu => (cell_new wr (cells42 x) 42 t).trans (by simpa [enc42] using hu))).mono ?_
        rintro e w2 ⟨rfl, hb2⟩
        have HB2 := Lib.hid (HB.out.trans ((((Below.refl _ wr).alloc (Nat.le_refl _) _).drew.trans (hb2.mono (by simp))).mono (Nat.le_of_lt z4)))
        have z5 : W.heap.size < w2.heap.size := by have := hb2.size; simp at this; omega
        have d5 : w2.cell? ⟨W.heap.size, 0, none⟩ = some (.slice (some ⟨b, off, none⟩) l.length c) := (hb2.cell (p := ⟨W.heap.size, 0, none⟩) (by simp; omega)).trans (Lib.cell?_alloc_some _ d4)
        refine ⟨_, rfl, hK' _ _ (fun _ => d5) ?_⟩
        clear hK' K' hb2
        go_simp
        generalize hany : ((l.take k).any fun z => z.f4 == x.f4) = bo
        have HANY := Lib.hid hany
        clear hany
        refine ord_alone_if rfl (fun K' hK' => ?_)
        go_simp
        refine hK' _ _ (fun h => absurd rfl h) (ord_nil (hK _ _ ?_))
        clear hK' K' hK K HS0
        cases bo with
        | true =>
          go_wp2_with fail
          go_ret
          exact ⟨ret_int (chkD_yes (dups_at l k hlt (by rw [HDEF.out, HANY.out]; simp))), HB2.out⟩
        | false =>
          go_wp2_with fail
          refine ⟨⟨k + 1, by omega, by go_num, HB2.out, d5, z5, ?_⟩, by simp [intOf]; omega⟩
          intro j hj
          rcases Nat.lt_or_ge j k with h | h
          · exact HD.out j h
          · have : j = k := by omega
            subst this
            rw [HDEF.out, HANY.out]; simp [HK0.out]
      · obtain ⟨m, hm⟩ : ∃ m, k = m + 1 := ⟨k - 1, by omega⟩
        have e1 : (k : Int) - 1 = (m : Int) := by omega
        have hml : m < l.length := by omega
        have hy : l[m]? = some l[m] := List.getElem?_eq_getElem hml
        have s0 : wr.cell? ⟨b, off + m * 6, none⟩ = some (.string l[m].f0) := HCELL.out m 0 _ _ hy rfl
        have hgd : l.getD (k - 1) default = l[m] := by rw [hm]; simp [List.getD, hml]
        generalize l[m] = y at *
        have hk1 : decide (0 < (k : Int)) = true := by simp; omega
        have hk2 : decide (0 < k) = true := by simp; omega
        have HGD := Lib.hid hgd
        have HM := Lib.hid hm
        have HK0 := Lib.hid hk0
        clear hgd hm hy hk0
        cases hless : Op.bytesLess y.f0.toList x.f0.toList with
        | false =>
          have HLT := Lib.hid hless
          go_quiet (fail)
          go_wp2_with fail
          go_ret
          exact ⟨ret_int (chkD_yes (dups_at l k hlt (by rw [HDEF.out, HGD.out, HLT.out]; simp [HK0.out]))), by
            have := HB.out.trans (((Below.refl _ wr).alloc (Nat.le_refl _) (.cells (cells42 x) 42)).mono (Nat.le_of_lt z4))
            exact ⟨this.os, this.tape, this.output, this.size, this.block⟩⟩
        | true =>
          have HLT := Lib.hid hless
          have hml' : (m : Int) < (l.length : Int) := by omega
          have hw : IntKind.i64.wrap (m : Int) = (m : Int) := IntWalk.i64_in _ (by omega)
          have hS0 : (wr.alloc (.cells (cells42 x) 42)).drew.cell? ⟨W.heap.size, 0, none⟩ = some (.slice (some ⟨b, off, none⟩) l.length c) ∧ (wr.alloc (.cells (cells42 x) 42)).drew.cell? ⟨b, off + m * 6, none⟩ = some (.string y.f0) ∧ (wr.alloc (.cells (cells42 x) 42)).drew.cell? ⟨wr.heap.size, 0, none⟩ = some (.string x.f0) := ⟨Lib.cell?_alloc_some _ d4, Lib.cell?_alloc_some _ s0, (cell_new wr (cells42 x) 42 0).trans rfl⟩
          refine wp_region_ord (fun w' => w'.cell? ⟨W.heap.size, 0, none⟩ = some (.slice (some ⟨b, off, none⟩) l.length c) ∧ w'.cell? ⟨b, off + m * 6, none⟩ = some (.string y.f0) ∧ w'.cell? ⟨wr.heap.size, 0, none⟩ = some (.string x.f0))
            [(0, true), (1, true), (2, true), (3, true), (4, true), (5, true), (6, true), (7, true), (8, true), (9, true), (10, true), (11, true), (12, true), (13, true), (14, true), (15, true), (16, true), (17, true), (18, false), (19, false)] (by kernel_rfl) (by kernel_rfl) (fun K hK => ?_)
          have HS0 := Lib.hid hS0
          clear hS0
          repeat (first | (refine ord_step rfl rfl HS0.out ?_; apply Exists.intro; refine ⟨fun w' hS => ?_, ?_⟩; (obtain ⟨s1, s2, s3⟩ := hS; go_simp; try rfl); go_simp) | (refine ord_step_on rfl rfl HS0.out ?_; apply Exists.intro; refine ⟨fun w' hS => ?_, ?_⟩; (obtain ⟨s1, s2, s3⟩ := hS; go_simp; try rfl); go_simp) | (refine ord_take_off rfl rfl HS0.out ?_; go_simp))
          clear hw
          refine ord_alone_if rfl (fun K' hK' => ?_)
          refine goes_ Try.func16 (by kernel_rfl) rfl #[.slice (some ⟨b, off, none⟩) k c, .func (.func 22) #[] #[.pointer (some ⟨wr.heap.size, 0, none⟩)]] rfl rfl rfl (by go_simp) ?_
          refine (HCON.out _ ((Below.refl _ _).drew) (by simp) (fun t u hu => (cell_new wr (cells42 x) 42 t).trans (by simpa [enc42] using hu))).mono ?_
          rintro e w2 ⟨rfl, hb2⟩
          have hb2' := hb2
          have HB2 := Lib.hid (HB.out.trans ((((Below.refl _ wr).alloc (Nat.le_refl _) _).drew.trans (hb2.mono (by simp))).mono (Nat.le_of_lt z4)))
          have z5 : W.heap.size < w2.heap.size := by have := hb2.size; simp at this; omega
          have d5 : w2.cell? ⟨W.heap.size, 0, none⟩ = some (.slice (some ⟨b, off, none⟩) l.length c) := (hb2.cell (p := ⟨W.heap.size, 0, none⟩) (by simp; omega)).trans (Lib.cell?_alloc_some _ d4)
          refine ⟨_, rfl, hK' _ _ (fun _ => ⟨d5, (hb2'.cell (p := ⟨b, off + m * 6, none⟩) (by simp; omega)).trans (Lib.cell?_alloc_some _ s0), (hb2'.cell (p := ⟨wr.heap.size, 0, none⟩) (by simp)).trans ((cell_new wr (cells42 x) 42 0).trans rfl)⟩) ?_⟩
          clear hK' K' hb2 hb2'
          go_simp
          generalize hany : ((l.take k).any fun z => z.f4 == x.f4) = bo
          have HANY := Lib.hid hany
          clear hany
          refine ord_alone_if rfl (fun K' hK' => ?_)
          go_simp
          refine hK' _ _ (fun h => absurd rfl h) (ord_nil (hK _ _ ?_))
          clear hK' K' hK K HS0
          cases bo with
          | true =>
            go_wp2_with fail
            go_ret
            exact ⟨ret_int (chkD_yes (dups_at l k hlt (by rw [HDEF.out, HANY.out]; simp))), HB2.out⟩
          | false =>
            go_wp2_with fail
            refine ⟨⟨k + 1, by omega, by go_num, HB2.out, d5, z5, ?_⟩, by simp [intOf]; omega⟩
            intro j hj
            rcases Nat.lt_or_ge j k with h | h
            · exact HD.out j h
            · have : j = k := by omega
              subst this
              rw [HDEF.out, HANY.out, HGD.out, HLT.out]; simp
    · go_wp2_with fail
      go_ret
      have hkl : k = l.length := by omega
      subst hkl
      exact ⟨ret_int (chkD_no (dups_none l hd)), hb⟩

theorem check_any (l : List S42) (A : Option Addr) (c : Nat) (W : World) (hC : Kd.C k42 W A l.length l) (hcap : l.length ≤ c) : Chk8 l A c W (chk l) := by
  have hm := (Flat.read_len hC).2
  unfold chk
  by_cases h1 : 64 < l.length
  · rw [if_pos h1]; exact chk_many l A c W h1 hm
  rw [if_neg h1]
  cases h2 : l.any fun h => !nameB h.f0 with
  | true => exact chk_name l A c W hC h1 h2
  | false =>
    cases h3 : l.any fun h => !spanB h with
    | true => exact chk_span l A c W hC h1 h2 h3
    | false =>
      cases h4 : l.any fun h => !typeB h with
      | true => exact chk_type l A c W hC h1 h2 h3 h4
      | false => exact chk_dups l A c W hC hcap h1 h2 h3 h4
end Go.Proofs.Ytaglmfhpbbpleaa.G
