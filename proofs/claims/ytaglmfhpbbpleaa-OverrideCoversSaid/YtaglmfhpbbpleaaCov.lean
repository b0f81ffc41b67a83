/-
  OverrideCovers, walked on the ways that it takes: the pieces cover the span, and each question is answered as the law asks. Conditions: where the list lies, and that the span's ends are Go's int.
-/
import Derived.Test.YtaglmfhpbbpleaaPure4
import Derived.Test.YtaglmfhpbbpleaaOrd
import Derived.IntWalk
import Derived.LoopTactic
import Derived.Deep.DeepCutAuto
namespace Go.Proofs.Ytaglmfhpbbpleaa.G
open Go.Shelf Go.RowKit Go.Lib Go.Proofs.YtaglmfhpbbpleaaW.PrintWords Go.Proofs.YtaglmfhpbbpleaaW.PrintLast

def Cov3 (l : List S42) (A : Option Addr) (c : Nat) (a b x : Int) (W : World) : Prop :=
  Calls Try.prog 3 #[.slice A l.length c, .int .i64 a, .int .i64 b, .int .i64 x] W fun e w' => e = .returned (.bool true) ∧ Below W.heap.size W w'

set_option maxRecDepth 100000 in
set_option maxHeartbeats 1000000 in
theorem cov_many (l : List S42) (A : Option Addr) (c : Nat) (a b x : Int) (W : World) (hC : Kd.C k42 W A l.length l) (hcap : l.length ≤ c) (hfew : plenumref34_Few.f 200 l = some false) : Cov3 l A c a b x W := by
  have HC := Lib.hid hC
  have HF := Lib.hid hfew

  clear hC hfew
  unfold Cov3
  go_enter Try.func3, Try.ntmps3
  go_wp2_with fail
  refine (plenumlaw34_awake.calls 200 true W awake_ok).mono ?_
  rintro e w1 ⟨rfl, hb1⟩
  have HB1 := Lib.hid hb1
  clear hb1
  go_wp2_with fail
  refine (plenumref34_Few.calls 200 A c l false w1 (Kd.C_below HC.out HB1.out) hcap HF.out).mono ?_
  rintro e w2 ⟨rfl, hd⟩
  have HB2 := Lib.hid (HB1.out.trans (hd.below.mono HB1.out.size))
  clear hd
  go_wp2_with fail
  go_ret
  exact ⟨rfl, HB2.out⟩

set_option maxRecDepth 100000 in
set_option maxHeartbeats 1000000 in
theorem cov_back (l : List S42) (A : Option Addr) (c : Nat) (a b x : Int) (W : World) (hC : Kd.C k42 W A l.length l) (hcap : l.length ≤ c) (hfew : plenumref34_Few.f 200 l = some true) (h1 : b < a) : Cov3 l A c a b x W := by
  have HC := Lib.hid hC
  have HF := Lib.hid hfew

  clear hC hfew
  unfold Cov3
  go_enter Try.func3, Try.ntmps3
  go_wp2_with fail
  refine (plenumlaw34_awake.calls 200 true W awake_ok).mono ?_
  rintro e w1 ⟨rfl, hb1⟩
  have HB1 := Lib.hid hb1
  clear hb1
  go_wp2_with fail
  refine (plenumref34_Few.calls 200 A c l true w1 (Kd.C_below HC.out HB1.out) hcap HF.out).mono ?_
  rintro e w2 ⟨rfl, hd⟩
  have HB2 := Lib.hid (HB1.out.trans (hd.below.mono HB1.out.size))
  clear hd
  go_wp2_with fail
  go_ret
  exact ⟨rfl, HB2.out⟩

set_option maxRecDepth 100000 in
set_option maxHeartbeats 1000000 in
theorem cov_bad (l : List S42) (A : Option Addr) (c : Nat) (a b x : Int) (W : World) (hC : Kd.C k42 W A l.length l) (hcap : l.length ≤ c) (hfew : plenumref34_Few.f 200 l = some true) (h1 : ¬ b < a) (h0 : chk l ≠ 0) : Cov3 l A c a b x W := by
  have HC := Lib.hid hC
  have HF := Lib.hid hfew
  have hp : override_Pieces.f l a b = some ([], chk l) := by unfold override_Pieces.f piecesP; rw [if_pos h0]
  have hck : override_Check.f l = some (chk l) := rfl
  have hne : (chk l != 0) = true := by rw [bne_iff_ne]; exact h0
  generalize chk l = r at *
  have HP := Lib.hid hp
  have HCK := Lib.hid hck
  clear hp hck h0
  clear hC hfew
  unfold Cov3
  go_enter Try.func3, Try.ntmps3
  go_wp2_with fail
  refine (plenumlaw34_awake.calls 200 true W awake_ok).mono ?_
  rintro e w1 ⟨rfl, hb1⟩
  have HB1 := Lib.hid hb1
  clear hb1
  go_wp2_with fail
  refine (plenumref34_Few.calls 200 A c l true w1 (Kd.C_below HC.out HB1.out) hcap HF.out).mono ?_
  rintro e w2 ⟨rfl, hd⟩
  have HB2 := Lib.hid (HB1.out.trans (hd.below.mono HB1.out.size))
  clear hd
  go_wp2_with fail
  refine (override_Pieces.calls A c l a b [] r w2 (Kd.C_below HC.out HB2.out) hcap HP.out).mono ?_
  rintro e w3 ⟨v, rfl, _, hb3⟩
  have HB3 := Lib.hid (HB2.out.trans (hb3.mono HB2.out.size))
  clear hb3
  go_wp2_with fail
  refine (override_Check.calls A c l r w3 (Kd.C_below HC.out HB3.out) hcap HCK.out).mono ?_
  rintro e w4 ⟨rfl, hb4⟩
  have HB4 := Lib.hid (HB3.out.trans (hb4.mono HB3.out.size))
  clear hb4
  go_wp2_with fail
  go_ret
  exact ⟨by simp, HB4.out⟩

set_option maxRecDepth 100000 in
set_option maxHeartbeats 1000000 in
theorem cov_none (l : List S42) (A : Option Addr) (c : Nat) (a b x : Int) (W : World) (hC : Kd.C k42 W A l.length l) (hcap : l.length ≤ c) (hfew : plenumref34_Few.f 200 l = some true) (h0 : chk l = 0) (h1 : a = b) : Cov3 l A c a b x W := by
  have HC := Lib.hid hC
  have HF := Lib.hid hfew
  subst h1
  have hp : override_Pieces.f l a a = some ([], 0) := by
    unfold override_Pieces.f piecesP
    rw [if_neg (by simpa using h0), if_neg (by omega), if_pos rfl]
  have HP := Lib.hid hp
  have hnl : ¬ a < a := by omega
  clear hp h0
  clear hC hfew
  unfold Cov3
  go_enter Try.func3, Try.ntmps3
  go_wp2_with fail
  refine (plenumlaw34_awake.calls 200 true W awake_ok).mono ?_
  rintro e w1 ⟨rfl, hb1⟩
  have HB1 := Lib.hid hb1
  clear hb1
  go_wp2_with fail
  refine (plenumref34_Few.calls 200 A c l true w1 (Kd.C_below HC.out HB1.out) hcap HF.out).mono ?_
  rintro e w2 ⟨rfl, hd⟩
  have HB2 := Lib.hid (HB1.out.trans (hd.below.mono HB1.out.size))
  clear hd
  go_wp2_with fail
  refine (override_Pieces.calls A c l a a [] 0 w2 (Kd.C_below HC.out HB2.out) hcap HP.out).mono ?_
  rintro e w3 ⟨v, rfl, hR, hb3⟩
  have HB3 := Lib.hid (HB2.out.trans (hb3.mono HB2.out.size))
  obtain ⟨Av, cv, rfl⟩ := Kd.R_slice hR
  clear hb3 hR
  go_wp2_with fail
  go_loopw [11, 12] (fun s11 s12 wr => s11 = .int .i64 a ∧ s12 = .int .i64 0 ∧ Below W.heap.size W wr) (fun _ _ _ => 0)
  case atStart => exact ⟨rfl, rfl, HB3.out⟩
  case round =>
    obtain ⟨rfl, rfl, hb⟩ := hrel
    have HB := Lib.hid hb
    clear hb
    go_wp2_with fail
    go_ret
    exact ⟨by simp, HB.out⟩

theorem pieTo_len (l : List S42) (a b : Int) (ts : List Int) (s : List S31 × S31) : (ts.foldl (pieStep l a b) s).1.length ≤ s.1.length + ts.length := by
  induction ts generalizing s with
  | nil => simp
  | cons t r ih =>
    rw [List.foldl_cons]
    have h1 := ih (pieStep l a b s t)
    have h2 : (pieStep l a b s t).1.length ≤ s.1.length + 1 := by
      unfold pieStep
      split
      · simp
      · omega
    simp only [List.length_cons]
    omega
theorem pieces_len (l : List S42) (a b : Int) (h : chk l = 0) : (pieces l a b).length ≤ 200 := by
  have hl : l.length ≤ 64 := (chk_zero l).1 h |>.1
  have hel : (endsP l).length ≤ 128 := by unfold endsP; rw [List.length_mergeSort, rawEnds_len]; omega
  have := pieTo_len l a b (endsP l) ([], ⟨a, b, gov l a⟩)
  unfold pieces
  rw [List.length_append]
  simp only [List.length_nil, List.length_cons] at this ⊢
  unfold pieTo
  omega
theorem at_f (l : List S42) (t : Int) (h : chk l = 0) : override_At.f l t = some (gov l t) := by
  unfold override_At.f override_Check.f override_governs.f
  rw [h]; rfl

theorem lt_of_cell {w : World} {b o : Nat} {v : Value} (h : w.cell? ⟨b, o, none⟩ = some v) : b < w.heap.size := by
  rcases Nat.lt_or_ge b w.heap.size with h' | h'
  · exact h'
  · simp [World.cell?, Array.getElem?_eq_none h'] at h

set_option maxRecDepth 100000 in
set_option maxHeartbeats 8000000 in
theorem cov_ok (l : List S42) (A : Option Addr) (c : Nat) (a b x : Int) (W : World) (hC : Kd.C k42 W A l.length l) (hcap : l.length ≤ c) (hfew : plenumref34_Few.f 200 l = some true) (h0 : chk l = 0) (h1 : a < b) (ha : -9223372036854775808 ≤ a) (hbm : b ≤ 9223372036854775807) : Cov3 l A c a b x W := by
  have HC := Lib.hid hC
  have HF := Lib.hid hfew
  have hcov := pieces_cover l a b h1
  have hp : override_Pieces.f l a b = some (pieces l a b, 0) := by
    unfold override_Pieces.f piecesP
    rw [if_neg (by simpa using h0), if_neg (by omega), if_neg (by omega)]
  have hlen : (pieces l a b).length ≤ 200 := pieces_len l a b h0
  generalize pieces l a b = ps at *
  have hat := fun t => at_f l t h0
  have hnext := fun t => next_f l t h0
  have HP := Lib.hid hp
  have HCOV := Lib.hid hcov
  have HAT := Lib.hid hat
  have HNEXT := Lib.hid hnext
  clear hp hcov hat hnext h0
  clear hC hfew
  unfold Cov3
  go_enter Try.func3, Try.ntmps3
  go_wp2_with fail
  refine (plenumlaw34_awake.calls 200 true W awake_ok).mono ?_
  rintro e w1 ⟨rfl, hb1⟩
  have HB1 := Lib.hid hb1
  clear hb1
  go_wp2_with fail
  refine (plenumref34_Few.calls 200 A c l true w1 (Kd.C_below HC.out HB1.out) hcap HF.out).mono ?_
  rintro e w2 ⟨rfl, hd⟩
  have HB2 := Lib.hid (HB1.out.trans (hd.below.mono HB1.out.size))
  clear hd
  go_wp2_with fail
  refine (override_Pieces.calls A c l a b ps 0 w2 (Kd.C_below HC.out HB2.out) hcap HP.out).mono ?_
  rintro e w3 ⟨v, rfl, hR, hb3⟩
  have hb3' := HB2.out.trans (hb3.mono HB2.out.size)
  have HB3 := Lib.hid hb3'
  have hown := own_weaken (flat31.own hR) HB2.out.size
  have HOWN := Lib.hid hown
  rcases hown.2 with ⟨_, hz⟩ | ⟨g, cap, cur, rfl, _⟩
  · exact absurd (List.length_eq_zero_iff.1 hz) HCOV.out.some_
  clear hb3 hb3' hR hown
  go_wp2_with fail
  go_loopw [11, 12] (fun s11 s12 wr => ∃ i : Nat, i ≤ ps.length ∧ s12 = .int .i64 i ∧ s11 = .int .i64 (atOf b ps i) ∧ wr.ownsRow W.heap.size 31 3 (.slice (some ⟨g, 0, none⟩) ps.length cap) ps.length (ps.flatMap enc31) ∧ Below W.heap.size W wr) (fun _ s12 _ => ps.length - (intOf s12).toNat)
  case atStart => exact ⟨0, Nat.zero_le _, rfl, by
    cases hq : ps[0]? with
    | none => exact absurd (List.length_eq_zero_iff.1 (by have := List.getElem?_eq_none_iff.1 hq; omega)) HCOV.out.some_
    | some p => rw [atOf_some hq, HCOV.out.chain.first p hq], HOWN.out, HB3.out⟩
  case round =>
    obtain ⟨i, hi, rfl, rfl, hro, hb⟩ := hrel
    by_cases hlt : i < ps.length
    · have hpi : ps[i]? = some ps[i] := List.getElem?_eq_getElem hlt
      have hat := atOf_some (b := b) hpi
      have hnx := atOf_next HCOV.out hpi
      have hlong := HCOV.out.chain.long i _ hpi
      have hgov := fun t h2 h3 => HCOV.out.chain.gov i _ t hpi h2 h3
      have hlo := HCOV.out.lo i _ hpi
      have hhi := HCOV.out.hi (ps.length - i - 1) i _ hpi (by omega)
      have hg0 := hgov _ (Int.le_refl _) hlong
      have hg1 := hgov (ps[i].f1 - 1) (by omega) (by omega)
      have hgx : ps[i].f0 ≤ x → x < ps[i].f1 → gov l x = ps[i].f2 := fun h2 h3 => hgov x h2 h3
      have hprev : 0 < i → ∃ p, ps[i - 1]? = some p ∧ p.f2 ≠ ps[i].f2 := fun h0 => by
        have hq : ps[i - 1]? = some (ps[i - 1]'(by omega)) := List.getElem?_eq_getElem (by omega)
        exact ⟨_, hq, (HCOV.out.chain.next (i - 1) _ _ hq (by rw [show i - 1 + 1 = i from by omega]; exact hpi)).2.1⟩
      have hchange : i + 1 < ps.length → nextOf l ps[i].f0 (gov l ps[i].f0) (endsP l) = (ps[i].f1, 0) := fun h0 => by
        have hq : ps[i + 1]? = some (ps[i + 1]'h0) := List.getElem?_eq_getElem h0
        obtain ⟨_, h2, h3, h4⟩ := next_first HCOV.out hpi hq
        exact next_is h2 hlong h3 h4
      have hcell := own_cells31 hro rfl i hlt
      have hall : ∀ j (hj : j < ps.length) t u, (enc31 ps[j])[t]? = some u → wr.cell? ⟨g, j * 3 + t, none⟩ = some u := fun j hj => own_cells31 hro rfl j hj
      rw [hat]
      generalize ps[i] = p at *
      have q0 : wr.cell? ⟨g, i * 3, none⟩ = some (.int .i64 p.f0) := hcell 0 _ rfl
      have q1 : wr.cell? ⟨g, i * 3 + 1, none⟩ = some (.int .i64 p.f1) := hcell 1 _ rfl
      have q2 : wr.cell? ⟨g, i * 3 + 2, none⟩ = some (.int .i64 p.f2) := hcell 2 _ rfl
      have hgs : g < wr.heap.size := own_lt hro g rfl
      have HALL := Lib.hid hall
      have HRO := Lib.hid hro
      have HB := Lib.hid hb
      have HNX := Lib.hid hnx
      have HG0 := Lib.hid hg0
      have HG1 := Lib.hid hg1
      have HGX := Lib.hid hgx
      have HPREV := Lib.hid hprev
      have HCHANGE := Lib.hid hchange
      have hd0 : (p.f0 != p.f0) = false := by simp
      have hd1 : decide (p.f1 ≤ p.f0) = false := by simp; omega
      have HPI := Lib.hid hpi
      clear hall hro hb hnx hg0 hg1 hgx hprev hchange hcell hpi hat hgov
      have hat0 : override_At.f l p.f0 = some p.f2 := (HAT.out _).trans (by rw [HG0.out])
      have hat1 : override_At.f l (p.f1 - 1) = some p.f2 := (HAT.out _).trans (by rw [HG1.out])
      have hck : ∀ V, Below W.heap.size W V → Kd.C k42 V A l.length l := fun V hV => Kd.C_below HC.out hV
      have HAT0 := Lib.hid hat0
      have HAT1 := Lib.hid hat1
      have HCK := Lib.hid hck
      clear hat0 hat1 hck
      have hw1 : IntKind.i64.wrap (p.f1 - 1) = p.f1 - 1 := IntWalk.i64_in _ (by omega)
      have HW1 := Lib.hid hw1
      clear hw1
      go_wp2_with fail
      have hne : (p.f2 != p.f2) = false := by simp
      go_cut [105] (fun s105 wx => s105 = .bool false ∧ Below W.heap.size W wx ∧ wx.ownsRow W.heap.size 31 3 (.slice (some ⟨g, 0, none⟩) ps.length cap) ps.length (ps.flatMap enc31))
      case first =>
        have hw1 := HW1.out
        rcases Nat.eq_zero_or_pos i with hi0 | hi0
        · have hk1 : decide (0 < (i : Int)) = false := by simp; omega
          have hk2 : decide (0 < i) = false := by simp; omega
          have HI0 := Lib.hid hi0
          clear hi0
          have hS0 : wr.drew.cell? ⟨g, i * 3, none⟩ = some (.int .i64 p.f0) ∧ wr.drew.cell? ⟨g, i * 3 + 1, none⟩ = some (.int .i64 p.f1) ∧ wr.drew.cell? ⟨g, i * 3 + 2, none⟩ = some (.int .i64 p.f2) := ⟨q0, q1, q2⟩
          refine wp_region_ord (fun w' => w'.cell? ⟨g, i * 3, none⟩ = some (.int .i64 p.f0) ∧ w'.cell? ⟨g, i * 3 + 1, none⟩ = some (.int .i64 p.f1) ∧ w'.cell? ⟨g, i * 3 + 2, none⟩ = some (.int .i64 p.f2))
            [(0, true), (1, true), (2, true), (3, true), (4, true), (5, true), (6, true), (7, true), (8, true), (9, true), (10, true), (11, true), (12, true), (13, true), (14, true), (15, true), (16, true), (17, true), (18, true), (19, true), (20, true), (21, true), (22, true), (23, true), (24, true), (25, true), (26, true), (27, true), (28, true), (29, true), (30, true), (31, true), (32, true), (33, true), (34, true), (35, true), (36, true), (38, true), (39, true), (40, true), (41, true), (42, true), (37, false), (43, true), (44, true), (45, true), (46, true), (47, true), (48, true), (49, true), (50, true), (51, true), (52, true), (54, true), (55, true), (56, true), (57, true), (58, true), (53, false), (59, true), (60, false)] (by kernel_rfl) (by kernel_rfl) (fun K hK => ?_)
          have HS0 := Lib.hid hS0
          clear hS0
          repeat (first | (refine ord_step rfl rfl HS0.out ?_; apply Exists.intro; refine ⟨fun w' hS => ?_, ?_⟩; (obtain ⟨s1, s2, s3⟩ := hS; go_simp; try rfl); go_simp) | (refine ord_step_on rfl rfl HS0.out ?_; apply Exists.intro; refine ⟨fun w' hS => ?_, ?_⟩; (obtain ⟨s1, s2, s3⟩ := hS; go_simp; try rfl); go_simp) | (refine ord_take_off rfl rfl HS0.out ?_; go_simp))
          refine ord_alone_if rfl (fun K' hK' => ?_)
          refine goes_ Try.func9 (by kernel_rfl) rfl #[.slice A l.length c, .int .i64 (p.f0)] rfl rfl rfl (by go_simp) ?_
          refine (override_At.calls A c l (p.f0) p.f2 _ (HCK.out _ HB.out.drew) hcap HAT0.out).mono ?_
          rintro e v1 ⟨rfl, hbv⟩
          have HBV1 := Lib.hid (HB.out.drew.trans (hbv.mono HB.out.drew.size))
          have HBR1 := Lib.hid (((Below.refl wr.heap.size wr).drew).trans hbv)
          have hS1 : (fun w' => w'.cell? ⟨g, i * 3, none⟩ = some (.int .i64 p.f0) ∧ w'.cell? ⟨g, i * 3 + 1, none⟩ = some (.int .i64 p.f1) ∧ w'.cell? ⟨g, i * 3 + 2, none⟩ = some (.int .i64 p.f2)) v1 := by
            obtain ⟨s1, s2, s3⟩ := HS0.out
            exact ⟨(hbv.cell (p := ⟨g, i * 3, none⟩) (lt_of_cell s1)).trans s1, (hbv.cell (p := ⟨g, i * 3 + 1, none⟩) (lt_of_cell s1)).trans s2, (hbv.cell (p := ⟨g, i * 3 + 2, none⟩) (lt_of_cell s1)).trans s3⟩
          refine ⟨_, rfl, hK' _ _ (fun _ => hS1) ?_⟩
          have HS1 := Lib.hid hS1
          clear hK' K' hbv hS1
          go_simp
          repeat (first | (refine ord_step rfl rfl HS1.out ?_; apply Exists.intro; refine ⟨fun w' hS => ?_, ?_⟩; (obtain ⟨s1, s2, s3⟩ := hS; go_simp; try rfl); go_simp) | (refine ord_step_on rfl rfl HS1.out ?_; apply Exists.intro; refine ⟨fun w' hS => ?_, ?_⟩; (obtain ⟨s1, s2, s3⟩ := hS; go_simp; try rfl); go_simp) | (refine ord_take_off rfl rfl HS1.out ?_; go_simp))
          refine ord_alone_if rfl (fun K' hK' => ?_)
          refine goes_ Try.func9 (by kernel_rfl) rfl #[.slice A l.length c, .int .i64 (p.f1 - 1)] rfl rfl rfl (by go_simp) ?_
          refine (override_At.calls A c l (p.f1 - 1) p.f2 _ (HCK.out _ HBV1.out) hcap HAT1.out).mono ?_
          rintro e v2 ⟨rfl, hbv⟩
          have HBV2 := Lib.hid (HBV1.out.trans (hbv.mono HBV1.out.size))
          have HBVR := Lib.hid (HBR1.out.trans (hbv.mono HBR1.out.size))
          have hS2 : (fun w' => w'.cell? ⟨g, i * 3, none⟩ = some (.int .i64 p.f0) ∧ w'.cell? ⟨g, i * 3 + 1, none⟩ = some (.int .i64 p.f1) ∧ w'.cell? ⟨g, i * 3 + 2, none⟩ = some (.int .i64 p.f2)) v2 := by
            obtain ⟨s1, s2, s3⟩ := HS1.out
            exact ⟨(hbv.cell (p := ⟨g, i * 3, none⟩) (lt_of_cell s1)).trans s1, (hbv.cell (p := ⟨g, i * 3 + 1, none⟩) (lt_of_cell s1)).trans s2, (hbv.cell (p := ⟨g, i * 3 + 2, none⟩) (lt_of_cell s1)).trans s3⟩
          refine ⟨_, rfl, hK' _ _ (fun _ => hS2) ?_⟩
          have HS2 := Lib.hid hS2
          clear hK' K' hbv hS2
          go_simp
          repeat (first | (refine ord_step rfl rfl HS2.out ?_; apply Exists.intro; refine ⟨fun w' hS => ?_, ?_⟩; (obtain ⟨s1, s2, s3⟩ := hS; go_simp; try rfl); go_simp) | (refine ord_step_on rfl rfl HS2.out ?_; apply Exists.intro; refine ⟨fun w' hS => ?_, ?_⟩; (obtain ⟨s1, s2, s3⟩ := hS; go_simp; try rfl); go_simp) | (refine ord_take_off rfl rfl HS2.out ?_; go_simp))
          refine ord_alone_if rfl (fun K' hK' => ?_)
          go_simp
          refine hK' _ _ (fun h => absurd rfl h) (ord_nil (hK _ _ ?_))
          clear hK' K' hK K
          go_wp2_with fail
          go_meet
          exact ⟨rfl, HBV2.out, own_below' HRO.out HBVR.out⟩
        · obtain ⟨m, hm⟩ : ∃ m, i = m + 1 := ⟨i - 1, by omega⟩
          obtain ⟨pp, hpp, hpne⟩ := HPREV.out hi0
          have e1 : (i : Int) - 1 = (m : Int) := by omega
          have hml : (m : Int) < (ps.length : Int) := by omega
          have hw : IntKind.i64.wrap (m : Int) = (m : Int) := IntWalk.i64_in _ (by omega)
          have s2 : wr.cell? ⟨g, m * 3 + 2, none⟩ = some (.int .i64 pp.f2) := by
            have hmm : i - 1 = m := by omega
            rw [hmm] at hpp
            have hlm : m < ps.length := by omega
            rw [List.getElem?_eq_getElem hlm] at hpp
            have := HALL.out m hlm 2 (.int .i64 pp.f2) (by rw [Option.some.inj hpp]; rfl)
            exact this
          have hk1 : decide (0 < (i : Int)) = true := by simp; omega
          have hk2 : decide (0 < i) = true := by simp; omega
          have hpq : (p.f2 == pp.f2) = false := by rw [beq_eq_false_iff_ne]; exact fun h => hpne h.symm
          have HM := Lib.hid hm
          have HI0 := Lib.hid hi0
          clear hm hi0 hpp hpne
          have hS0 : wr.drew.cell? ⟨g, i * 3, none⟩ = some (.int .i64 p.f0) ∧ wr.drew.cell? ⟨g, i * 3 + 1, none⟩ = some (.int .i64 p.f1) ∧ wr.drew.cell? ⟨g, i * 3 + 2, none⟩ = some (.int .i64 p.f2) ∧ wr.drew.cell? ⟨g, m * 3 + 2, none⟩ = some (.int .i64 pp.f2) := ⟨q0, q1, q2, s2⟩
          refine wp_region_ord (fun w' => w'.cell? ⟨g, i * 3, none⟩ = some (.int .i64 p.f0) ∧ w'.cell? ⟨g, i * 3 + 1, none⟩ = some (.int .i64 p.f1) ∧ w'.cell? ⟨g, i * 3 + 2, none⟩ = some (.int .i64 p.f2) ∧ w'.cell? ⟨g, m * 3 + 2, none⟩ = some (.int .i64 pp.f2))
            [(0, true), (1, true), (2, true), (3, true), (4, true), (5, true), (6, true), (7, true), (8, true), (9, true), (10, true), (11, true), (12, true), (13, true), (14, true), (15, true), (16, true), (17, true), (18, true), (19, true), (20, true), (21, true), (22, true), (23, true), (24, true), (25, true), (26, true), (27, true), (28, true), (29, true), (30, true), (31, true), (32, true), (33, true), (34, true), (35, true), (36, true), (38, true), (39, true), (40, true), (41, true), (42, true), (37, false), (43, true), (44, true), (45, true), (46, true), (47, true), (48, true), (49, true), (50, true), (51, true), (52, true), (54, true), (55, true), (56, true), (57, true), (58, true), (53, false), (59, true), (60, false)] (by kernel_rfl) (by kernel_rfl) (fun K hK => ?_)
          have HS0 := Lib.hid hS0
          clear hS0
          repeat (first | (refine ord_step rfl rfl HS0.out ?_; apply Exists.intro; refine ⟨fun w' hS => ?_, ?_⟩; (obtain ⟨s1, s2, s3, s4⟩ := hS; go_simp; try rfl); go_simp) | (refine ord_step_on rfl rfl HS0.out ?_; apply Exists.intro; refine ⟨fun w' hS => ?_, ?_⟩; (obtain ⟨s1, s2, s3, s4⟩ := hS; go_simp; try rfl); go_simp) | (refine ord_take_off rfl rfl HS0.out ?_; go_simp))
          refine ord_alone_if rfl (fun K' hK' => ?_)
          refine goes_ Try.func9 (by kernel_rfl) rfl #[.slice A l.length c, .int .i64 (p.f0)] rfl rfl rfl (by go_simp) ?_
          refine (override_At.calls A c l (p.f0) p.f2 _ (HCK.out _ HB.out.drew) hcap HAT0.out).mono ?_
          rintro e v1 ⟨rfl, hbv⟩
          have HBV1 := Lib.hid (HB.out.drew.trans (hbv.mono HB.out.drew.size))
          have HBR1 := Lib.hid (((Below.refl wr.heap.size wr).drew).trans hbv)
          have hS1 : (fun w' => w'.cell? ⟨g, i * 3, none⟩ = some (.int .i64 p.f0) ∧ w'.cell? ⟨g, i * 3 + 1, none⟩ = some (.int .i64 p.f1) ∧ w'.cell? ⟨g, i * 3 + 2, none⟩ = some (.int .i64 p.f2) ∧ w'.cell? ⟨g, m * 3 + 2, none⟩ = some (.int .i64 pp.f2)) v1 := by
            obtain ⟨s1, s2, s3, s4⟩ := HS0.out
            exact ⟨(hbv.cell (p := ⟨g, i * 3, none⟩) (lt_of_cell s1)).trans s1, (hbv.cell (p := ⟨g, i * 3 + 1, none⟩) (lt_of_cell s1)).trans s2, (hbv.cell (p := ⟨g, i * 3 + 2, none⟩) (lt_of_cell s1)).trans s3, (hbv.cell (p := ⟨g, m * 3 + 2, none⟩) (lt_of_cell s1)).trans s4⟩
          refine ⟨_, rfl, hK' _ _ (fun _ => hS1) ?_⟩
          have HS1 := Lib.hid hS1
          clear hK' K' hbv hS1
          go_simp
          repeat (first | (refine ord_step rfl rfl HS1.out ?_; apply Exists.intro; refine ⟨fun w' hS => ?_, ?_⟩; (obtain ⟨s1, s2, s3, s4⟩ := hS; go_simp; try rfl); go_simp) | (refine ord_step_on rfl rfl HS1.out ?_; apply Exists.intro; refine ⟨fun w' hS => ?_, ?_⟩; (obtain ⟨s1, s2, s3, s4⟩ := hS; go_simp; try rfl); go_simp) | (refine ord_take_off rfl rfl HS1.out ?_; go_simp))
          refine ord_alone_if rfl (fun K' hK' => ?_)
          refine goes_ Try.func9 (by kernel_rfl) rfl #[.slice A l.length c, .int .i64 (p.f1 - 1)] rfl rfl rfl (by go_simp) ?_
          refine (override_At.calls A c l (p.f1 - 1) p.f2 _ (HCK.out _ HBV1.out) hcap HAT1.out).mono ?_
          rintro e v2 ⟨rfl, hbv⟩
          have HBV2 := Lib.hid (HBV1.out.trans (hbv.mono HBV1.out.size))
          have HBVR := Lib.hid (HBR1.out.trans (hbv.mono HBR1.out.size))
          have hS2 : (fun w' => w'.cell? ⟨g, i * 3, none⟩ = some (.int .i64 p.f0) ∧ w'.cell? ⟨g, i * 3 + 1, none⟩ = some (.int .i64 p.f1) ∧ w'.cell? ⟨g, i * 3 + 2, none⟩ = some (.int .i64 p.f2) ∧ w'.cell? ⟨g, m * 3 + 2, none⟩ = some (.int .i64 pp.f2)) v2 := by
            obtain ⟨s1, s2, s3, s4⟩ := HS1.out
            exact ⟨(hbv.cell (p := ⟨g, i * 3, none⟩) (lt_of_cell s1)).trans s1, (hbv.cell (p := ⟨g, i * 3 + 1, none⟩) (lt_of_cell s1)).trans s2, (hbv.cell (p := ⟨g, i * 3 + 2, none⟩) (lt_of_cell s1)).trans s3, (hbv.cell (p := ⟨g, m * 3 + 2, none⟩) (lt_of_cell s1)).trans s4⟩
          refine ⟨_, rfl, hK' _ _ (fun _ => hS2) ?_⟩
          have HS2 := Lib.hid hS2
          clear hK' K' hbv hS2
          go_simp
          repeat (first | (refine ord_step rfl rfl HS2.out ?_; apply Exists.intro; refine ⟨fun w' hS => ?_, ?_⟩; (obtain ⟨s1, s2, s3, s4⟩ := hS; go_simp; try rfl); go_simp) | (refine ord_step_on rfl rfl HS2.out ?_; apply Exists.intro; refine ⟨fun w' hS => ?_, ?_⟩; (obtain ⟨s1, s2, s3, s4⟩ := hS; go_simp; try rfl); go_simp) | (refine ord_take_off rfl rfl HS2.out ?_; go_simp))
          refine ord_alone_if rfl (fun K' hK' => ?_)
          go_simp
          refine hK' _ _ (fun h => absurd rfl h) (ord_nil (hK _ _ ?_))
          clear hK' K' hK K
          go_wp2_with fail
          go_meet
          exact ⟨rfl, HBV2.out, own_below' HRO.out HBVR.out⟩
      case rest =>
        obtain ⟨rfl, hbx, hrx⟩ := hcut
        have hlp : ps[i]'hlt = p := by
          have := HPI.out
          rw [List.getElem?_eq_getElem hlt] at this
          exact Option.some.inj this
        have hcx := own_cells31 hrx rfl i hlt
        rw [hlp] at hcx
        clear q0 q1 q2
        have q0 := hcx 0 (.int .i64 p.f0) rfl
        have q1 := hcx 1 (.int .i64 p.f1) rfl
        have q2 := hcx 2 (.int .i64 p.f2) rfl
        rw [Nat.add_zero] at q0
        have HBX := Lib.hid hbx
        have HRX := Lib.hid hrx
        clear hcx hlp hbx hrx
        go_wp2_with fail
        go_cut [132] (fun s132 wy => s132 = .bool false ∧ Below W.heap.size W wy ∧ wy.ownsRow W.heap.size 31 3 (.slice (some ⟨g, 0, none⟩) ps.length cap) ps.length (ps.flatMap enc31))
        case first =>
          by_cases h2 : p.f0 ≤ x
          · by_cases h3 : x < p.f1
            · have hatx : override_At.f l x = some p.f2 := (HAT.out _).trans (by rw [HGX.out h2 h3])
              have HATX := Lib.hid hatx
              clear hatx
              have hS0 : (World.drew _).cell? ⟨g, i * 3, none⟩ = some (.int .i64 p.f0) ∧ (World.drew _).cell? ⟨g, i * 3 + 1, none⟩ = some (.int .i64 p.f1) ∧ (World.drew _).cell? ⟨g, i * 3 + 2, none⟩ = some (.int .i64 p.f2) := ⟨q0, q1, q2⟩
              refine wp_region_ord (fun w' => w'.cell? ⟨g, i * 3, none⟩ = some (.int .i64 p.f0) ∧ w'.cell? ⟨g, i * 3 + 1, none⟩ = some (.int .i64 p.f1) ∧ w'.cell? ⟨g, i * 3 + 2, none⟩ = some (.int .i64 p.f2))
                [(0, true), (1, true), (2, true), (3, true), (4, true), (5, true), (6, true), (7, true), (8, true), (9, true), (10, true), (11, true), (12, true), (13, true), (14, true), (15, true), (16, true), (17, true), (18, true), (20, true), (21, true), (22, true), (23, true), (24, true), (19, false), (25, true), (26, false)] (by kernel_rfl) (by kernel_rfl) (fun K hK => ?_)
              have HS0 := Lib.hid hS0
              clear hS0
              repeat (first | (refine ord_step rfl rfl HS0.out ?_; apply Exists.intro; refine ⟨fun w' hS => ?_, ?_⟩; (obtain ⟨s1, s2, s3⟩ := hS; go_simp; try rfl); go_simp) | (refine ord_step_on rfl rfl HS0.out ?_; apply Exists.intro; refine ⟨fun w' hS => ?_, ?_⟩; (obtain ⟨s1, s2, s3⟩ := hS; go_simp; try rfl); go_simp) | (refine ord_take_off rfl rfl HS0.out ?_; go_simp))
              refine ord_alone_if rfl (fun K' hK' => ?_)
              refine goes_ Try.func9 (by kernel_rfl) rfl #[.slice A l.length c, .int .i64 x] rfl rfl rfl (by go_simp) ?_
              refine (override_At.calls A c l x p.f2 _ (HCK.out _ HBX.out.drew) hcap HATX.out).mono ?_
              rintro e v1 ⟨rfl, hbv⟩
              have HBV1 := Lib.hid (HBX.out.drew.trans (hbv.mono HBX.out.drew.size))
              have HRV := Lib.hid (own_below' (own_below' HRX.out (Below.refl _ _).drew) hbv)
              have hS1 : (fun w' => w'.cell? ⟨g, i * 3, none⟩ = some (.int .i64 p.f0) ∧ w'.cell? ⟨g, i * 3 + 1, none⟩ = some (.int .i64 p.f1) ∧ w'.cell? ⟨g, i * 3 + 2, none⟩ = some (.int .i64 p.f2)) v1 := by
                obtain ⟨s1, s2, s3⟩ := HS0.out
                exact ⟨(hbv.cell (p := ⟨g, i * 3, none⟩) (lt_of_cell s1)).trans s1, (hbv.cell (p := ⟨g, i * 3 + 1, none⟩) (lt_of_cell s1)).trans s2, (hbv.cell (p := ⟨g, i * 3 + 2, none⟩) (lt_of_cell s1)).trans s3⟩
              refine ⟨_, rfl, hK' _ _ (fun _ => hS1) ?_⟩
              have HS1 := Lib.hid hS1
              clear hK' K' hbv hS1
              go_simp
              repeat (first | (refine ord_step rfl rfl HS1.out ?_; apply Exists.intro; refine ⟨fun w' hS => ?_, ?_⟩; (obtain ⟨s1, s2, s3⟩ := hS; go_simp; try rfl); go_simp) | (refine ord_step_on rfl rfl HS1.out ?_; apply Exists.intro; refine ⟨fun w' hS => ?_, ?_⟩; (obtain ⟨s1, s2, s3⟩ := hS; go_simp; try rfl); go_simp) | (refine ord_take_off rfl rfl HS1.out ?_; go_simp))
              refine ord_alone_if rfl (fun K' hK' => ?_)
              go_simp
              refine hK' _ _ (fun h => absurd rfl h) (ord_nil (hK _ _ ?_))
              clear hK' K' hK K
              go_wp2_with fail
              go_meet
              exact ⟨rfl, HBV1.out, HRV.out⟩
            · have d3 : decide (x < p.f1) = false := by simpa using h3
              have hS0 : (World.drew _).cell? ⟨g, i * 3, none⟩ = some (.int .i64 p.f0) ∧ (World.drew _).cell? ⟨g, i * 3 + 1, none⟩ = some (.int .i64 p.f1) ∧ (World.drew _).cell? ⟨g, i * 3 + 2, none⟩ = some (.int .i64 p.f2) := ⟨q0, q1, q2⟩
              refine wp_region_ord (fun w' => w'.cell? ⟨g, i * 3, none⟩ = some (.int .i64 p.f0) ∧ w'.cell? ⟨g, i * 3 + 1, none⟩ = some (.int .i64 p.f1) ∧ w'.cell? ⟨g, i * 3 + 2, none⟩ = some (.int .i64 p.f2))
                [(0, true), (1, true), (2, true), (3, true), (4, true), (5, true), (6, true), (7, true), (8, true), (9, true), (10, true), (11, true), (12, true), (13, true), (14, true), (15, true), (16, true), (17, true), (18, true), (20, true), (21, true), (22, true), (23, true), (24, true), (19, false), (25, true), (26, false)] (by kernel_rfl) (by kernel_rfl) (fun K hK => ?_)
              have HS0 := Lib.hid hS0
              clear hS0
              repeat (first | (refine ord_step rfl rfl HS0.out ?_; apply Exists.intro; refine ⟨fun w' hS => ?_, ?_⟩; (obtain ⟨s1, s2, s3⟩ := hS; go_simp; try rfl); go_simp) | (refine ord_step_on rfl rfl HS0.out ?_; apply Exists.intro; refine ⟨fun w' hS => ?_, ?_⟩; (obtain ⟨s1, s2, s3⟩ := hS; go_simp; try rfl); go_simp) | (refine ord_take_off rfl rfl HS0.out ?_; go_simp))
              refine ord_alone_if rfl (fun K' hK' => ?_)
              refine (if_neg (show ¬ _ = true from Bool.false_ne_true)).mpr ?_
              refine hK' _ _ (fun _ => HS0.out) ?_
              clear hK' K'
              go_simp
              repeat (first | (refine ord_step rfl rfl HS0.out ?_; apply Exists.intro; refine ⟨fun w' hS => ?_, ?_⟩; (obtain ⟨s1, s2, s3⟩ := hS; go_simp; try rfl); go_simp) | (refine ord_step_on rfl rfl HS0.out ?_; apply Exists.intro; refine ⟨fun w' hS => ?_, ?_⟩; (obtain ⟨s1, s2, s3⟩ := hS; go_simp; try rfl); go_simp) | (refine ord_take_off rfl rfl HS0.out ?_; go_simp))
              refine ord_alone_if rfl (fun K' hK' => ?_)
              go_simp
              refine hK' _ _ (fun h => absurd rfl h) (ord_nil (hK _ _ ?_))
              clear hK' K' hK K
              go_wp2_with fail
              go_meet
              exact ⟨rfl, HBX.out.drew, own_below' HRX.out (Below.refl _ _).drew⟩
          · have d2 : decide (p.f0 ≤ x) = false := by simpa using h2
            have hS0 : (World.drew _).cell? ⟨g, i * 3, none⟩ = some (.int .i64 p.f0) ∧ (World.drew _).cell? ⟨g, i * 3 + 1, none⟩ = some (.int .i64 p.f1) ∧ (World.drew _).cell? ⟨g, i * 3 + 2, none⟩ = some (.int .i64 p.f2) := ⟨q0, q1, q2⟩
            refine wp_region_ord (fun w' => w'.cell? ⟨g, i * 3, none⟩ = some (.int .i64 p.f0) ∧ w'.cell? ⟨g, i * 3 + 1, none⟩ = some (.int .i64 p.f1) ∧ w'.cell? ⟨g, i * 3 + 2, none⟩ = some (.int .i64 p.f2))
              [(0, true), (1, true), (2, true), (3, true), (4, true), (5, true), (6, true), (7, true), (8, true), (9, true), (10, true), (11, true), (12, true), (13, true), (14, true), (15, true), (16, true), (17, true), (18, true), (20, true), (21, true), (22, true), (23, true), (24, true), (19, false), (25, true), (26, false)] (by kernel_rfl) (by kernel_rfl) (fun K hK => ?_)
            have HS0 := Lib.hid hS0
            clear hS0
            repeat (first | (refine ord_step rfl rfl HS0.out ?_; apply Exists.intro; refine ⟨fun w' hS => ?_, ?_⟩; (obtain ⟨s1, s2, s3⟩ := hS; go_simp; try rfl); go_simp) | (refine ord_step_on rfl rfl HS0.out ?_; apply Exists.intro; refine ⟨fun w' hS => ?_, ?_⟩; (obtain ⟨s1, s2, s3⟩ := hS; go_simp; try rfl); go_simp) | (refine ord_take_off rfl rfl HS0.out ?_; go_simp))
            refine ord_alone_if rfl (fun K' hK' => ?_)
            refine (if_neg (show ¬ _ = true from Bool.false_ne_true)).mpr ?_
            refine hK' _ _ (fun _ => HS0.out) ?_
            clear hK' K'
            go_simp
            repeat (first | (refine ord_step rfl rfl HS0.out ?_; apply Exists.intro; refine ⟨fun w' hS => ?_, ?_⟩; (obtain ⟨s1, s2, s3⟩ := hS; go_simp; try rfl); go_simp) | (refine ord_step_on rfl rfl HS0.out ?_; apply Exists.intro; refine ⟨fun w' hS => ?_, ?_⟩; (obtain ⟨s1, s2, s3⟩ := hS; go_simp; try rfl); go_simp) | (refine ord_take_off rfl rfl HS0.out ?_; go_simp))
            refine ord_alone_if rfl (fun K' hK' => ?_)
            go_simp
            refine hK' _ _ (fun h => absurd rfl h) (ord_nil (hK _ _ ?_))
            clear hK' K' hK K
            go_wp2_with fail
            go_meet
            exact ⟨rfl, HBX.out.drew, own_below' HRX.out (Below.refl _ _).drew⟩
        case rest =>
          obtain ⟨rfl, hby, hry⟩ := hcut
          have hcy := own_cells31 hry rfl i hlt
          have hlp : ps[i]'hlt = p := by
            have := HPI.out
            rw [List.getElem?_eq_getElem hlt] at this
            exact Option.some.inj this
          rw [hlp] at hcy
          clear q0 q1 q2
          have q1 := hcy 1 (.int .i64 p.f1) rfl
          have hnf := HNEXT.out p.f0
          have hch := HCHANGE.out
          generalize nextOf l p.f0 (Go.Proofs.Ytaglmfhpbbpleaa.G.gov l p.f0) (endsP l) = no at hnf hch
          obtain ⟨n1, f1⟩ := no
          have HNF := Lib.hid hnf
          have HBY := Lib.hid hby
          have HRY := Lib.hid hry
          have HCH := Lib.hid hch
          clear hcy hlp hby hry hnf hch
          go_wp2_with fail
          refine (override_Next.calls 200 A c l p.f0 n1 f1 _ (HCK.out _ HBY.out) hcap HNF.out).mono ?_
          rintro e w7 ⟨rfl, hb7⟩
          have q1' : w7.cell? ⟨g, i * 3 + 1, none⟩ = some (.int .i64 p.f1) := (hb7.cell (p := ⟨g, i * 3 + 1, none⟩) (lt_of_cell q1)).trans q1
          have HR7 := Lib.hid (own_below' HRY.out hb7)
          have HB7 := Lib.hid (HBY.out.trans (hb7.mono HBY.out.size))
          clear hb7 q1
          by_cases hn1 : i + 1 < ps.length
          · have hcc := HCH.out hn1
            simp only [Prod.mk.injEq] at hcc
            obtain ⟨rfl, rfl⟩ := hcc
            have hn2 : (i : Int) + 1 < (ps.length : Int) := by omega
            have hne2 : (p.f1 != p.f1) = false := by simp
            go_wp2_with fail
            exact ⟨⟨i + 1, by omega, by go_num, by rw [HNX.out], HR7.out, HB7.out⟩, by simp [intOf]; omega⟩
          · have hn2 : decide ((i : Int) + 1 < (ps.length : Int)) = false := by simp; omega
            go_wp2_with fail
            exact ⟨⟨i + 1, by omega, by go_num, by rw [HNX.out], HR7.out, HB7.out⟩, by simp [intOf]; omega⟩
    · have hil : i = ps.length := by omega
      subst hil
      have HB := Lib.hid hb
      rw [atOf_end]
      clear hro hb
      go_wp2_with fail
      go_ret
      exact ⟨by simp, HB.out⟩
end Go.Proofs.Ytaglmfhpbbpleaa.G
