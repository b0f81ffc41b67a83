/-
  OverrideCovers returns true: all its ways joined. Conditions: where the list lies, and that the span's ends are Go's int.
-/
import Derived.Test.YtaglmfhpbbpleaaCov
import Derived.OpenShut
namespace Go.Proofs.Ytaglmfhpbbpleaa.G
open Go.RowKit Go.Proofs.YtaglmfhpbbpleaaW.PrintWords Go.Proofs.YtaglmfhpbbpleaaW.PrintLast

theorem covers_any (l : List S42) (A : Option Addr) (c : Nat) (a b x : Int) (W : World) (hC : Kd.C k42 W A l.length l) (hcap : l.length ≤ c) (ha : (Lit.int .i64 a).wf = true) (hb : (Lit.int .i64 b).wf = true) : Cov3 l A c a b x W := by
  obtain ⟨r, hr⟩ := few_total l
  cases r with
  | false => exact cov_many l A c a b x W hC hcap hr
  | true =>
    by_cases h1 : b < a
    · exact cov_back l A c a b x W hC hcap hr h1
    by_cases h0 : chk l = 0
    · by_cases h2 : a = b
      · exact cov_none l A c a b x W hC hcap hr h0 h2
      · have e1 : -9223372036854775808 ≤ a := by
          simp [Lit.wf, IntKind.min, IntKind.max, IntKind.signed, IntKind.bits] at ha; omega
        have e2 : b ≤ 9223372036854775807 := by
          simp [Lit.wf, IntKind.min, IntKind.max, IntKind.signed, IntKind.bits] at hb; omega
        exact cov_ok l A c a b x W hC hcap hr h0 (by omega) e1 e2
    · exact cov_bad l A c a b x W hC hcap hr h1 h0
end Go.Proofs.Ytaglmfhpbbpleaa.G
