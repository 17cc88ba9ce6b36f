/- The document's answer, all kinds. -/
import Derived.Test.YtjaecdcddmohoaaAns0
import Derived.Test.YtjaecdcddmohoaaAns1
import Derived.Test.YtjaecdcddmohoaaAns2
import Derived.Test.YtjaecdcddmohoaaAns3
import Derived.Test.YtjaecdcddmohoaaAns4
namespace Go.Proofs.Ytjaecdcddmohoaa
open Go.RowKit
theorem answer_any {M : P.Md} {m : Nat} {log : List P.De} (hsim : P.Sim M m log) {c : Nat} {pg : Nat} (hpg : M.pages = (pg : Int)) {ao : Option Addr} {cap : Nat} (hn : log.length ≤ 900) (hm : m ≤ 900) {cl : P.Cl} (hc : ClOk cl) (w : World) (h : RefAt w c (pg : Int) M.max ao cap log) :
    Calls Try.prog 20 #[.pointer (some ⟨c, 0, none⟩), .agg (clA cl)] w fun e w' => e = .returned (.agg (rpA (P.step M cl).2)) ∧ Below w.heap.size w w' := by
  by_cases h1 : cl.kind = 1
  · exact answer_1 hsim hpg hn hm hc h1 w h
  by_cases h2 : cl.kind = 2
  · exact answer_2 hsim hpg hn hm hc h2 w h
  by_cases h3 : cl.kind = 3
  · exact answer_3 hsim hpg hn hm hc h3 w h
  by_cases h4 : cl.kind = 4
  · exact answer_4 hsim hpg hn hm hc h4 w h
  exact answer_0 hsim hpg hn hm hc (by omega) w h
end Go.Proofs.Ytjaecdcddmohoaa
