/-
  The best orders, one by one: lists and maps that are handed on.
-/
import Derived.Test.YtamljcdnphjgaaaPp
import Derived.Test.YtamljcdnphjgaaaPn
import Derived.Test.YtamljcdnphjgaaaGh

set_option linter.all false
set_option linter.deprecated false
set_option linter.unusedSimpArgs false
set_option linter.unusedVariables false

namespace Go.Gx.A
open Go.Gx Go.Proofs
set_option maxRecDepth 100000
set_option linter.all false
set_option maxHeartbeats 4000000
abbrev enc (p : St × Cost) : (Int × Int) × Value := (((p.1.1 : Int), p.1.2), cV p.2)
end Go.Gx.A

/-
  The best orders, one by one: following a beginning.
-/
namespace Go.Gx.A
open Go.Gx Go.Proofs
set_option maxRecDepth 100000
set_option linter.all false
set_option maxHeartbeats 4000000
structure FV where
  v : TkV
  l : Nat
  ct : Nat
  cy : Nat
  cT : Nat
  cf : Nat
  B : Nat
def dsOf (ns : List Nat) : List Deferred := ns.map fun n => { target := .collected n, args := #[] }
theorem drain_ok : ∀ (ns : List Nat) (S : AS), ns.Nodup → (∀ n ∈ ns, S.get n = some (.defd (some []))) → ∃ S', drain (dsOf ns) S = some S' ∧ Same S S' ns ∧ S'.next = S.next
  | [], S, _, _ => ⟨S, rfl, .refl _ _, rfl⟩
  | n :: ns, S, hn, h => by
    rw [List.nodup_cons] at hn
    obtain ⟨S', h1, h2, h3⟩ := drain_ok ns (S.put n (.defd none)) hn.2 (fun m hm => by rw [AS.get_put_ne _ _ (by rintro rfl; exact hn.1 hm)]; exact h m (by simp [hm]))
    refine ⟨S', ?_, ((same_put S n _).mono (by simp)).trans h2 (fun m hm _ => by simp [hm]), h3⟩
    show drain ({ target := .collected n, args := #[] } :: dsOf ns) S = some S'
    rw [drain_cons (h n (by simp))]; exact h1
section
variable {x : FV} {c : Cg} {ords : List (List Int)} {fpc : List Nat} {I : Nat → AS → Prop} {D : AS → Prop}
end
end Go.Gx.A
