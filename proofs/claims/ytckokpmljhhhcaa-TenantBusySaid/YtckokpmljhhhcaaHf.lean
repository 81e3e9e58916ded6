/- A part of the proofs over the tenants of a page cache: lemmas on what is known of the memory, and contracts of the Go functions. -/
import Derived.Test.YtckokpmljhhhcaaHo6
set_option linter.unusedVariables false
set_option linter.unusedSimpArgs false
namespace Go.H
open Go
/-- what a call leaves alone: all that a wider heap knows besides -/
theorem HT.frame {P : Program} {f : FuncId} {args : Array Value} {H G : Hp} {Q : Value → Hp → Prop} (s : Sub H G) (h : HT P f args H Q) :
    HT P f args G (fun v G' => ∃ H', Q v H' ∧ Sub H' G' ∧ ∀ b x, H b = none → G b = some x → H' b = none ∧ G' b = some x) := by
  intro w hA
  refine Calls.mono (h w (hA.sub s)) ?_
  rintro e w' ⟨v, H', rfl, hQ, ag, kp⟩
  have hfr : ∀ b x, H b = none → G b = some x → H' b = none ∧ w'.heap[b]? = some x := by
    intro b x hb hx
    have hlt := hA.lt hx
    refine ⟨?_, by rw [kp.same b hlt hb]; exact hA b x hx⟩
    cases hh : H' b with
    | none => rfl
    | some o =>
      have := kp.new b hb (by rw [hh]; simp)
      omega
  refine ⟨v, fun b => if H b = none ∧ G b ≠ none then G b else H' b, rfl, ⟨H', hQ, ?_, ?_⟩, ?_, ?_⟩
  · intro b o ho
    by_cases c : H b = none ∧ G b ≠ none
    · cases hg : G b with
      | none => exact absurd hg c.2
      | some x => rw [(hfr b x c.1 hg).1] at ho; cases ho
    · show (if _ then _ else _) = _
      rw [if_neg c]; exact ho
  · intro b x hb hx
    refine ⟨(hfr b x hb hx).1, ?_⟩
    show (if _ then _ else _) = _
    rw [if_pos ⟨hb, by rw [hx]; simp⟩]; exact hx
  · intro b o ho
    replace ho : (if H b = none ∧ G b ≠ none then G b else H' b) = some o := ho
    by_cases c : H b = none ∧ G b ≠ none
    · rw [if_pos c] at ho
      exact (hfr b o c.1 ho).2
    · rw [if_neg c] at ho; exact ag b o ho
  · refine ⟨kp.size, fun b hb hg => ?_, fun b hg hn => ?_, kp.tape, kp.os, kp.output⟩
    · refine kp.same b hb ?_
      cases hh : H b with
      | none => rfl
      | some o => rw [s b o hh] at hg; cases hg
    · have hh : H b = none := by
        cases hh : H b with
        | none => rfl
        | some o => rw [s b o hh] at hg; cases hg
      refine kp.new b hh ?_
      intro h0
      apply hn
      show (if _ then _ else _) = _
      by_cases c : H b = none ∧ G b ≠ none
      · exact absurd hg c.2
      · rw [if_neg c]; exact h0
end Go.H
