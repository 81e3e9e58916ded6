/- A part of the proofs over the tenants of a page cache: lemmas on what is known of the memory, and contracts of the Go functions. -/
import Derived.Test.YtckokpmljhhhcaaHp
import Derived.OrdersHeld
import Derived.Scope
import Derived.Deep.LoopGhost
set_option linter.unusedVariables false
set_option linter.unusedSimpArgs false
namespace Go.H
open Go
section
variable {P : Program} {ops : Array Oper} {Q : Exit → Act → World → Prop} {md : Region.Mode} {S : World → Prop}
/-- an operation that every other one of its region comes before -/
def ender (md : Region.Mode) (ops : Array Oper) (j : Nat) : Bool :=
  (List.range ops.size).all fun k => k == j || (List.range ops.size).any fun m => decide (k < m) && match ops[m]? with
    | some o => o.after.any fun e => Region.binds md e && e.on == k
    | none => false
/-- what is listed has all listed that it waits for -/
def shut (md : Region.Mode) (ops : Array Oper) (listed : Array Bool) : Prop :=
  ∀ x o, ops[x]? = some o → listed.getD x false = true → ∀ e ∈ o.after, Region.binds md e = true → listed.getD e.on false = true
theorem shut_zero (n : Nat) : shut md ops (Array.replicate n false) := by
  intro x o _ h
  by_cases hx : x < n <;> simp [hx] at h
theorem getD_set_same {listed : Array Bool} {i : Nat} (h : (listed.setIfInBounds i true).getD i false = true ∨ True) (x : Nat) : (listed.setIfInBounds i true).getD x false = true → x = i ∨ listed.getD x false = true := by
  intro hx
  by_cases e : x = i
  · exact .inl e
  · exact .inr (by rw [getD_set_ne false (Ne.symm e)] at hx; exact hx)
theorem shut_set {listed : Array Bool} {i : Nat} (h : shut md ops listed) (hi : i ∈ Region.ready md ops listed) : shut md ops (listed.setIfInBounds i true) := by
  intro x o ho hx e he hb
  obtain ⟨_, oi, hoi, hall⟩ := mem_ready.1 hi
  rcases getD_set_same (.inr trivial) x hx with rfl | hx
  · rw [ho] at hoi; cases hoi
    exact getD_set_true (hall e he hb)
  · exact getD_set_true (h x o ho hx e he hb)
theorem unlisted {listed : Array Bool} {i : Nat} (h : listed.getD i true = false) : listed.getD i false = false := by
  rcases Nat.lt_or_ge i listed.size with h' | h'
  · simpa [h'] using h
  · simp [Array.getElem?_eq_none h'] at h
theorem ender_last {listed : Array Bool} {j : Nat} (he : ender md ops j = true) (hs : shut md ops listed) (hj : j ∈ Region.ready md ops listed) :
    ∀ n i, ops.size - i = n → i < ops.size → i ≠ j → listed.getD i false = true := by
  intro n
  induction n using Nat.strongRecOn with
  | ind n ih =>
    intro i hn hi hne
    have h1 := List.all_eq_true.1 he i (by simpa using hi)
    simp only [Bool.or_eq_true, beq_iff_eq, hne, false_or, List.any_eq_true, List.mem_range, Bool.and_eq_true, decide_eq_true_eq] at h1
    obtain ⟨m, hm, hlt, hx⟩ := h1
    obtain ⟨o, ho⟩ : ∃ o, ops[m]? = some o := ⟨_, Array.getElem?_eq_getElem hm⟩
    rw [ho] at hx
    obtain ⟨e, hmem, hb⟩ := Array.any_eq_true'.1 hx
    simp only [Bool.and_eq_true, beq_iff_eq] at hb
    obtain ⟨hb, rfl⟩ := hb
    by_cases hmj : m = j
    · subst hmj
      obtain ⟨_, oj, hoj, hall⟩ := mem_ready.1 hj
      rw [ho] at hoj; cases hoj
      exact hall e hmem hb
    · exact hs m o ho (ih (ops.size - m) (by omega) m rfl hm hmj) e hmem hb
/-- whatever order is picked, and S holds behind every operation but an ender -/
def wpL (P : Program) (md : Region.Mode) (ops : Array Oper) (Q : Exit → Act → World → Prop) (S : World → Prop) : Nat → Array Bool → Act → World → Prop
  | 0, listed, a, w => Region.ready md ops listed = [] ∧ Q .normal a w
  | fuel + 1, listed, a, w =>
    (Region.ready md ops listed = [] → Q .normal a w) ∧
    ∀ i ∈ Region.ready md ops listed, wpOp P ops Q i (fun a' w' => (ender md ops i = false → S w') ∧ wpL P md ops Q S fuel (listed.setIfInBounds i true) a' w') a w
theorem wpL_any : ∀ (fuel : Nat) (listed : Array Bool) (a : Act) (w : World), wpL P md ops Q S fuel listed a w → wpAny P md ops Q fuel listed a w
  | 0, _, _, _, h => h
  | fuel + 1, _, _, _, h => ⟨h.1, fun i hi => wpOp_mono (fun a' w' h' => wpL_any fuel _ a' w' h'.2) (h.2 i hi)⟩
theorem wpL_first {i : Nat} {oi : Oper} {v : Value} (hi : ops[i]? = some oi) (hsel : ∀ (j : Nat) (o : Oper) cs b, ops[j]? = some o → o.op ≠ .select cs b)
    (hQ : ∀ c a w, Q (.panic c) (a.put oi.dst v) w → Q (.panic c) a w) :
    ∀ (fuel : Nat) (listed : Array Bool) (a : Act) (w : World), shut md ops listed →
      (∀ j oj, ops[j]? = some oj → j ≠ i → listed.getD j true = false → (∀ e ∈ oj.after, Region.binds md e = true → e.on ≠ i) → oi.apart ops oj = true) →
      i ∈ Region.ready md ops listed → YieldsIf P ops S oi v a → S w →
      wpL P md ops Q S fuel (listed.setIfInBounds i true) (a.put oi.dst v) w → wpL P md ops Q S (fuel + 1) listed a w := by
  intro fuel
  induction fuel with
  | zero =>
    intro listed a w _ _ hr hy hS H
    refine ⟨fun h => (by rw [h] at hr; cases hr), fun j hj => ?_⟩
    by_cases hji : j = i
    · subst hji; exact hy.wpOp hi hS ⟨fun _ => hS, H⟩
    · have := ready_mono hj hji
      rw [H.1] at this
      cases this
  | succ fuel ih =>
    intro listed a w hsh hfree hr hy hS H
    refine ⟨fun h => (by rw [h] at hr; cases hr), fun j hj => ?_⟩
    by_cases hji : j = i
    · subst hji; exact hy.wpOp hi hS ⟨fun _ => hS, H⟩
    · have h1 := H.2 j (ready_mono hj hji)
      obtain ⟨hjun, oj, hoj, hall⟩ := mem_ready.1 hj
      have hun0 := unlisted (mem_ready.1 hr).1
      have hnot : ∀ e ∈ oj.after, Region.binds md e = true → e.on ≠ i := fun e he hb heq => by
        have h1 := hall e he hb
        rw [heq, hun0] at h1; cases h1
      have hne : ender md ops j = false := by
        cases h : ender md ops j with
        | false => rfl
        | true =>
          have := ender_last h hsh hj _ i rfl (Array.getElem?_eq_some_iff.1 hi).1 (Ne.symm hji)
          rw [hun0] at this; cases this
      have h2 := wpOp_putIf hoj (hfree j oj hoj hji hjun hnot) (fun cs b => hsel i oi cs b hi) (fun cs b => hsel j oj cs b hoj) hQ hy h1
      have hfree' : ∀ k ok, ops[k]? = some ok → k ≠ i → (listed.setIfInBounds j true).getD k true = false →
          (∀ e ∈ ok.after, Region.binds md e = true → e.on ≠ i) → oi.apart ops ok = true := fun k ok hk hki hun hno => by
        refine hfree k ok hk hki ?_ hno
        by_cases hjk : j = k
        · subst hjk; exact hjun
        · rw [getD_set_ne true hjk] at hun; exact hun
      refine wpOp_mono (fun a' w' h3 => ⟨h3.2.1, ih (listed.setIfInBounds j true) a' w' (shut_set hsh hj) hfree' (ready_mono hr (Ne.symm hji)) h3.1 (h3.2.1 hne) ?_⟩) h2
      rw [Array.setIfInBounds_comm _ _ hji]
      exact h3.2.2
theorem wpL_take {i : Nat} {oi : Oper} {v : Value} {fuel : Nat} {listed : Array Bool} {a : Act} {w : World} (hi : ops[i]? = some oi) (hsh : shut md ops listed)
    (hs : Region.noSelect ops = true) (hf : Region.free md ops listed i = true) (hr : (Region.ready md ops listed).contains i = true)
    (hQ : ∀ c a w, Q (.panic c) (a.put oi.dst v) w → Q (.panic c) a w) (hy : YieldsIf P ops S oi v a) (hS : S w)
    (h : wpL P md ops Q S fuel (listed.setIfInBounds i true) (a.put oi.dst v) w) : wpL P md ops Q S (fuel + 1) listed a w :=
  wpL_first hi (Region.noSelect_spec hs) hQ fuel listed a w hsh (Region.free_spec hi hf) (by simpa using hr) hy hS h
theorem wpL_all {rs : List Nat} {fuel : Nat} {listed : Array Bool} {a : Act} {w : World} (hr : Region.ready md ops listed = rs) (hne : rs ≠ [])
    (h : ∀ i ∈ rs, wpOp P ops Q i (fun a' w' => (ender md ops i = false → S w') ∧ wpL P md ops Q S fuel (listed.setIfInBounds i true) a' w') a w) : wpL P md ops Q S (fuel + 1) listed a w :=
  ⟨fun h0 => absurd (hr ▸ h0) hne, hr ▸ h⟩
theorem wpL_done {listed : Array Bool} {a : Act} {w : World} (hr : Region.ready md ops listed = []) (h : Q .normal a w) : ∀ fuel, wpL P md ops Q S fuel listed a w
  | 0 => ⟨hr, h⟩
  | _ + 1 => ⟨fun _ => h, by rw [hr]; simp⟩
theorem wp_regionL {id : Nat} {a : Act} {w : World} (hm : P.follows .mixedOrders = true)
    (h : wpL P .any ops Q S ops.size (Array.replicate ops.size false) a { w with drawn := w.drawn + 1 }) : (Code.region id ops true).wp P Q a w :=
  wp_region_any hm (wpL_any _ _ _ _ h)
end
end Go.H
