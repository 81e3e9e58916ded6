/- A part of the proofs over the tenants of a page cache: lemmas on what is known of the memory, and contracts of the Go functions. -/
import Derived.Test.YtckokpmljhhhcaaHq
set_option linter.unusedVariables false
set_option linter.unusedSimpArgs false
namespace Go.H
open Go
def eqsOf (P : Program) (t : TypeId) : Option (List (TypeId × Nat)) := match P.underlying t with
  | some (.struct fs) => if P.stoodInHeld t = false ∧ P.eqGuardType P.depth t = false ∧ (fs.toList.all fun f => f.name != "_") = true then some (fs.toList.map fun f => (f.type, f.offset)) else none
  | _ => none
class Es (P : Program) (t : TypeId) (fs : outParam (List (TypeId × Nat))) : Prop where out : eqsOf P t = some fs
def EqR (P : Program) (n : Nat) (t : TypeId) (x y : Value) (b : Bool) : Prop := ∀ (r : Bool) (Q : Bool → Hp → Prop) (H : Hp), Q b H → hw r P (Op.equalIn n t x y) Q H
section
variable {P : Program} {n : Nat} {t : TypeId}
theorem eqR_int {k : IntKind} {a b : Int} [Ty P t (.int k)] : EqR P (n + 1) t (.int k a) (.int k b) (a == b) := fun _ _ _ h => hw_eqInt h n
theorem eqR_bool {a b : Bool} [Ty P t .bool] : EqR P (n + 1) t (.bool a) (.bool b) (a == b) := fun _ _ _ h => hw_eqBool h n
theorem eqR_str {a b : ByteArray} [Ty P t .string] : EqR P (n + 1) t (.string a) (.string b) (a == b) := fun _ _ _ h => hw_eqStr h n
def prt (P : Program) (t : TypeId) (xs : List Value) (off : Nat) (x : Value) : Prop := ∀ (r : Bool) (Q : Value → Hp → Prop) (H : Hp), Q x H → hw r P (Go.part t xs.toArray off) Q H
theorem prt_s {xs : List Value} {off : Nat} {x : Value} [Ag P t false] (h : xs[off]? = some x) : prt P t xs off x := by
  intro r Q H hq
  simp only [Go.part, hw_bind', hw_isAgg, Bool.false_eq_true, if_false]
  simpa [h] using hq
theorem prt_a {xs : List Value} {off m : Nat} [Ag P t true] [Sz P t m] : prt P t xs off (.agg ((xs.drop off).take m).toArray) := by
  intro r Q H hq
  simp only [Go.part, hw_bind', hw_isAgg, if_true, hw_sizeOf, hw_pure]
  have e : xs.toArray.extract off (off + m) = ((xs.drop off).take m).toArray := by simp
  rw [e]; exact hq
/-- the fields, one by one -/
def EqF (P : Program) (n : Nat) (xs ys : List Value) : List (TypeId × Nat) → List Bool → Prop
  | [], [] => True
  | f :: fs, b :: bs => (∃ x y, prt P f.1 xs f.2 x ∧ prt P f.1 ys f.2 y ∧ EqR P n f.1 x y b) ∧ EqF P n xs ys fs bs
  | _, _ => False
theorem eqR_struct {fs : List (TypeId × Nat)} [he : Es P t fs] {xs ys : List Value} {bs : List Bool} (h : EqF P n xs ys fs bs) : EqR P (n + 1) t (.agg xs.toArray) (.agg ys.toArray) (bs.all id) := by
  have he := he.out
  unfold eqsOf at he
  split at he
  · rename_i fa hfa
    split at he
    · rename_i hc
      simp only [Option.some.injEq] at he
      subst he
      haveI : Ty P t (.struct fa) := ⟨hfa⟩
      intro r Q H hq
      simp only [Op.equalIn, hw_bind', hw_underlying, hw_program, hc.1, Bool.false_eq_true, if_false, hw_pure]
      have key : ∀ (fl : List Field) (bs : List Bool), (fl.all fun f => f.name != "_") = true → EqF P n xs ys (fl.map fun f => (f.type, f.offset)) bs → ∀ K : Option Bool × Unit → Hp → Prop, K (if bs.all id = true then none else some false, ()) H →
          hw r P (forIn fl ((none, ()) : Option Bool × Unit) fun f __s =>
            if f.name ≠ "_" then do
              let __do_lift ← part f.type xs.toArray f.offset
              let __do_lift_1 ← part f.type ys.toArray f.offset
              let __do_lift ← Op.equalIn n f.type __do_lift __do_lift_1
              if (!__do_lift) = true then pure (ForInStep.done (some false, ())) else pure (ForInStep.yield (none, ()))
            else pure (ForInStep.yield (none, ()))) K H := by
        intro fl
        induction fl with
        | nil =>
          intro bs _ he K hk
          cases bs with
          | nil => simpa using hk
          | cons _ _ => exact he.elim
        | cons f fl ih =>
          intro bs ha he K hk
          cases bs with
          | nil => exact he.elim
          | cons b bs =>
            simp only [List.all_cons, Bool.and_eq_true, bne_iff_ne] at ha
            obtain ⟨⟨x, y, px, py, exy⟩, hr⟩ := he
            simp only [List.forIn_cons, hw_bind']
            rw [if_pos ha.1]
            simp only [hw_bind']
            refine px _ _ _ (py _ _ _ (exy _ _ _ ?_))
            cases b with
            | true =>
              simp only [Bool.not_true, Bool.false_eq_true, if_false, hw_pure]
              exact ih bs ha.2 hr K (by simpa using hk)
            | false =>
              simp only [Bool.not_false, if_true, hw_pure]
              simpa using hk
      rw [← Array.forIn_toList]
      refine key fa.toList bs hc.2.2 h _ ?_
      cases hb : bs.all id with
      | true => rw [hb] at hq; exact hq
      | false => rw [hb] at hq; exact hq
    · cases he
  · cases he
/-- arrays, element by element -/
def EqA (P : Program) (n : Nat) (e : TypeId) (sz : Nat) (xs ys : List Value) : Nat → List Bool → Prop
  | _, [] => True
  | i, b :: bs => (∃ x y, prt P e xs (i * sz) x ∧ prt P e ys (i * sz) y ∧ EqR P n e x y b) ∧ EqA P n e sz xs ys (i + 1) bs
end
section
variable {r : Bool} {P : Program} {l : List Value} {H : Hp} {K : Value → Hp → Prop} {d : Option Tmp} {ty : TypeId} {pos : String} {aft : Array Edge} {g : Option (Nat × Bool)}
theorem hop_eqA {t u : TypeId} {fs : List (TypeId × Nat)} {x y : Operand} {xs ys : List Value} {b : Bool} [he : Es P t fs] (hx : ev l x = .agg xs.toArray) (hy : ev l y = .agg ys.toArray) (hq : EqR P 10000 t (.agg xs.toArray) (.agg ys.toArray) b) (h : K (.bool b) H) : hop r P ⟨d, .binOp .eql t x y u, ty, pos, aft, g⟩ l H K := by
  have hg : P.eqGuardType P.depth t = false := by
    have he := he.out
    unfold eqsOf at he
    split at he
    · split at he
      · rename_i hc; exact hc.2.1
      · cases he
    · cases he
  refine hop_of (do eqGuard .eql t x y (.agg xs.toArray) (.agg ys.toArray); binOp .eql t (.agg xs.toArray) (.agg ys.toArray)) (by simp [execOp, hx, hy]) ?_
  simp only [eqGuard, binOp, hw_bind', hw_program, hg, Bool.not_true, Bool.not_false, Bool.false_eq_true, if_false, if_true, hw_pure]
  exact hq _ _ _ h
theorem hop_neA {t u : TypeId} {fs : List (TypeId × Nat)} {x y : Operand} {xs ys : List Value} {b : Bool} [he : Es P t fs] (hx : ev l x = .agg xs.toArray) (hy : ev l y = .agg ys.toArray) (hq : EqR P 10000 t (.agg xs.toArray) (.agg ys.toArray) b) (h : K (.bool (!b)) H) : hop r P ⟨d, .binOp .neq t x y u, ty, pos, aft, g⟩ l H K := by
  have hg : P.eqGuardType P.depth t = false := by
    have he := he.out
    unfold eqsOf at he
    split at he
    · split at he
      · rename_i hc; exact hc.2.1
      · cases he
    · cases he
  refine hop_of (do eqGuard .neq t x y (.agg xs.toArray) (.agg ys.toArray); binOp .neq t (.agg xs.toArray) (.agg ys.toArray)) (by simp [execOp, hx, hy]) ?_
  simp only [eqGuard, binOp, hw_bind', hw_program, hg, Bool.not_true, Bool.not_false, Bool.false_eq_true, if_false, if_true, hw_pure]
  exact hq _ _ _ h
theorem hop_minI {x y : Operand} {at_ : Array TypeId} {k : IntKind} {a b : Int} (hx : ev l x = .int k a) (hy : ev l y = .int k b) (h : K (.int k (min a b)) H) : hop r P ⟨d, .call ⟨.builtin .min, #[x, y], at_⟩, ty, pos, aft, g⟩ l H K := by
  refine hop_builtin (Builtin.min_ at_ ty #[.int k a, .int k b]) (fun _ => by simp [builtin, hx, hy]) ?_
  simp only [Builtin.min_, List.foldlM_cons, List.foldlM_nil, Builtin.min2, hw_bind', hw_pure]
  have e : (if b < a then b else a) = min a b := by rw [Int.min_def]; split <;> split <;> omega
  rw [e]; exact h
/-- rows of six numbers -/
theorem eqR_six {n : Nat} {t e : TypeId} [Es P t [(e, 0), (e, 1), (e, 2), (e, 3), (e, 4), (e, 5)]] [Ty P e (.int .u64)] [Ag P e false] {a0 a1 a2 a3 a4 a5 b0 b1 b2 b3 b4 b5 : Int} :
    EqR P (n + 2) t (.agg [Value.int .u64 a0, .int .u64 a1, .int .u64 a2, .int .u64 a3, .int .u64 a4, .int .u64 a5].toArray) (.agg [Value.int .u64 b0, .int .u64 b1, .int .u64 b2, .int .u64 b3, .int .u64 b4, .int .u64 b5].toArray)
      ([a0 == b0, a1 == b1, a2 == b2, a3 == b3, a4 == b4, a5 == b5].all id) := by
  refine eqR_struct (n := n + 1) ?_
  simp only [EqF]
  exact ⟨⟨_, _, prt_s rfl, prt_s rfl, eqR_int⟩, ⟨_, _, prt_s rfl, prt_s rfl, eqR_int⟩, ⟨_, _, prt_s rfl, prt_s rfl, eqR_int⟩, ⟨_, _, prt_s rfl, prt_s rfl, eqR_int⟩, ⟨_, _, prt_s rfl, prt_s rfl, eqR_int⟩, ⟨_, _, prt_s rfl, prt_s rfl, eqR_int⟩, trivial⟩
end
end Go.H
