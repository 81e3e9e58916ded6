/- A part of the proofs over the tenants of a page cache: lemmas on what is known of the memory, and contracts of the Go functions. -/
import Derived.Test.YtckokpmljhhhcaaHc
set_option linter.unusedVariables false
set_option linter.unusedSimpArgs false
namespace Go.H
open Go
/-! ## Facts on types -/
class Ty (P : Program) (t : TypeId) (d : outParam TypeDesc) : Prop where out : P.underlying t = some d
class Sz (P : Program) (t : TypeId) (n : outParam Nat) : Prop where out : (P.info? t).map (·.size) = some n
class By (P : Program) (t : TypeId) (n : outParam Nat) : Prop where out : (P.info? t).map (·.bytes) = some n
class Zv (P : Program) (t : TypeId) (v : outParam Value) : Prop where out : (P.info? t).map (·.zero) = some (some v)
def aggOf (P : Program) (t : TypeId) : Option Bool := (P.underlying t).map fun | .struct _ | .array _ _ => true | _ => false
class Ag (P : Program) (t : TypeId) (b : outParam Bool) : Prop where out : aggOf P t = some b
def faOf (P : Program) (s : TypeId) (f : Nat) : Option Nat :=
  match P.underlying s with
  | some (.struct fs) => match fs[f]? with
    | some fl => match (P.info? fl.type).map (·.size) with
      | some (_ + 1) => some fl.offset
      | _ => none
    | none => none
  | _ => none
class Fa (P : Program) (s : TypeId) (f : Nat) (off : outParam Nat) : Prop where out : faOf P s f = some off
def fxOf (P : Program) (s : TypeId) (f : Nat) : Option (Nat × Nat × Bool) :=
  match P.underlying s with
  | some (.struct fs) => match fs[f]? with
    | some fl => match (P.info? fl.type).map (·.size), aggOf P fl.type with
      | some n, some b => some (fl.offset, n, b)
      | _, _ => none
    | none => none
  | _ => none
class Fx (P : Program) (s : TypeId) (f : Nat) (off n : outParam Nat) (b : outParam Bool) : Prop where out : fxOf P s f = some (off, n, b)
/-- a function with a body -/
def entOf (P : Program) (f : FuncId) : Bool :=
  match P.funcs[f]? with
  | some fn => !(fn.name == "runtime.NumGoroutine") && fn.body.isSome
  | none => false
class Ent (P : Program) (f : FuncId) : Prop where out : entOf P f = true
section
variable {r : Bool} {P : Program} {α β : Type} {H : Hp}
@[simp] theorem hw_pure (a : α) (Q : α → Hp → Prop) : hw r P (pure a) Q H = Q a H := rfl
theorem hw_bind' (e : Sem α) (f : α → Sem β) (Q : β → Hp → Prop) : hw r P (e >>= f) Q H = hw r P e (fun a H => hw r P (f a) Q H) H := hw_bind e f
theorem hw_map (f : α → β) (e : Sem α) (Q : β → Hp → Prop) : hw r P (f <$> e) Q H = hw r P e (fun a H => Q (f a) H) H := by
  show hw r P (e >>= fun a => pure (f a)) Q H = _
  rw [hw_bind']; rfl
@[simp] theorem hw_program (Q : Program → Hp → Prop) : hw r P program Q H = Q P H := rfl
@[simp] theorem hw_mark (m : Mark) (Q : Unit → Hp → Prop) : hw r P (mark m) Q H = Q () H := rfl
theorem hw_newObj (o : Obj) (Q : Nat → Hp → Prop) : hw r P (newObj o) Q H = (r = false ∧ ∀ b, H b = none → Q b (H.set b o)) := rfl
theorem hw_load (a : Addr) (m : Mode) (Q : Value → Hp → Prop) : hw r P (load a m) Q H = ∃ v, H.cell a = some v ∧ Q v H := rfl
theorem hw_typeInfo {t : TypeId} {i : TypeInfo} (h : P.info? t = some i) (Q : TypeInfo → Hp → Prop) : hw r P (typeInfo t) Q H = Q i H := by
  simp [typeInfo, hw_bind', h]
theorem hw_underlying {t : TypeId} {d : TypeDesc} [h : Ty P t d] (Q : TypeDesc → Hp → Prop) : hw r P (underlying t) Q H = Q d H := by
  simp [underlying, hw_bind', h.out]
theorem hw_sizeOf {t : TypeId} {n : Nat} [h : Sz P t n] (Q : Nat → Hp → Prop) : hw r P (sizeOf t) Q H = Q n H := by
  have := h.out
  cases e : P.info? t with
  | none => rw [e] at this; cases this
  | some i => rw [e] at this; cases this; simp [sizeOf, hw_map, hw_typeInfo e]
theorem hw_zeroValue {t : TypeId} {v : Value} [h : Zv P t v] (Q : Value → Hp → Prop) : hw r P (zeroValue t) Q H = Q v H := by
  have := h.out
  cases e : P.info? t with
  | none => rw [e] at this; cases this
  | some i =>
    rw [e] at this
    have hz : i.zero = some v := by simpa using this
    simp [zeroValue, hw_bind', hw_typeInfo e, hz]
theorem hw_isAgg {t : TypeId} {b : Bool} [h : Ag P t b] (Q : Bool → Hp → Prop) : hw r P (isAgg t) Q H = Q b H := by
  have := h.out
  unfold aggOf at this
  cases e : P.underlying t with
  | none => rw [e] at this; cases this
  | some d =>
    rw [e] at this
    haveI : Ty P t d := ⟨e⟩
    simp only [isAgg, hw_bind', hw_underlying]
    cases d <;> simp_all
theorem hop_of {o : Oper} {l : List Value} {K : Value → Hp → Prop} (s : Sem Value) (he : execOp (ev l) o = (do pure (.value (← s)))) (h : hw r P s K H) : hop r P o l H K := by
  unfold hop; rw [he, hw_bind']; exact hw_mono s (fun _ _ h => ⟨_, .refl _, h⟩) h
/-! ## Rows -/
def row (L : List Value) (t : TypeId) : Obj := .cells L.toArray t (0, 0)
theorem row_shape (L : List Value) (t : TypeId) : Hp.shape (row L t) = some (t, L.length) := by simp [Hp.shape, row]
theorem row_fz (L : List Value) (t : TypeId) (o : Nat) : Hp.fz (row L t) o = false := by simp [Hp.fz, row]
theorem row_put (L : List Value) (t : TypeId) (o : Nat) (v : Value) : Hp.put (row L t) o v = row (L.set o v) t := by simp [Hp.put, row]
theorem cell_row {b o : Nat} {L : List Value} {t : TypeId} (h : H b = some (row L t)) : H.cell ⟨b, o, none⟩ = L[o]? := by
  simp [Hp.cell, h, row]
theorem add_none (b o i : Nat) : Addr.add ⟨b, o, none⟩ i = ⟨b, o + i, none⟩ := by
  unfold Addr.add; split <;> simp_all
theorem hw_loadCellsFrom {b o : Nat} {L : List Value} {t : TypeId} (h : H b = some (row L t)) (n : Nat) : ∀ (i : Nat) (acc : Array Value) (Q : Array Value → Hp → Prop), o + i + n ≤ L.length →
    Q (acc ++ ((L.drop (o + i)).take n).toArray) H → hw r P (loadCellsFrom ⟨b, o, none⟩ i n acc) Q H := by
  induction n with
  | zero => intro i acc Q _ hq; simpa [loadCellsFrom] using hq
  | succ n ih =>
    intro i acc Q hl hq
    simp only [loadCellsFrom, hw_bind', hw_load, add_none, cell_row h]
    refine ⟨L[o + i]'(by omega), List.getElem?_eq_getElem (by omega), ?_⟩
    refine ih (i + 1) _ _ (by omega) ?_
    have e : (L.drop (o + i)).take (n + 1) = L[o + i]'(by omega) :: (L.drop (o + (i + 1))).take n := by
      rw [List.drop_eq_getElem_cons (by omega)]; simp [Nat.add_assoc]
    rw [e] at hq
    simpa using hq
theorem hw_loadCells {b o n : Nat} {L : List Value} {t : TypeId} (h : H b = some (row L t)) (hl : o + n ≤ L.length) {Q : Array Value → Hp → Prop}
    (hq : Q ((L.drop o).take n).toArray H) : hw r P (loadCells ⟨b, o, none⟩ n) Q H :=
  hw_loadCellsFrom h n 0 #[] Q (by simpa using hl) (by simpa using hq)
/-- cells written from a place on -/
def wr (L : List Value) (o : Nat) : List Value → List Value
  | [] => L
  | v :: vs => wr (L.set o v) (o + 1) vs
theorem wr_length (vs : List Value) : ∀ (L : List Value) (o : Nat), (wr L o vs).length = L.length := by
  induction vs with
  | nil => intro L o; rfl
  | cons v vs ih => intro L o; simp [wr, ih]
theorem hw_storeCells {b o : Nat} {t : TypeId} (vs : List Value) : ∀ (L : List Value) (H : Hp) (i : Nat) (Q : Unit → Hp → Prop), H b = some (row L t) → o + i + vs.length ≤ L.length →
    (∀ v ∈ vs, v.oneCell' = true) → Q () (if vs = [] then H else H.set b (row (wr L (o + i) vs) t)) → hw false P (storeCells ⟨b, o, none⟩ vs i) Q H := by
  induction vs with
  | nil => intro L H i Q _ _ _ hq; simpa [storeCells] using hq
  | cons v vs ih =>
    intro L H i Q h hl hv hq
    simp only [List.length_cons] at hl
    simp only [storeCells, hw_bind', add_none]
    show hw false P (.store .plain ⟨b, o + i, none⟩ v (.pure ())) _ H
    refine ⟨rfl, hv v (by simp), ⟨L[o + i]'(by omega), by rw [cell_row h]; exact List.getElem?_eq_getElem (by omega)⟩, _, h, row_fz _ _ _, ?_⟩
    rw [row_put]
    refine ih (L.set (o + i) v) _ (i + 1) _ (Hp.set_same _ _ _) (by simp; omega) (fun x hx => hv x (by simp [hx])) ?_
    rw [if_neg (by simp)] at hq
    simp only [wr] at hq
    split
    · rename_i e; subst e; exact hq
    · rw [Hp.set_set]; exact hq
theorem hw_storeVar {b o n : Nat} {t t' : TypeId} [hs : Sz P t' n] {v : Value} {L : List Value} (h : H b = some (row L t)) (hn : v.cells.size = n) (hl : o + n ≤ L.length)
    (hv : ∀ x ∈ v.cells.toList, x.oneCell' = true) (hp : 0 < n) {Q : Unit → Hp → Prop} (hq : Q () (H.set b (row (wr L o v.cells.toList) t))) : hw false P (storeVar t' ⟨b, o, none⟩ v) Q H := by
  unfold storeVar
  simp only [hw_bind', hw_sizeOf]
  simp only [hn, ne_eq, not_true_eq_false, if_false]
  have hlen : v.cells.toList.length = n := by simp [hn]
  refine hw_storeCells (o := o) v.cells.toList L H 0 Q h (by omega) hv ?_
  rw [if_neg (by intro e; rw [e] at hlen; simp at hlen; omega)]
  exact hq
theorem hw_newRow (e : TypeId) (c : List Value) (Q : Addr → Hp → Prop) : hw r P (newRow e c.toArray) Q H = (r = false ∧ ∀ b, H b = none → Q ⟨b, 0, none⟩ (H.set b (row c e))) := by
  simp [newRow, hw_map, hw_newObj, row]
end
/-! ## A part of a row -/
theorem mid_get {A C B : List Value} {k : Nat} {v : Value} (h : C[k]? = some v) : (A ++ C ++ B)[A.length + k]? = some v := by
  have hk : k < C.length := (List.getElem?_eq_some_iff.1 h).1
  rw [List.append_assoc, List.getElem?_append_right (by omega), Nat.add_sub_cancel_left, List.getElem?_append_left hk]; exact h
theorem mid_get0 {A C B : List Value} {v : Value} (h : C[0]? = some v) : (A ++ C ++ B)[A.length]? = some v := mid_get (k := 0) h
theorem mid_set {A C B : List Value} {k : Nat} {v : Value} (h : k < C.length) : (A ++ C ++ B).set (A.length + k) v = A ++ C.set k v ++ B := by
  rw [List.append_assoc, List.set_append_right _ _ (by omega), Nat.add_sub_cancel_left, List.set_append_left _ _ h, List.append_assoc]
theorem mid_set0 {A C B : List Value} {v : Value} (h : 0 < C.length) : (A ++ C ++ B).set A.length v = A ++ C.set 0 v ++ B := mid_set (k := 0) h
theorem mid_wr {A C B vs : List Value} (h : vs.length = C.length) : wr (A ++ C ++ B) A.length vs = A ++ vs ++ B := by
  have key : ∀ (vs C A : List Value), vs.length = C.length → wr (A ++ C ++ B) A.length vs = A ++ vs ++ B := by
    intro vs
    induction vs with
    | nil => intro C A h; cases C with
      | nil => rfl
      | cons c C => cases h
    | cons v vs ih =>
      intro C A h
      cases C with
      | nil => cases h
      | cons c C =>
        simp only [wr]
        rw [mid_set0 (by simp)]
        have := ih C (A ++ [v]) (by simpa using h)
        simpa using this
  exact key vs C A h
theorem mid_take {A C B : List Value} {n : Nat} (h : C.length = n) : ((A ++ C ++ B).drop A.length).take n = C := by subst h; simp
/-! ## The operations, one by one -/
section
variable {r : Bool} {P : Program} {l : List Value} {H : Hp} {K : Value → Hp → Prop} {d : Option Tmp} {ty : TypeId} {pos : String} {aft : Array Edge} {g : Option (Nat × Bool)}
theorem hop_move {x : Operand} (h : K (ev l x) H) : hop r P ⟨d, .move x, ty, pos, aft, g⟩ l H K := ⟨_, .refl _, h⟩
theorem hop_assign {x : Operand} (h : K (ev l x) H) : hop r P ⟨d, .assign x, ty, pos, aft, g⟩ l H K := ⟨_, .refl _, h⟩
theorem hop_load {t : TypeId} {x : Operand} {b o : Nat} {v : Value} {L : List Value} {t' : TypeId} [Ag P t false] (hx : ev l x = .pointer (some ⟨b, o, none⟩)) (hH : H b = some (row L t')) (hv : L[o]? = some v)
    (h : K v H) : hop r P ⟨d, .load t x, ty, pos, aft, g⟩ l H K := by
  refine hop_of (loadVar t ⟨b, o, none⟩) (by simp [execOp, Instr.loadAt, Instr.sureAddr, hx]) ?_
  simp only [loadVar, hw_bind', hw_isAgg, Bool.false_eq_true, if_false, hw_load, cell_row hH]
  exact ⟨v, hv, h⟩
theorem hop_loadA {t : TypeId} {x : Operand} {b o n : Nat} {L : List Value} {t' : TypeId} [Ag P t true] [Sz P t n] (hx : ev l x = .pointer (some ⟨b, o, none⟩)) (hH : H b = some (row L t')) (hl : o + n ≤ L.length)
    (h : K (.agg ((L.drop o).take n).toArray) H) : hop r P ⟨d, .load t x, ty, pos, aft, g⟩ l H K := by
  refine hop_of (loadVar t ⟨b, o, none⟩) (by simp [execOp, Instr.loadAt, Instr.sureAddr, hx]) ?_
  simp only [loadVar, hw_bind', hw_isAgg, if_true, hw_sizeOf]
  exact hw_loadCells hH hl h
theorem hop_storeG {t : TypeId} {x y : Operand} {b o n : Nat} {v : Value} {L : List Value} {t' : TypeId} [Sz P t n] (hx : ev l x = .pointer (some ⟨b, o, none⟩)) (hy : ev l y = v) (hH : H b = some (row L t'))
    (hn : v.cells.size = n) (hl : o + n ≤ L.length) (hv : ∀ c ∈ v.cells.toList, c.oneCell' = true) (hp : 0 < n)
    (h : K undef (H.set b (row (wr L o v.cells.toList) t'))) : hop false P ⟨d, .store t x y, ty, pos, aft, g⟩ l H K := by
  unfold hop
  have he : execOp (ev l) ⟨d, .store t x y, ty, pos, aft, g⟩ = (do storeVar t ⟨b, o, none⟩ v; pure .skip) := by
    simp [execOp, Instr.storeAt, Instr.sureAddr, hx, hy]
  rw [he, hw_bind']
  exact hw_storeVar hH hn hl hv hp ⟨_, .refl _, rfl, h⟩
theorem hop_store {t : TypeId} {x y : Operand} {b o : Nat} {v : Value} {L : List Value} {t' : TypeId} [Sz P t 1] (hx : ev l x = .pointer (some ⟨b, o, none⟩)) (hy : ev l y = v) (hv : v.oneCell' = true) (hH : H b = some (row L t'))
    (hl : o < L.length) (h : K undef (H.set b (row (L.set o v) t'))) : hop false P ⟨d, .store t x y, ty, pos, aft, g⟩ l H K := by
  have e : v.cells = #[v] := by cases v <;> first | rfl | cases hv
  refine hop_storeG hx hy hH (n := 1) (by rw [e]; rfl) (by omega) (by rw [e]; simpa using hv) (by omega) ?_
  rw [e]; exact h
theorem hop_storeA {t : TypeId} {x y : Operand} {b o n : Nat} {vs : List Value} {L : List Value} {t' : TypeId} [Sz P t n] (hx : ev l x = .pointer (some ⟨b, o, none⟩)) (hy : ev l y = .agg vs.toArray) (hn : vs.length = n) (hv : ∀ v ∈ vs, v.oneCell' = true) (hH : H b = some (row L t'))
    (hl : o + n ≤ L.length) (hp : 0 < n) (h : K undef (H.set b (row (wr L o vs) t'))) : hop false P ⟨d, .store t x y, ty, pos, aft, g⟩ l H K :=
  hop_storeG hx hy hH (by simpa [Value.cells] using hn) hl (by simpa [Value.cells] using hv) hp (by simpa [Value.cells] using h)
theorem hop_nilCheck {x : Operand} {a : Addr} (hx : ev l x = .pointer (some a)) (h : K (.pointer (some a)) H) : hop r P ⟨d, .nilCheck x, ty, pos, aft, g⟩ l H K := by
  unfold hop; simp only [execOp, hx]; exact ⟨_, .refl _, h⟩
theorem hop_fieldAddr {s : TypeId} {x : Operand} {f b o off : Nat} [hf : Fa P s f off] (hx : ev l x = .pointer (some ⟨b, o, none⟩)) (h : K (.pointer (some ⟨b, o + off, none⟩)) H) :
    hop r P ⟨d, .fieldAddr s x f, ty, pos, aft, g⟩ l H K := by
  have hf := hf.out
  unfold faOf at hf
  split at hf
  · rename_i fs hs
    haveI : Ty P s (.struct fs) := ⟨hs⟩
    split at hf
    · rename_i fl hfl
      split at hf
      · rename_i m hm
        haveI : Sz P fl.type (m + 1) := ⟨hm⟩
        cases hf
        refine hop_of (Instr.fieldAt s (.pointer (some ⟨b, o, none⟩)) f) (by simp [execOp, hx]) ?_
        simp only [Instr.fieldAt, hw_bind', hw_underlying, hfl, Instr.sureAddr, hw_pure, fieldPlace, hw_sizeOf]
        rw [if_neg (by omega)]
        simpa [add_none] using h
      · cases hf
    · cases hf
  · cases hf
theorem hop_field {s : TypeId} {x : Operand} {f off n : Nat} {cs : List Value} {v : Value} [hf : Fx P s f off n false] (hx : ev l x = .agg cs.toArray) (hv : cs[off]? = some v) (h : K v H) :
    hop r P ⟨d, .field s x f, ty, pos, aft, g⟩ l H K := by
  have hf := hf.out
  unfold fxOf at hf
  split at hf
  · rename_i fs hs
    haveI : Ty P s (.struct fs) := ⟨hs⟩
    split at hf
    · rename_i fl hfl
      split at hf
      · rename_i m b hm hb
        simp only [Option.some.injEq, Prod.mk.injEq] at hf
        obtain ⟨rfl, rfl, rfl⟩ := hf
        haveI : Ag P fl.type false := ⟨hb⟩
        refine hop_of (Instr.field s (.agg cs.toArray) f) (by simp [execOp, hx]) ?_
        simp only [Instr.field, hw_bind', hw_underlying, hfl, asAgg, hw_pure, Go.part, hw_isAgg, Bool.false_eq_true, if_false]
        simpa [hv] using h
      · cases hf
    · cases hf
  · cases hf
theorem hop_fieldA {s : TypeId} {x : Operand} {f off n : Nat} {cs : List Value} [hf : Fx P s f off n true] (hx : ev l x = .agg cs.toArray) (h : K (.agg ((cs.drop off).take n).toArray) H) :
    hop r P ⟨d, .field s x f, ty, pos, aft, g⟩ l H K := by
  have hf := hf.out
  unfold fxOf at hf
  split at hf
  · rename_i fs hs
    haveI : Ty P s (.struct fs) := ⟨hs⟩
    split at hf
    · rename_i fl hfl
      split at hf
      · rename_i m b hm hb
        simp only [Option.some.injEq, Prod.mk.injEq] at hf
        obtain ⟨rfl, rfl, rfl⟩ := hf
        haveI : Ag P fl.type true := ⟨hb⟩
        haveI : Sz P fl.type m := ⟨hm⟩
        refine hop_of (Instr.field s (.agg cs.toArray) f) (by simp [execOp, hx]) ?_
        simp only [Instr.field, hw_bind', hw_underlying, hfl, asAgg, hw_pure, Go.part, hw_isAgg, if_true, hw_sizeOf]
        have e : cs.toArray.extract fl.offset (fl.offset + m) = ((cs.drop fl.offset).take m).toArray := by simp
        rw [e]; exact h
      · cases hf
    · cases hf
  · cases hf
theorem hop_indexAddr {t e : TypeId} {x ix : Operand} {b o n len cap : Nat} {k : IntKind} {i : Int} [Ty P t (.slice e)] [Sz P e n] (hx : ev l x = .slice (some ⟨b, o, none⟩) len cap) (hi : ev l ix = .int k i)
    (h0 : 0 ≤ i) (h1 : i < len) (h : K (.pointer (some ⟨b, o + i.toNat * n, none⟩)) H) : hop r P ⟨d, .indexAddr t x ix, ty, pos, aft, g⟩ l H K := by
  refine hop_of (Instr.indexAt t (.slice (some ⟨b, o, none⟩) len cap) (.int k i)) (by simp [execOp, hx, hi]) ?_
  simp only [Instr.indexAt, hw_bind', asIntOf, hw_pure, hw_underlying]
  rw [if_pos ⟨h0, h1⟩]
  simpa [hw_map, hw_sizeOf, add_none] using h
theorem hop_indexAddrArr {t e : TypeId} {x ix : Operand} {b o n len : Nat} {k : IntKind} {i : Int} [Ty P t (.array len e)] [Sz P e n] (hx : ev l x = .pointer (some ⟨b, o, none⟩)) (hi : ev l ix = .int k i)
    (h0 : 0 ≤ i) (h1 : i < len) (h : K (.pointer (some ⟨b, o + i.toNat * n, none⟩)) H) : hop r P ⟨d, .indexAddr t x ix, ty, pos, aft, g⟩ l H K := by
  refine hop_of (Instr.indexAt t (.pointer (some ⟨b, o, none⟩)) (.int k i)) (by simp [execOp, hx, hi]) ?_
  simp only [Instr.indexAt, hw_bind', asIntOf, hw_pure, hw_underlying, Instr.sureAddr]
  rw [if_pos ⟨h0, h1⟩]
  simpa [hw_map, hw_sizeOf, add_none] using h
theorem hop_bin {op : BinOp} {t u : TypeId} {x y : Operand} {k : IntKind} {a b : Int} {v : Value} (hx : ev l x = .int k a) (hy : ev l y = .int k b)
    (hv : (match op with
      | .add => v = .int k (k.wrap (a + b))
      | .sub => v = .int k (k.wrap (a - b))
      | .mul => v = .int k (k.wrap (a * b))
      | .quo => b ≠ 0 ∧ v = .int k (k.wrap (a.tdiv b))
      | .rem => b ≠ 0 ∧ v = .int k (a.tmod b)
      | .eql => v = .bool (a == b)
      | .neq => v = .bool (a != b)
      | .lss => v = .bool (a < b)
      | .leq => v = .bool (a ≤ b)
      | .gtr => v = .bool (a > b)
      | .geq => v = .bool (a ≥ b)
      | _ => False)) (h : K v H) : hop r P ⟨d, .binOp op t x y u, ty, pos, aft, g⟩ l H K := by
  refine hop_of (do eqGuard op t x y (.int k a) (.int k b); binOp op t (.int k a) (.int k b)) (by simp [execOp, hx, hy]) ?_
  cases op <;> simp only at hv <;> first
    | (subst hv; simpa [eqGuard, binOp, Op.intArith, Op.intCmp, hw_bind'] using h)
    | (obtain ⟨hb, rfl⟩ := hv; simpa [eqGuard, binOp, Op.intDiv, hw_bind', hb] using h)
    | exact hv.elim
theorem wrap_i64 {n : Int} (h : -9223372036854775808 ≤ n ∧ n ≤ 9223372036854775807) : IntKind.i64.wrap n = n := by
  rw [IntKind.wrap_i64]; omega
theorem hop_add {t u : TypeId} {x y : Operand} {a b : Int} (hx : ev l x = .int .i64 a) (hy : ev l y = .int .i64 b) (hr : -9223372036854775808 ≤ a + b ∧ a + b ≤ 9223372036854775807) (h : K (.int .i64 (a + b)) H) :
    hop r P ⟨d, .binOp .add t x y u, ty, pos, aft, g⟩ l H K := hop_bin hx hy rfl (by rw [wrap_i64 hr]; exact h)
theorem hop_sub {t u : TypeId} {x y : Operand} {a b : Int} (hx : ev l x = .int .i64 a) (hy : ev l y = .int .i64 b) (hr : -9223372036854775808 ≤ a - b ∧ a - b ≤ 9223372036854775807) (h : K (.int .i64 (a - b)) H) :
    hop r P ⟨d, .binOp .sub t x y u, ty, pos, aft, g⟩ l H K := hop_bin hx hy rfl (by rw [wrap_i64 hr]; exact h)
theorem hop_mul {t u : TypeId} {x y : Operand} {a b : Int} (hx : ev l x = .int .i64 a) (hy : ev l y = .int .i64 b) (hr : -9223372036854775808 ≤ a * b ∧ a * b ≤ 9223372036854775807) (h : K (.int .i64 (a * b)) H) :
    hop r P ⟨d, .binOp .mul t x y u, ty, pos, aft, g⟩ l H K := hop_bin hx hy rfl (by rw [wrap_i64 hr]; exact h)
theorem hop_remN {t u : TypeId} {x y : Operand} {a b : Nat} (hx : ev l x = .int .i64 (a : Int)) (hy : ev l y = .int .i64 (b : Int)) (hb : 0 < b) (h : K (.int .i64 ((a % b : Nat) : Int)) H) :
    hop r P ⟨d, .binOp .rem t x y u, ty, pos, aft, g⟩ l H K := hop_bin hx hy ⟨by omega, rfl⟩ (by rw [Int.tmod_eq_emod_of_nonneg (by omega)]; exact h)
theorem hop_quoN {t u : TypeId} {x y : Operand} {a b : Nat} (hx : ev l x = .int .i64 (a : Int)) (hy : ev l y = .int .i64 (b : Int)) (hb : 0 < b) (ha : a ≤ 9223372036854775807) (h : K (.int .i64 ((a / b : Nat) : Int)) H) :
    hop r P ⟨d, .binOp .quo t x y u, ty, pos, aft, g⟩ l H K := hop_bin hx hy ⟨by omega, rfl⟩ (by
      rw [Int.tdiv_eq_ediv_of_nonneg (by omega)]
      have : ((a : Int) / (b : Int)) = ((a / b : Nat) : Int) := rfl
      have h2 : a / b ≤ a := Nat.div_le_self _ _
      rw [this]
      generalize a / b = q at *
      rw [wrap_i64 (by omega)]; exact h)
theorem hop_not {t : TypeId} {x : Operand} {b : Bool} (hx : ev l x = .bool b) (h : K (.bool (!b)) H) : hop r P ⟨d, .unOp .not t x, ty, pos, aft, g⟩ l H K := by
  refine hop_of (Op.unary .not (.bool b)) (by simp [execOp, hx]) ?_
  exact h
theorem hop_extract {x : Operand} {i : Nat} {vs : List Value} {v : Value} (hx : ev l x = .tuple vs.toArray) (hv : vs[i]? = some v) (h : K v H) : hop r P ⟨d, .extract x i, ty, pos, aft, g⟩ l H K := by
  refine hop_of (Instr.extract (.tuple vs.toArray) i) (by simp [execOp, hx]) ?_
  simp only [Instr.extract]
  simpa [hv] using h
theorem hop_alloc {t : TypeId} {z : Value} {zl : List Value} [Zv P t z] (hz : z.cells = zl.toArray) (h : ∀ b, H b = none → K (.pointer (some ⟨b, 0, none⟩)) (H.set b (row zl t))) : hop false P ⟨d, .alloc t, ty, pos, aft, g⟩ l H K := by
  refine hop_of (Instr.alloc t true (.tuple #[])) (by simp [execOp]) ?_
  simp only [Instr.alloc, hw_bind', hw_zeroValue, newVar, hz, hw_newRow, hw_pure]
  exact ⟨trivial, h⟩
theorem hop_box {t : TypeId} {x : Operand} {v : Value} {zl : List Value} (hx : ev l x = v) (hz : v.cells = zl.toArray) (h : ∀ b, H b = none → K (.pointer (some ⟨b, 0, none⟩)) (H.set b (row zl t))) : hop false P ⟨d, .box t x, ty, pos, aft, g⟩ l H K := by
  refine hop_of (Instr.box t v) (by simp [execOp, hx]) ?_
  simp only [Instr.box, hw_bind', newVar, hz, hw_newRow, hw_pure]
  exact ⟨trivial, h⟩
theorem hop_makeFunc {fn : Fn} {first captured : Array Operand} (h : K (.func fn (first.map (ev l)) (captured.map (ev l))) H) : hop r P ⟨d, .makeFunc fn first captured, ty, pos, aft, g⟩ l H K := ⟨_, .refl _, h⟩
theorem hw_callFunc {f : FuncId} {args : Array Value} [he : Ent P f] {Q : Next → Hp → Prop} (h : Q (.enter f args) H) : hw r P (callFunc f args) Q H := by
  have he := he.out
  unfold entOf at he
  unfold callFunc
  simp only [hw_bind', hw_program]
  split at he
  · rename_i fn hfn
    simp only [hfn]
    simp only [Bool.and_eq_true, Bool.not_eq_true'] at he
    rw [if_neg (by rw [he.1]; simp), if_neg (by cases hb : fn.body <;> simp_all)]
    exact h
  · cases he
theorem hop_call {f : FuncId} {args : Array Operand} {at_ : Array TypeId} [Ent P f] (h : HT P f (args.map (ev l)) H K) : hop false P ⟨d, .call ⟨.value (.func f), args, at_⟩, ty, pos, aft, g⟩ l H K := by
  unfold hop
  simp only [execOp, resolve, ev, Deferred.ofValue, hw_bind', hw_pure, invoke]
  refine hw_callFunc ?_
  exact ⟨_, .refl _, rfl, by simpa using h⟩
theorem hop_callv {f : FuncId} {x : Operand} {first captured : Array Value} {args : Array Operand} {at_ : Array TypeId} (hx : ev l x = .func (.func f) first captured) [Ent P f] (h : HT P f (first ++ args.map (ev l) ++ captured) H K) :
    hop false P ⟨d, .call ⟨.value x, args, at_⟩, ty, pos, aft, g⟩ l H K := by
  unfold hop
  simp only [execOp, resolve, hx, Deferred.ofValue, hw_bind', hw_pure, invoke]
  exact hw_callFunc ⟨_, .refl _, rfl, h⟩
end
end Go.H
