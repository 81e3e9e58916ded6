/- A part of the proofs over the tenants of a page cache: lemmas on what is known of the memory, and contracts of the Go functions. -/
import Derived.Test.YtckokpmljhhhcaaHo3
set_option linter.unusedVariables false
set_option linter.unusedSimpArgs false
namespace Go.H
open Go
def plOf (P : Program) (t : TypeId) : Option (List (Nat × Nat)) :=
  match P.underlying t with
  | some (.struct fs) => fs.toList.mapM fun f => (P.info? f.type).map fun i => (f.offset, i.size)
  | _ => none
class Pl (P : Program) (t : TypeId) (pl : outParam (List (Nat × Nat))) : Prop where out : plOf P t = some pl
/-- parts laid into cells -/
def fillL (place : Nat → Option (Nat × Nat)) (L : List Value) : List (Nat × Value) → Option (List Value)
  | [] => some L
  | (i, v) :: rest => match place i with
    | none => none
    | some (off, n) => if v.cells.toList.length = n ∧ off + v.cells.toList.length ≤ L.length then fillL place (wr L off v.cells.toList) rest else none
theorem wr_fold (vs : List Value) : ∀ (L : List Value) (o k : Nat), (vs.zipIdx k).foldl (fun cs p => cs.set (o + p.2) p.1) L = wr L (o + k) vs := by
  induction vs with
  | nil => intro L o k; rfl
  | cons v vs ih => intro L o k; simp only [List.zipIdx_cons, List.foldl_cons, wr]; rw [ih]; rfl
theorem fill_eq (place : Nat → Option (Nat × Nat)) (ps : List (Nat × Value)) : ∀ (L L' : List Value), fillL place L ps = some L' → Instr.fill place L.toArray ps = some L'.toArray := by
  induction ps with
  | nil => intro L L' h; simp only [fillL, Option.some.injEq] at h; subst h; rfl
  | cons p ps ih =>
    intro L L' h
    obtain ⟨i, v⟩ := p
    simp only [fillL] at h
    simp only [Instr.fill]
    cases hp : place i with
    | none => rw [hp] at h; cases h
    | some q =>
      obtain ⟨off, n⟩ := q
      rw [hp] at h
      simp only at h ⊢
      split at h
      · rename_i hc
        have e : v.cells.zipIdx.foldl (fun cs x => cs.setIfInBounds (off + x.2) x.1) L.toArray = (wr L off v.cells.toList).toArray := by
          rw [← Array.foldl_toList, Array.toList_zipIdx]
          have := wr_fold v.cells.toList L off 0
          rw [Nat.add_zero] at this
          rw [← this]
          generalize v.cells.toList.zipIdx = z
          clear this h hc
          induction z generalizing L with
          | nil => rfl
          | cons a z ihz => simp only [List.foldl_cons, List.setIfInBounds_toArray]; exact ihz (L.set (off + a.2) a.1)
        rw [if_neg]
        · have := ih _ _ h
          rw [← e] at this
          exact this
        · simp only [Array.length_toList] at hc
          simp only [List.size_toArray, ne_eq, gt_iff_lt, Bool.or_eq_true, decide_eq_true_eq, not_or]
          omega
      · cases h
section
variable {r : Bool} {P : Program} {l : List Value} {H : Hp} {K : Value → Hp → Prop} {d : Option Tmp} {ty : TypeId} {pos : String} {aft : Array Edge} {g : Option (Nat × Bool)}
theorem hop_pick {c x y : Operand} {b : Bool} (hc : ev l c = .bool b) (h : K (if b then ev l x else ev l y) H) : hop r P ⟨d, .pick c x y, ty, pos, aft, g⟩ l H K := by
  unfold hop
  simp only [execOp, hc, asBool, hw_bind', hw_pure]
  exact ⟨_, .refl _, h⟩
theorem hw_places (fs : List Field) : ∀ {pl : List (Nat × Nat)}, fs.mapM (fun f => (P.info? f.type).map fun i => (f.offset, i.size)) = some pl → ∀ {Q : List (Nat × Nat) → Hp → Prop}, Q pl H →
    hw r P (fs.mapM fun f => (do pure (f.offset, ← sizeOf f.type) : Sem (Nat × Nat))) Q H := by
  induction fs with
  | nil => intro pl h Q hq; simp at h; subst h; exact hq
  | cons f fs ih =>
    intro pl h Q hq
    simp only [List.mapM_cons, Option.bind_eq_bind, Option.bind_eq_some_iff, Option.pure_def, Option.some.injEq] at h
    obtain ⟨p, hp, ps, hps, rfl⟩ := h
    cases e : P.info? f.type with
    | none => rw [e] at hp; cases hp
    | some i =>
      rw [e] at hp
      simp only [Option.map_some, Option.some.injEq] at hp
      subst hp
      haveI : Sz P f.type i.size := ⟨by rw [e]; rfl⟩
      simp only [List.mapM_cons, hw_bind', hw_sizeOf, hw_pure]
      refine ih hps ?_
      exact hq
theorem hop_build {t : TypeId} {parts : Array (Nat × Operand)} {pl : List (Nat × Nat)} {z : Value} {L : List Value} [hpl : Pl P t pl] [Zv P t z]
    (hf : fillL (fun i => pl[i]?) z.cells.toList (parts.toList.map fun p => (p.1, ev l p.2)) = some L) (h : K (.agg L.toArray) H) : hop r P ⟨d, .build t parts, ty, pos, aft, g⟩ l H K := by
  refine hop_of (Instr.build t (parts.map fun p => (p.1, ev l p.2))) (by simp [execOp]) ?_
  have hp := hpl.out
  unfold plOf at hp
  split at hp
  · rename_i fs hs
    haveI : Ty P t (.struct fs) := ⟨hs⟩
    simp only [Instr.build, hw_bind', hw_zeroValue, hw_underlying]
    rw [← Array.toArray_toList (xs := fs), List.mapM_toArray, hw_map]
    refine hw_places fs.toList hp ?_
    have e2 := fill_eq (fun i => pl[i]?) _ _ _ hf
    have e3 : (fun x : Nat => (pl.toArray)[x]?) = (fun i : Nat => pl[i]?) := by funext x; simp
    have e4 : (parts.map fun p => (p.1, ev l p.2)).toList = parts.toList.map fun p => (p.1, ev l p.2) := by simp
    rw [e3, e4]
    rw [Array.toArray_toList] at e2
    rw [e2]
    exact h
  · cases hp
theorem hop_buildA {t e n : TypeId} {parts : Array (Nat × Operand)} {sz : Nat} {z : Value} {L : List Value} [Ty P t (.array n e)] [Sz P e sz] [Zv P t z]
    (hf : fillL (fun i => some (i * sz, sz)) z.cells.toList (parts.toList.map fun p => (p.1, ev l p.2)) = some L) (h : K (.agg L.toArray) H) : hop r P ⟨d, .build t parts, ty, pos, aft, g⟩ l H K := by
  refine hop_of (Instr.build t (parts.map fun p => (p.1, ev l p.2))) (by simp [execOp]) ?_
  simp only [Instr.build, hw_bind', hw_zeroValue, hw_underlying, hw_sizeOf]
  have e2 := fill_eq _ _ _ _ hf
  rw [Array.toArray_toList] at e2
  have e4 : (parts.map fun p => (p.1, ev l p.2)).toList = parts.toList.map fun p => (p.1, ev l p.2) := by simp
  rw [e4, e2]
  exact h
theorem hop_buildSlice {t e : TypeId} {len : Nat} {parts : Array (Nat × Operand)} {sz : Nat} {z : Value} {L : List Value} [Ty P t (.slice e)] [Sz P e sz] [Zv P e z] (hz : z.cells.size = sz) (hs : 0 < sz) (hb : len * sz ≤ 65536)
    (hf : fillL (fun i => some (i * sz, sz)) (reps len z.cells.toList) (parts.toList.map fun p => (p.1, ev l p.2)) = some L)
    (h : ∀ b, H b = none → K (.slice (some ⟨b, 0, none⟩) len len) (H.set b (row L e))) : hop false P ⟨d, .buildSlice t len parts, ty, pos, aft, g⟩ l H K := by
  refine hop_of (Instr.buildSlice t len (parts.map fun p => (p.1, ev l p.2))) (by simp [execOp]) ?_
  simp only [Instr.buildSlice, hw_bind', hw_underlying, hw_sizeOf]
  rw [if_neg (by omega)]
  have e2 := fill_eq _ _ _ _ hf
  have e4 : (parts.map fun p => (p.1, ev l p.2)).toList = parts.toList.map fun p => (p.1, ev l p.2) := by simp
  by_cases hl : len * sz = 0
  · rw [if_pos hl]
    have : len = 0 := by
      rcases Nat.mul_eq_zero.1 hl with h | h <;> omega
    subst this
    simp only [hw_pure, hw_bind']
    have e5 : (Array.range (0 * sz)).map (fun x => (#[] : Array Value)[x % (#[] : Array Value).size]!) = (reps 0 z.cells.toList).toArray := by simp [reps]
    rw [e5, e4, e2]
    simp only [hw_bind', hw_newRow, hw_pure]
    exact ⟨trivial, h⟩
  · rw [if_neg hl]
    simp only [hw_bind', hw_zeroValue, hw_pure]
    have e5 : (Array.range (len * sz)).map (fun x => z.cells[x % z.cells.size]!) = (reps len z.cells.toList).toArray := by rw [← hz]; exact range_zero len z.cells (by omega)
    rw [e5, e4, e2]
    simp only [hw_bind', hw_newRow, hw_pure]
    exact ⟨trivial, h⟩
theorem hop_indexA {t e n : TypeId} {x ix : Operand} {cs : List Value} {k : IntKind} {i : Int} {sz : Nat} {v : Value} [Ty P t (.array n e)] [Sz P e sz] [Ag P e false] (hx : ev l x = .agg cs.toArray) (hi : ev l ix = .int k i)
    (h0 : 0 ≤ i) (h1 : i < n) (hv : cs[i.toNat * sz]? = some v) (h : K v H) : hop r P ⟨d, .index t x ix, ty, pos, aft, g⟩ l H K := by
  refine hop_of (Instr.index t (.agg cs.toArray) (.int k i)) (by simp [execOp, hx, hi]) ?_
  simp only [Instr.index, hw_bind', asIntOf, hw_pure, hw_underlying]
  rw [if_pos ⟨h0, h1⟩]
  simp only [hw_bind', hw_sizeOf, Go.part, hw_isAgg, Bool.false_eq_true, if_false]
  simpa [hv] using h
theorem hop_indexStr {t : TypeId} {x ix : Operand} {s : ByteArray} {k : IntKind} {i : Int} {c : UInt8} [Ty P t .string] (hx : ev l x = .string s) (hi : ev l ix = .int k i)
    (h0 : 0 ≤ i) (hc : s.data.toList[i.toNat]? = some c) (h : K (.int .u8 c.toNat) H) : hop r P ⟨d, .index t x ix, ty, pos, aft, g⟩ l H K := by
  refine hop_of (Instr.index t (.string s) (.int k i)) (by simp [execOp, hx, hi]) ?_
  simp only [Instr.index, hw_bind', asIntOf, hw_pure, hw_underlying]
  have e : (if 0 ≤ i then s[i.toNat]? else none) = some c := by
    rw [if_pos h0]
    have : s[i.toNat]? = s.data[i.toNat]? := by
      rcases Nat.lt_or_ge i.toNat s.size with hlt | hge
      · rw [getElem?_pos s _ hlt, Array.getElem?_eq_getElem (by exact hlt)]; rfl
      · rw [getElem?_neg s _ (by omega), Array.getElem?_eq_none (by exact hge)]
    rw [this]; simpa using hc
  rw [e]; exact h
theorem hop_convInt {s t : TypeId} {x : Operand} {j k : IntKind} {n : Int} {ds : TypeDesc} [Ty P s ds] [Ty P t (.int k)] (hx : ev l x = .int j n) (h : K (.int k (k.wrap n)) H) : hop r P ⟨d, .convert s t x, ty, pos, aft, g⟩ l H K := by
  refine hop_of (convert s t (.int j n)) (by simp [execOp, hx]) ?_
  simp only [convert, hw_bind', hw_underlying]
  exact h
theorem hop_neg {t : TypeId} {x : Operand} {k : IntKind} {n : Int} (hx : ev l x = .int k n) (h : K (.int k (k.wrap (0 - n))) H) : hop r P ⟨d, .unOp .neg t x, ty, pos, aft, g⟩ l H K := by
  refine hop_of (Op.unary .neg (.int k n)) (by simp [execOp, hx]) ?_
  exact h
theorem hw_equal {t : TypeId} {x y : Value} {Q : Bool → Hp → Prop} (h : ∀ n, hw r P (Op.equalIn (n + 1) t x y) Q H) : hw r P (Op.equal t x y) Q H := h 9999
theorem hw_eqBool {t : TypeId} [Ty P t .bool] {a b : Bool} {Q : Bool → Hp → Prop} (h : Q (a == b) H) (n : Nat) : hw r P (Op.equalIn (n + 1) t (.bool a) (.bool b)) Q H := by
  simp only [Op.equalIn, hw_bind', hw_underlying]; exact h
theorem hw_eqInt {t : TypeId} {k k' : IntKind} [Ty P t (.int k)] {a b : Int} {Q : Bool → Hp → Prop} (h : Q (a == b) H) (n : Nat) : hw r P (Op.equalIn (n + 1) t (.int k' a) (.int k' b)) Q H := by
  simp only [Op.equalIn, hw_bind', hw_underlying, if_true]; exact h
theorem hw_eqStr {t : TypeId} [Ty P t .string] {a b : ByteArray} {Q : Bool → Hp → Prop} (h : Q (a == b) H) (n : Nat) : hw r P (Op.equalIn (n + 1) t (.string a) (.string b)) Q H := by
  simp only [Op.equalIn, hw_bind', hw_underlying]; exact h
theorem hw_eqPtrNil {t e : TypeId} [Ty P t (.pointer e)] {a : Option Addr} {Q : Bool → Hp → Prop} (h : Q a.isNone H) (n : Nat) : hw r P (Op.equalIn (n + 1) t (.pointer a) (.pointer none)) Q H := by
  cases a <;> (simp only [Op.equalIn, hw_bind', hw_underlying]; exact h)
theorem hop_eqBool {t u : TypeId} {x y : Operand} {a b : Bool} [Ty P t .bool] (hx : ev l x = .bool a) (hy : ev l y = .bool b) (h : K (.bool (a == b)) H) : hop r P ⟨d, .binOp .eql t x y u, ty, pos, aft, g⟩ l H K := by
  refine hop_of (do let z ← Op.equal t (.bool a) (.bool b); pure (.bool z)) (by simp [execOp, hx, hy, eqGuard, binOp]) ?_
  rw [hw_bind']; exact hw_equal (hw_eqBool h)
theorem hop_neBool {t u : TypeId} {x y : Operand} {a b : Bool} [Ty P t .bool] (hx : ev l x = .bool a) (hy : ev l y = .bool b) (h : K (.bool (!(a == b))) H) : hop r P ⟨d, .binOp .neq t x y u, ty, pos, aft, g⟩ l H K := by
  refine hop_of (do let z ← Op.equal t (.bool a) (.bool b); pure (.bool (!z))) (by simp [execOp, hx, hy, eqGuard, binOp]) ?_
  rw [hw_bind']; exact hw_equal (hw_eqBool h)
theorem hop_str {op : BinOp} {t u : TypeId} {x y : Operand} {a b : ByteArray} {v : Value} (hx : ev l x = .string a) (hy : ev l y = .string b)
    (hv : match op with
      | .add => a.size + b.size ≤ 9223372036854775807 ∧ v = .string (a ++ b)
      | .eql => v = .bool (a.toList == b.toList)
      | .neq => v = .bool (!(a.toList == b.toList))
      | _ => False) (h : K v H) : hop r P ⟨d, .binOp op t x y u, ty, pos, aft, g⟩ l H K := by
  refine hop_of (do eqGuard op t x y (.string a) (.string b); binOp op t (.string a) (.string b)) (by simp [execOp, hx, hy]) ?_
  have hwm : IntKind.i64.max = 9223372036854775807 := by decide
  cases op <;> simp only at hv <;> first
    | (obtain ⟨hs, rfl⟩ := hv
       have hs' : ¬ (((a.size + b.size : Nat) : Int) > IntKind.i64.max) := by rw [hwm]; omega
       simp only [eqGuard, binOp, Op.stringOp, hw_bind']
       rw [if_neg hs']
       exact h)
    | (subst hv; simpa [eqGuard, binOp, Op.stringOp, hw_bind'] using h)
    | exact hv.elim
/-! ## pointers against nil -/
theorem hop_eqNil {t e u : TypeId} {x y : Operand} {a : Option Addr} [Ty P t (.pointer e)] (hx : ev l x = .pointer a) (hy : ev l y = .pointer none) (h : K (.bool a.isNone) H) : hop r P ⟨d, .binOp .eql t x y u, ty, pos, aft, g⟩ l H K := by
  refine hop_of (do let z ← Op.equal t (.pointer a) (.pointer none); pure (.bool z)) (by simp [execOp, hx, hy, eqGuard, binOp]) ?_
  rw [hw_bind']; exact hw_equal (hw_eqPtrNil h)
theorem hop_neNil {t e u : TypeId} {x y : Operand} {a : Option Addr} [Ty P t (.pointer e)] (hx : ev l x = .pointer a) (hy : ev l y = .pointer none) (h : K (.bool (!a.isNone)) H) : hop r P ⟨d, .binOp .neq t x y u, ty, pos, aft, g⟩ l H K := by
  refine hop_of (do let z ← Op.equal t (.pointer a) (.pointer none); pure (.bool (!z))) (by simp [execOp, hx, hy, eqGuard, binOp]) ?_
  rw [hw_bind']; exact hw_equal (hw_eqPtrNil h)
theorem hop_eqSliceNil {t e u : TypeId} {x y : Operand} {a : Option Addr} {n c : Nat} [Ty P t (.slice e)] (hx : ev l x = .slice a n c) (hy : ev l y = .slice none 0 0) (h : K (.bool a.isNone) H) : hop r P ⟨d, .binOp .eql t x y u, ty, pos, aft, g⟩ l H K := by
  refine hop_of (do let z ← Op.equal t (.slice a n c) (.slice none 0 0); pure (.bool z)) (by simp [execOp, hx, hy, eqGuard, binOp]) ?_
  rw [hw_bind']
  refine hw_equal (fun n => ?_)
  cases a <;> (simp only [Op.equalIn, hw_bind', hw_underlying]; exact h)
end
end Go.H
