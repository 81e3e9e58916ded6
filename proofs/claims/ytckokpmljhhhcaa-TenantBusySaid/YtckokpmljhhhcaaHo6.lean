/- A part of the proofs over the tenants of a page cache: lemmas on what is known of the memory, and contracts of the Go functions. -/
import Derived.Test.YtckokpmljhhhcaaHo5
import Derived.Laws.Externs
set_option linter.unusedVariables false
set_option linter.unusedSimpArgs false
namespace Go.H
open Go
section
variable {r : Bool} {P : Program} {l : List Value} {H : Hp} {K : Value → Hp → Prop} {d : Option Tmp} {ty : TypeId} {pos : String} {aft : Array Edge} {g : Option (Nat × Bool)}
/-- a function of the library's own, by its name -/
def extOf (P : Program) (f : FuncId) (n : String) : Bool := match P.funcs[f]? with
  | some fn => fn.name == n && fn.body.isNone && fn.origin == ""
  | none => false
class Ext (P : Program) (f : FuncId) (n : String) : Prop where out : extOf P f n = true
theorem add64_next (fn : Func) (h : fn.name = "math/bits.Add64") (ho : fn.origin = "") : Extern.findNext fn = none := by
  unfold Extern.findNext
  simp only [h, ho]
  have : Extern.allNextRows.lookup "math/bits.Add64" = none := by decide +kernel
  have h2 : Extern.allNextRows.lookup "" = none := by decide +kernel
  rw [this, h2]; rfl
open Extern.MathBitsCarry in
def add64e : Array Value → Sem Value := fun args => do
    let (x, y, c) ← three "Add64" args
    pure (pair ((x + y + c) % m64) ((x + y + c) / m64))
theorem add64_find (fn : Func) (h : fn.name = "math/bits.Add64") : Extern.find fn = some add64e := by
  unfold Extern.find
  simp only [h]
  have h1 : Extern.allGenericRows.lookup "math/bits.Add64" = none := by decide +kernel
  have h2 : Extern.allTypedRows.lookup "math/bits.Add64" = none := by decide +kernel
  have h3 : Extern.allRows.lookup "math/bits.Add64" = some add64e := by rfl
  rw [h1, h2, h3]; rfl
theorem add64_ok (a b : Nat) : add64e #[.int .u64 a, .int .u64 b, .int .u64 0] = pure (.tuple #[.int .u64 (((a + b) % 2 ^ 64 : Nat) : Int), .int .u64 (((a + b) / 2 ^ 64 : Nat) : Int)]) := by
  rfl
theorem hop_add64 {f : FuncId} {x y z : Operand} {at_ : Array TypeId} {a b : Nat} [he : Ext P f "math/bits.Add64"] (hx : ev l x = .int .u64 a) (hy : ev l y = .int .u64 b) (hz : ev l z = .int .u64 0)
    (h : K (.tuple #[.int .u64 (((a + b) % 2 ^ 64 : Nat) : Int), .int .u64 (((a + b) / 2 ^ 64 : Nat) : Int)]) H) :
    hop r P ⟨d, .call ⟨.value (.func f), #[x, y, z], at_⟩, ty, pos, aft, g⟩ l H K := by
  have he := he.out
  unfold extOf at he
  split at he
  · rename_i fn hfn
    simp only [Bool.and_eq_true, beq_iff_eq] at he
    have hf : ev l (.func f) = .func (.func f) #[] #[] := rfl
    unfold hop
    simp only [execOp, resolve, Deferred.ofValue, hw_bind', hw_pure, invoke, List.map_toArray, List.map_cons, List.map_nil, hx, hy, hz, hf]
    simp only [callFunc, hw_bind', hw_program, hfn]
    rw [if_neg (by rw [he.1.1]; decide), if_pos he.1.2]
    simp only [add64_next fn he.1.1 he.2, add64_find fn he.1.1, hw_bind', hw_pure, hw_mark]
    have e : (#[] ++ #[Value.int .u64 (a : Int), Value.int .u64 (b : Int), Value.int .u64 0] ++ #[] : Array Value) = #[.int .u64 (a : Int), .int .u64 (b : Int), .int .u64 0] := rfl
    rw [e, add64_ok]
    exact ⟨_, .refl _, h⟩
  · cases he
theorem hw_push (bs : List UInt8) : ∀ (acc : ByteArray) {Q : ByteArray → Hp → Prop}, Q ⟨acc.data ++ bs.toArray⟩ H →
    hw r P (forIn (bs.map fun b => Value.int .u8 b.toNat) acc fun c s => (match c with
      | .int .u8 n => pure (ForInStep.yield (s.push (UInt8.ofNat n.toNat)))
      | _ => stuck "bytesToString: byte expected" : Sem (ForInStep ByteArray))) Q H := by
  induction bs with
  | nil => intro acc Q h; simpa using h
  | cons b bs ih =>
    intro acc Q h
    simp only [List.map_cons, List.forIn_cons, hw_bind', hw_pure]
    refine ih _ ?_
    have e : (acc.push (UInt8.ofNat ((b.toNat : Int)).toNat)).data ++ bs.toArray = acc.data ++ (b :: bs).toArray := by
      simp [ByteArray.push]
    rw [e]; exact h
theorem hw_bytesToString {v : Value} {bs : List UInt8} (hv : ∃ a n c, v = .slice a n c) (hs : srcOk H 1 bs.length v (bs.map fun b => .int .u8 b.toNat)) {Q : Value → Hp → Prop} (h : Q (.string ⟨bs.toArray⟩) H) :
    hw r P (Conv.bytesToString v) Q H := by
  obtain ⟨a, n, c, rfl⟩ := hv
  rcases hs with ⟨a', n', c', he, rfl, hs⟩ | ⟨s, he, _⟩
  · cases he
    cases a with
    | none =>
      obtain ⟨h1, _⟩ := hs
      cases bs with
      | nil => exact h
      | cons _ _ => simp at h1
    | some a =>
      obtain ⟨b, o, s⟩ := a
      obtain ⟨rfl, L, t, hH, hl, hy⟩ := hs
      simp only [Conv.bytesToString, hw_bind']
      refine hw_loadCells hH (by simpa using hl) ?_
      have e : (L.drop o).take bs.length = bs.map fun b => Value.int .u8 b.toNat := by rw [hy]; simp
      rw [e]
      simp only [List.forIn_toArray]
      refine hw_push bs _ ?_
      simpa using h
  · cases he
theorem hop_convStr {s t e : TypeId} {x : Operand} {v : Value} {bs : List UInt8} [Ty P s (.slice e)] [Ty P e (.int .u8)] [Ty P t .string] (hx : ev l x = v) (hv : ∃ a n c, v = .slice a n c) (hs : srcOk H 1 bs.length v (bs.map fun b => .int .u8 b.toNat))
    (h : K (.string ⟨bs.toArray⟩) H) : hop r P ⟨d, .convert s t x, ty, pos, aft, g⟩ l H K := by
  obtain ⟨a, n, c, rfl⟩ := hv
  refine hop_of (convert s t (.slice a n c)) (by simp [execOp, hx]) ?_
  simp only [convert, hw_bind', hw_underlying]
  exact hw_bytesToString ⟨a, n, c, rfl⟩ hs h
end
section
variable {P : Program} {ops : Array Oper} {rest : List Oper} {l : List Value} {H : Hp} {K : List Value → Hp → Prop} {d : Option Tmp} {ty : TypeId} {pos : String} {aft : Array Edge}
theorem oM {x : Operand} (h : hops P ops rest (pt l d (ev l x)) H K) : hops P ops (⟨d, .move x, ty, pos, aft, none⟩ :: rest) l H K := hops_cons rfl (hop_move h)
theorem oA {x : Operand} (h : hops P ops rest (pt l d (ev l x)) H K) : hops P ops (⟨d, .assign x, ty, pos, aft, none⟩ :: rest) l H K := hops_cons rfl (hop_assign h)
theorem oF {s : TypeId} {x : Operand} {f b o off : Nat} [Fa P s f off] (hx : ev l x = .pointer (some ⟨b, o, none⟩)) (h : hops P ops rest (pt l d (.pointer (some ⟨b, o + off, none⟩))) H K) : hops P ops (⟨d, .fieldAddr s x f, ty, pos, aft, none⟩ :: rest) l H K := hops_cons rfl (hop_fieldAddr hx h)
theorem oN {x : Operand} {a : Addr} (hx : ev l x = .pointer (some a)) (h : hops P ops rest (pt l d (.pointer (some a))) H K) : hops P ops (⟨d, .nilCheck x, ty, pos, aft, none⟩ :: rest) l H K := hops_cons rfl (hop_nilCheck hx h)
theorem sR {P : Program} {Q : Exit → List Value → Hp → Prop} {l : List Value} {H : Hp} {id : Nat} {ops : List Oper} {y : Code} (h : hops P ops.toArray ops l H (hthen (hc P y Q) Q .normal)) : hc P (.seq (.region id ops.toArray false) y) Q l H := hc_seq (hc_region h)
end
end Go.H
