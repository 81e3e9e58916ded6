/- A part of the proofs over the tenants of a page cache: lemmas on what is known of the memory, and contracts of the Go functions. -/
import Derived.Test.YtckokpmljhhhcaaHo
set_option linter.unusedVariables false
set_option linter.unusedSimpArgs false
namespace Go.H
open Go
section
variable {r : Bool} {P : Program} {l : List Value} {H : Hp} {K : Value → Hp → Prop} {d : Option Tmp} {ty : TypeId} {pos : String} {aft : Array Edge} {g : Option (Nat × Bool)}
theorem hop_builtin {b : Builtin} {args : Array Operand} {at_ : Array TypeId} (s : Sem Value) (he : ∀ cs, builtin b at_ ty cs (args.map (ev l)) = (do pure (.value (← s)))) (h : hw r P s K H) :
    hop r P ⟨d, .call ⟨.builtin b, args, at_⟩, ty, pos, aft, g⟩ l H K := by
  unfold hop
  simp only [execOp, resolve, hw_bind', hw_pure, invoke]
  rw [he, hw_bind']
  exact hw_mono s (fun _ _ h => ⟨_, .refl _, h⟩) h
theorem hop_lenS {t e : TypeId} {x : Operand} {a : Option Addr} {n c : Nat} [Ty P t (.slice e)] (hx : ev l x = .slice a n c) (h : K (.int .i64 n) H) :
    hop r P ⟨d, .call ⟨.builtin .len, #[x], #[t]⟩, ty, pos, aft, g⟩ l H K := by
  refine hop_builtin (Builtin.len_ #[t] ty #[.slice a n c]) (fun _ => by simp [builtin, hx]) ?_
  simp only [Builtin.len_, List.getElem?_toArray, List.getElem?_cons_zero, hw_bind', hw_underlying]
  exact h
theorem hop_lenStr {t : TypeId} {x : Operand} {s : ByteArray} [Ty P t .string] (hx : ev l x = .string s) (h : K (.int .i64 s.size) H) :
    hop r P ⟨d, .call ⟨.builtin .len, #[x], #[t]⟩, ty, pos, aft, g⟩ l H K := by
  refine hop_builtin (Builtin.len_ #[t] ty #[.string s]) (fun _ => by simp [builtin, hx]) ?_
  simp only [Builtin.len_, List.getElem?_toArray, List.getElem?_cons_zero, hw_bind', hw_underlying]
  exact h
theorem hop_lenM {t k e : TypeId} {x : Operand} {b : Nat} {es : Array MapEntry} {ck : Nat} [Ty P t (.map k e)] (hx : ev l x = .map (some b)) (hH : H b = some (.map es ck)) (h : K (.int .i64 es.size) H) :
    hop r P ⟨d, .call ⟨.builtin .len, #[x], #[t]⟩, ty, pos, aft, g⟩ l H K := by
  refine hop_builtin (Builtin.len_ #[t] ty #[.map (some b)]) (fun _ => by simp [builtin, hx]) ?_
  simp only [Builtin.len_, List.getElem?_toArray, List.getElem?_cons_zero, hw_bind', hw_underlying]
  exact ⟨_, hH, rfl, h⟩
theorem hop_lenA {t e n : TypeId} {x : Operand} [Ty P t (.array n e)] (h : K (.int .i64 n) H) :
    hop r P ⟨d, .call ⟨.builtin .len, #[x], #[t]⟩, ty, pos, aft, g⟩ l H K := by
  refine hop_builtin (Builtin.len_ #[t] ty #[ev l x]) (fun _ => by simp [builtin]) ?_
  simp only [Builtin.len_, List.getElem?_toArray, List.getElem?_cons_zero, hw_bind', hw_underlying]
  exact h
/-! ## make, slices -/
theorem hw_typeInfo_bytes {t : TypeId} {n z : Nat} [hb : By P t n] [hs : Sz P t z] {Q : TypeInfo → Hp → Prop} (h : ∀ i, i.bytes = n → i.size = z → Q i H) : hw r P (typeInfo t) Q H := by
  have h1 := hb.out
  have h2 := hs.out
  cases e : P.info? t with
  | none => rw [e] at h1; cases h1
  | some i =>
    rw [e] at h1 h2
    rw [hw_typeInfo e]
    exact h i (by simpa using h1) (by simpa using h2)
/-- n elements of the zero cells -/
def reps (n : Nat) (z : List Value) : List Value := (List.replicate n z).flatten
theorem reps_length (n : Nat) (z : List Value) : (reps n z).length = n * z.length := by simp [reps]
theorem range_zero (n : Nat) (z : Array Value) (hz : 0 < z.size) : (Array.range (n * z.size)).map (fun i => z[i % z.size]!) = (reps n z.toList).toArray := by
  apply Array.ext
  · simp [reps_length]
  · intro i h1 h2
    simp only [Array.getElem_map, Array.getElem_range]
    have hlt : i % z.size < z.size := Nat.mod_lt _ hz
    rw [getElem!_pos z _ hlt]
    simp only [List.getElem_toArray]
    have key : ∀ (n i : Nat) (L : List Value), 0 < L.length → i < n * L.length → (reps n L)[i]? = L[i % L.length]? := by
      intro n
      induction n with
      | zero => intro i L _ h; omega
      | succ n ih =>
        intro i L hL h
        simp only [reps, List.replicate_succ, List.flatten_cons] at *
        by_cases hi : i < L.length
        · rw [List.getElem?_append_left hi, Nat.mod_eq_of_lt hi]
        · have hi' : L.length ≤ i := by omega
          rw [List.getElem?_append_right hi', ih (i - L.length) L hL (by rw [Nat.succ_mul] at h; omega), ← Nat.mod_eq_sub_mod hi']
    have hs : i < n * z.toList.length := by simpa using h1
    have := key n i z.toList (by simpa using hz) hs
    rw [List.getElem?_eq_getElem (by simpa [reps_length] using hs), List.getElem?_eq_getElem (by simpa using hlt)] at this
    simpa using (Option.some.inj this).symm
theorem hw_askRoom (n : Nat) (Q : Unit → Hp → Prop) : hw r P (askRoom n) Q H = Q () H := by unfold askRoom; split <;> rfl
theorem hop_makeSlice {t e : TypeId} {x y : Operand} {n bytes sz : Nat} {z : Value} [Ty P t (.slice e)] [By P e bytes] [Sz P e sz] [Zv P e z] (hx : ev l x = .int .i64 n) (hy : ev l y = .int .i64 n)
    (hz : z.cells.size = sz) (hp : 0 < sz) (hn : n ≤ 1048576) (hb : bytes ≤ 65536)
    (h : ∀ b, H b = none → K (.slice (some ⟨b, 0, none⟩) n n) (H.set b (row (reps n z.cells.toList) e))) : hop false P ⟨d, .makeSlice t x y, ty, pos, aft, g⟩ l H K := by
  refine hop_of (Instr.makeSlice t (.int .i64 n) (.int .i64 n)) (by simp [execOp, hx, hy]) ?_
  have hw64 : IntKind.i64.wrap n = n := by simp [IntKind.wrap, IntKind.bits, IntKind.signed]; omega
  have hbn : bytes * n ≤ 65536 * 1048576 := Nat.mul_le_mul hb hn
  simp only [Instr.makeSlice, hw_bind', hw_underlying, asInt, asIntOf, hw_pure]
  refine hw_typeInfo_bytes (n := bytes) (z := sz) fun i hi _ => ?_
  simp only [hi, hw64]
  rw [if_neg (by simp; omega)]
  simp only [hw_askRoom, Int.toNat_natCast, hw_bind', hw_sizeOf]
  by_cases hn0 : n = 0
  · subst hn0
    simp only [Nat.zero_mul, if_true, hw_bind', hw_pure]
    have e0 : Array.map (fun x => (#[] : Array Value)[x % (#[] : Array Value).size]!) (Array.range 0) = ([] : List Value).toArray := by simp
    rw [e0, hw_newRow]
    refine ⟨rfl, fun b hb => ?_⟩
    simpa [reps] using h b hb
  · rw [if_neg (Nat.ne_of_gt (Nat.mul_pos (by omega) hp))]
    simp only [hw_zeroValue, hw_bind', hw_pure]
    rw [← hz, range_zero n z.cells (by omega), hw_newRow]
    exact ⟨rfl, fun b hb => h b hb⟩
theorem hw_bound {x : Value} {i : Int} {y : Nat} {code : BoundsCode} {k : IntKind} {Q : Nat → Hp → Prop} (hx : x = .int k i) (h0 : 0 ≤ i) (h1 : i ≤ y) (h : Q i.toNat H) : hw r P (Instr.sliceBound x y code) Q H := by
  subst hx
  simp only [Instr.sliceBound, hw_bind', asIntOf, hw_pure]
  rw [if_pos ⟨h0, h1⟩]
  exact h
/-- the bounds of a slice expression -/
def bd (l : List Value) : Option Operand → Nat → Option Nat
  | none, n => some n
  | some x, _ => match ev l x with
    | .int _ i => if 0 ≤ i then some i.toNat else none
    | _ => none
theorem hw_bounds {isS : Bool} {len cap : Nat} {lo hi : Option Operand} {a b : Nat} {Q : Nat × Nat × Nat → Hp → Prop} (hlo : bd l lo 0 = some a) (hhi : bd l hi len = some b) (h1 : a ≤ b) (h2 : b ≤ cap)
    (h : Q (a, b, cap) H) : hw r P (Instr.sliceBounds isS len cap (lo.map (ev l)) (hi.map (ev l)) none) Q H := by
  have hb : ∀ (x : Operand) (n m : Nat), bd l (some x) n = some m → ∃ k i, ev l x = .int k i ∧ 0 ≤ i ∧ i.toNat = m := by
    intro x n m e
    simp only [bd] at e
    split at e
    · rename_i k i hx
      split at e
      · cases e; exact ⟨k, i, hx, by assumption, rfl⟩
      · cases e
    · cases e
  cases hi with
  | none =>
    simp only [bd, Option.some.injEq] at hhi; subst hhi
    cases lo with
    | none =>
      simp only [bd, Option.some.injEq] at hlo; subst hlo
      simpa only [Instr.sliceBounds, hw_bind', hw_pure, Option.map_none] using h
    | some x =>
      obtain ⟨k, i, hx, h0, rfl⟩ := hb x _ _ hlo
      simp only [Instr.sliceBounds, hw_bind', hw_pure, Option.map_none, Option.map_some]
      exact hw_bound hx h0 (by omega) h
  | some y =>
    obtain ⟨k, i, hy, h0, rfl⟩ := hb y _ _ hhi
    cases lo with
    | none =>
      simp only [bd, Option.some.injEq] at hlo; subst hlo
      simp only [Instr.sliceBounds, hw_bind', hw_pure, Option.map_none, Option.map_some]
      exact hw_bound hy h0 (by omega) h
    | some x =>
      obtain ⟨k', i', hx, h0', rfl⟩ := hb x _ _ hlo
      simp only [Instr.sliceBounds, hw_bind', hw_pure, Option.map_some]
      refine hw_bound hy h0 (by omega) ?_
      exact hw_bound hx h0' (by omega) h
theorem hop_sliceS {t e : TypeId} {x : Operand} {lo hi : Option Operand} {b o len cap a c sz : Nat} [Ty P t (.slice e)] [Sz P e sz] (hx : ev l x = .slice (some ⟨b, o, none⟩) len cap)
    (hlo : bd l lo 0 = some a) (hhi : bd l hi len = some c) (h1 : a ≤ c) (h2 : c ≤ cap)
    (h : K (.slice (some ⟨b, if cap = a then o else o + a * sz, none⟩) (c - a) (cap - a)) H) : hop r P ⟨d, .slice t x lo hi none, ty, pos, aft, g⟩ l H K := by
  refine hop_of (Instr.sliceAt t (.slice (some ⟨b, o, none⟩) len cap) (lo.map (ev l)) (hi.map (ev l)) none) (by simp [execOp, hx]) ?_
  simp only [Instr.sliceAt, hw_bind', hw_underlying, Instr.slice]
  refine hw_bounds hlo hhi h1 h2 ?_
  simp only [hw_sizeOf, hw_pure, Option.map_some, add_none]
  split <;> simp_all
theorem hop_sliceNil {t e : TypeId} {x : Operand} {lo hi : Option Operand} {sz : Nat} [Ty P t (.slice e)] [Sz P e sz] (hx : ev l x = .slice none 0 0)
    (hlo : bd l lo 0 = some 0) (hhi : bd l hi 0 = some 0)
    (h : K (.slice none 0 0) H) : hop r P ⟨d, .slice t x lo hi none, ty, pos, aft, g⟩ l H K := by
  refine hop_of (Instr.sliceAt t (.slice none 0 0) (lo.map (ev l)) (hi.map (ev l)) none) (by simp [execOp, hx]) ?_
  simp only [Instr.sliceAt, hw_bind', hw_underlying, Instr.slice]
  refine hw_bounds hlo hhi (Nat.le_refl _) (Nat.le_refl _) ?_
  simp only [hw_sizeOf, hw_pure]
  exact h
theorem hop_sliceA {t e : TypeId} {x : Operand} {lo hi : Option Operand} {b o n a c sz : Nat} [Ty P t (.array n e)] [Sz P e sz] (hx : ev l x = .pointer (some ⟨b, o, none⟩))
    (hlo : bd l lo 0 = some a) (hhi : bd l hi n = some c) (h1 : a ≤ c) (h2 : c ≤ n)
    (h : K (.slice (some ⟨b, if n = a then o else o + a * sz, none⟩) (c - a) (n - a)) H) : hop r P ⟨d, .slice t x lo hi none, ty, pos, aft, g⟩ l H K := by
  refine hop_of (Instr.sliceAt t (.pointer (some ⟨b, o, none⟩)) (lo.map (ev l)) (hi.map (ev l)) none) (by simp [execOp, hx]) ?_
  simp only [Instr.sliceAt, hw_bind', hw_underlying, Instr.sureAddr, hw_pure]
  refine hw_bounds hlo hhi h1 h2 ?_
  simp only [hw_sizeOf, add_none]
  split <;> simp_all
theorem hop_sliceAll {t e : TypeId} {x : Operand} {b o n sz : Nat} [Ty P t (.array n e)] [Sz P e sz] (hx : ev l x = .pointer (some ⟨b, o, none⟩)) (h : K (.slice (some ⟨b, o, none⟩) n n) H) : hop r P ⟨d, .slice t x none none none, ty, pos, aft, g⟩ l H K := by
  refine hop_sliceA (a := 0) (c := n) hx rfl rfl (Nat.zero_le _) (Nat.le_refl _) ?_
  simpa using h
theorem hop_toArrayPtr {t e : TypeId} {x : Operand} {a : Option Addr} {n len cap : Nat} [Ty P t (.array n e)] (hx : ev l x = .slice a len cap) (hl : n ≤ len) (h : K (.pointer a) H) : hop r P ⟨d, .sliceToArrayPointer t x, ty, pos, aft, g⟩ l H K := by
  refine hop_of (Instr.arrayAt t (.slice a len cap)) (by simp [execOp, hx]) ?_
  simp only [Instr.arrayAt, hw_bind', hw_underlying]
  rw [if_neg (by omega)]
  exact h
end
end Go.H
