/- A part of the proofs over the tenants of a page cache: lemmas on what is known of the memory, and contracts of the Go functions. -/
import Derived.Test.YtckokpmljhhhcaaHo4
set_option linter.unusedVariables false
set_option linter.unusedSimpArgs false
namespace Go.H
open Go
/-! ## Maps keyed by ints -/
def kInt (e : MapEntry) (k : Int) : Bool := match e.key with
  | .int .i64 j => j == k
  | _ => false
def kfind (k : Int) : List MapEntry → Option Value
  | [] => none
  | e :: es => if kInt e k then some e.val else kfind k es
/-- a map's block that reads as f -/
structure MapI (o : Obj) (f : Int → Option Value) : Prop where
  ex : ∃ es ck, o = .map es ck ∧ (∀ e ∈ es.toList, ∃ j, e.key = .int .i64 j) ∧ es.toList.Pairwise (fun a b => a.key ≠ b.key ∧ a.born ≠ b.born) ∧ (∀ e ∈ es.toList, e.born < ck) ∧ ∀ k, kfind k es.toList = f k
theorem MapI.empty (ck : Nat) : MapI (.map #[] ck) (fun _ => none) := ⟨#[], ck, rfl, by simp, by simp, by simp, fun _ => rfl⟩
theorem MapI.congr {o : Obj} {f f' : Int → Option Value} (h : MapI o f) (e : ∀ k, f k = f' k) : MapI o f' := by
  have : f = f' := funext e
  exact this ▸ h
def ifound (k : Int) : List MapEntry → Nat → Option (Nat × Value)
  | [], _ => none
  | e :: es, i => if kInt e k then some (i, e.val) else ifound k es (i + 1)
theorem ifound_find (k : Int) (es : List MapEntry) : ∀ i, (ifound k es i).map (·.2) = kfind k es := by
  induction es with
  | nil => intro i; rfl
  | cons e es ih => intro i; simp only [ifound, kfind]; split <;> simp_all
theorem ifound_spec (k : Int) (es : List MapEntry) : ∀ i j v, ifound k es i = some (j, v) → i ≤ j ∧ ∃ e, es[j - i]? = some e ∧ kInt e k = true ∧ e.val = v := by
  induction es with
  | nil => intro i j v h; cases h
  | cons e es ih =>
    intro i j v h
    simp only [ifound] at h
    split at h
    · cases h; exact ⟨Nat.le_refl _, e, by simp, by assumption, rfl⟩
    · obtain ⟨h1, x, hx, hk, hv⟩ := ih _ _ _ h
      refine ⟨by omega, x, ?_, hk, hv⟩
      obtain ⟨m, rfl⟩ : ∃ m, j = i + 1 + m := ⟨j - (i + 1), by omega⟩
      have e1 : i + 1 + m - i = m + 1 := by omega
      have e2 : i + 1 + m - (i + 1) = m := by omega
      rw [e1]; rw [e2] at hx; simpa using hx
theorem kInt_iff {e : MapEntry} {k : Int} : kInt e k = true ↔ e.key = .int .i64 k := by
  unfold kInt
  split
  · rename_i j h; rw [h]; simp
  · rename_i h; constructor
    · intro h'; cases h'
    · intro h'; exact absurd h' (h k)
/-- a method that is promoted out of an embedded struct behind a pointer -/
def mthOf (P : Program) (t : TypeId) (name : String) : Option (FuncId × Nat) :=
  match P.info? t with
  | some i => match i.methods.find? (·.name == name) with
    | some m => match m.path.toList, m.func with
      | [s], some (f, true) => if s.deref then match P.underlying s.struct with
          | some (.struct fs) => match fs[s.index]? with
            | some fl => match (P.info? fl.type).map (·.size), P.underlying fl.type with
              | some (_ + 1), some (.struct _) => match P.underlying t with
                | some (.interface _) => none
                | some _ => some (f, fl.offset)
                | none => none
              | _, _ => none
            | none => none
          | _ => none
        else none
      | _, _ => none
    | none => none
  | none => none
class Mth (P : Program) (t : TypeId) (name : String) (f : outParam FuncId) (off : outParam Nat) : Prop where out : mthOf P t name = some (f, off)
section
variable {r : Bool} {P : Program} {l : List Value} {H : Hp} {K : Value → Hp → Prop} {d : Option Tmp} {ty : TypeId} {pos : String} {aft : Array Edge} {g : Option (Nat × Bool)}
theorem hw_getObj (b : Nat) (Q : Obj → Hp → Prop) : hw r P (getObj b) Q H = ∃ o, H b = some o ∧ Hp.shape o = none ∧ Q o H := rfl
theorem hw_setObj (b : Nat) (o : Obj) (Q : Unit → Hp → Prop) : hw r P (setObj b o) Q H = (r = false ∧ (∃ o', H b = some o' ∧ Hp.shape o' = none) ∧ Q () (H.set b o)) := rfl
theorem findNow_int (k : Int) (es : List MapEntry) (hk : ∀ e ∈ es, ∃ j, e.key = .int .i64 j) : ∀ i, Instr.findNow (.int .i64) (.int .i64 k) es i = some (ifound k es i) := by
  induction es with
  | nil => intro i; rfl
  | cons e es ih =>
    intro i
    obtain ⟨j, hj⟩ := hk e (by simp)
    have ih' := ih (fun e he => hk e (by simp [he])) (i + 1)
    by_cases hkj : k = j
    · subst hkj
      simp [Instr.findNow, Instr.sameNow, ifound, kInt, hj]
    · have h1 : (k == j) = false := by simpa using hkj
      have h2 : (j == k) = false := by simpa using (Ne.symm hkj)
      simp [Instr.findNow, Instr.sameNow, ifound, kInt, hj, h1, h2, ih']
theorem hw_checkKey {t : TypeId} {b : Bool} {n : Nat} {v : Value} [Ty P t (.int .i64)] {Q : Unit → Hp → Prop} (h : Q () H) : hw r P (Instr.checkKey b (n + 1) t v) Q H := by
  simp only [Instr.checkKey, hw_bind', hw_underlying]; exact h
theorem hop_lookup {t key e : TypeId} {x ix : Operand} {b : Nat} {o : Obj} {f : Int → Option Value} {k : Int} {z v : Value} {c : Bool} [Ty P t (.map key e)] [Ty P key (.int .i64)] [Zv P e z]
    (hx : ev l x = .map (some b)) (hi : ev l ix = .int .i64 k) (hH : H b = some o) (hm : MapI o f) (hv : v = (f k).getD z)
    (h : K (if c then .tuple #[v, .bool (f k).isSome] else v) H) : hop r P ⟨d, .lookup t x ix c, ty, pos, aft, g⟩ l H K := by
  obtain ⟨es, ck, rfl, hk, _, _, hf⟩ := hm.ex
  refine hop_of (Instr.lookup t (.map (some b)) (.int .i64 k) c) (by simp [execOp, hx, hi]) ?_
  simp only [Instr.lookup, hw_bind', hw_underlying, hw_getObj]
  refine ⟨_, hH, rfl, ?_⟩
  simp only [hw_pure, hw_bind']
  refine hw_checkKey (n := 9999) ?_
  have hfd := ifound_find k es.toList 0
  rw [hf k] at hfd
  simp only [Instr.findKey, hw_bind', hw_underlying, findNow_int k es.toList hk, hw_pure]
  subst hv
  cases hi' : ifound k es.toList 0 with
  | none =>
    rw [hi'] at hfd
    simp only [Option.map_none] at hfd
    simp only [hw_bind', hw_zeroValue, hw_pure]
    rw [← hfd] at h
    cases c <;> simpa using h
  | some p =>
    rw [hi'] at hfd
    obtain ⟨i, v⟩ := p
    simp only [Option.map_some] at hfd
    simp only
    rw [← hfd] at h
    cases c <;> simpa using h
theorem hop_lookupNil {t key e : TypeId} {x ix : Operand} {k : Int} {z : Value} {c : Bool} [Ty P t (.map key e)] [Ty P key (.int .i64)] [Zv P e z]
    (hx : ev l x = .map none) (hi : ev l ix = .int .i64 k) (h : K (if c then .tuple #[z, .bool false] else z) H) : hop r P ⟨d, .lookup t x ix c, ty, pos, aft, g⟩ l H K := by
  refine hop_of (Instr.lookup t (.map none) (.int .i64 k) c) (by simp [execOp, hx, hi]) ?_
  simp only [Instr.lookup, hw_bind', hw_underlying, hw_pure]
  refine hw_checkKey (n := 9999) ?_
  simp only [Instr.findKey, hw_bind', hw_underlying, Instr.findNow, hw_pure, hw_zeroValue]
  cases c <;> simpa using h
def upd (f : Int → Option Value) (k : Int) (v : Option Value) : Int → Option Value := fun x => if x = k then v else f x
theorem kfind_push (k : Int) (es : List MapEntry) (e : MapEntry) : kfind k (es ++ [e]) = match kfind k es with
    | some v => some v
    | none => if kInt e k then some e.val else none := by
  induction es with
  | nil => simp only [List.nil_append, kfind]
  | cons a es ih => simp only [List.cons_append, kfind]; split <;> simp_all
theorem kfind_none {k : Int} {es : List MapEntry} (h : kfind k es = none) : ∀ e ∈ es, kInt e k = false := by
  induction es with
  | nil => simp
  | cons a es ih =>
    simp only [kfind] at h
    split at h
    · cases h
    · intro e he
      rcases List.mem_cons.1 he with rfl | he
      · simpa using (by assumption : ¬ kInt _ k = true)
      · exact ih h e he
theorem ifound_none {k : Int} {es : List MapEntry} (i : Nat) (h : ifound k es i = none) : kfind k es = none := by
  have := ifound_find k es i; rw [h] at this; exact this.symm
theorem kfind_modify (k j : Int) (v : Value) (es : List MapEntry) : ∀ (n : Nat) (i : Nat) (u : Value), ifound k es n = some (n + i, u) →
    kfind j (es.modify i fun e => { e with key := .int .i64 k, val := v }) = if j = k then some v else kfind j es := by
  induction es with
  | nil => intro n i u h; cases h
  | cons e es ih =>
    intro n i u h
    simp only [ifound] at h
    split at h
    · rename_i hk
      have : i = 0 := by simp only [Option.some.injEq, Prod.mk.injEq] at h; omega
      subst this
      have hke := kInt_iff.1 hk
      simp only [List.modify_zero_cons, kfind]
      by_cases hj : j = k
      · subst hj; simp [kInt]
      · have h1 : ¬ k = j := fun x => hj x.symm
        simp [kInt, hke, hj, h1]
    · rename_i hk
      cases i with
      | zero =>
        have := (ifound_spec k es (n + 1) (n + 0) u h).1
        omega
      | succ i =>
        have h' : ifound k es (n + 1) = some (n + 1 + i, u) := by rw [h]; congr 2; omega
        simp only [List.modify_succ_cons, kfind]
        by_cases hj : j = k
        · subst hj
          rw [if_neg hk, ih (n + 1) i u h']
          simp
        · rw [ih (n + 1) i u h']
          simp [hj]
theorem hop_mapUpdate {t key e : TypeId} {m x y : Operand} {b : Nat} {o : Obj} {f : Int → Option Value} {k : Int} {v : Value} [Ty P t (.map key e)] [Ty P key (.int .i64)]
    (hm' : ev l m = .map (some b)) (hx : ev l x = .int .i64 k) (hy : ev l y = v) (hH : H b = some o) (hm : MapI o f)
    (h : ∀ o', MapI o' (upd f k (some v)) → K undef (H.set b o')) : hop false P ⟨d, .mapUpdate t m x y, ty, pos, aft, g⟩ l H K := by
  obtain ⟨es, ck, rfl, hk, hp, hborn, hf⟩ := hm.ex
  unfold hop
  have he : execOp (ev l) ⟨d, .mapUpdate t m x y, ty, pos, aft, g⟩ = (do Instr.mapUpdate t (.map (some b)) (.int .i64 k) v; pure .skip) := by simp [execOp, hm', hx, hy]
  rw [he, hw_bind']
  simp only [Instr.mapUpdate, hw_bind', hw_underlying, hw_getObj]
  refine ⟨_, hH, rfl, ?_⟩
  simp only [hw_bind']
  refine hw_checkKey (n := 9999) ?_
  simp only [Instr.findKey, hw_bind', hw_underlying, findNow_int k es.toList hk, hw_pure]
  cases hi' : ifound k es.toList 0 with
  | none =>
    have hno := ifound_none 0 hi'
    refine ⟨rfl, ⟨_, hH, rfl⟩, _, .refl _, rfl, h _ ⟨es.push { key := .int .i64 k, val := v, born := ck }, ck + 1, rfl, ?_, ?_, ?_, ?_⟩⟩
    · intro e he
      simp only [Array.toList_push, List.mem_append, List.mem_singleton] at he
      rcases he with he | rfl
      · exact hk e he
      · exact ⟨k, rfl⟩
    · simp only [Array.toList_push]
      refine List.pairwise_append.2 ⟨hp, by simp, ?_⟩
      intro a ha c hc
      simp only [List.mem_singleton] at hc
      subst hc
      refine ⟨?_, ?_⟩
      · have := kfind_none hno a ha
        intro e
        rw [kInt_iff.2 e] at this; cases this
      · have := hborn a ha
        intro e; simp only at e; omega
    · intro e he
      simp only [Array.toList_push, List.mem_append, List.mem_singleton] at he
      rcases he with he | rfl
      · have := hborn e he; omega
      · simp
    · intro j
      simp only [Array.toList_push, kfind_push, upd]
      by_cases hj : j = k
      · subst hj; simp [hno, kInt]
      · have h1 : ¬ k = j := fun x => hj x.symm
        rw [hf j]
        cases f j <;> simp [kInt, hj, h1]
  | some p =>
    obtain ⟨i, u⟩ := p
    obtain ⟨_, en, hen, hke, hve⟩ := ifound_spec _ _ _ _ _ hi'
    have hen' : es[i]? = some en := by simpa using hen
    simp only [hw_bind', hen', Option.map_some, Option.getD_some, kInt_iff.1 hke]
    have hst : hw false P (Instr.keyThatStays (.int .i64 k) (.int .i64 k)) (fun a H => hw false P (setObj b (.map (es.modify i fun e => { e with key := a, val := v }) ck)) (fun _ H => hw false P (pure Next.skip) (fun n H' => ∃ H'', Sub H'' H' ∧ hnext false P K n H'') H) H) H := by
      unfold Instr.keyThatStays
      rw [if_pos (by unfold Instr.sameBits; simp)]
      refine ⟨rfl, ⟨_, hH, rfl⟩, _, .refl _, rfl, h _ ⟨_, ck, rfl, ?_, ?_, ?_, ?_⟩⟩
      · intro e he
        simp only [Array.toList_modify] at he
        obtain ⟨n, hn⟩ := List.mem_iff_getElem?.1 he
        rw [List.getElem?_modify] at hn
        split at hn
        · cases hh : es.toList[n]? with
          | none => rw [hh] at hn; simp at hn
          | some x => rw [hh] at hn; simp at hn; exact ⟨k, by rw [← hn]⟩
        · exact hk e (List.mem_of_getElem? (by simpa using hn))
      · simp only [Array.toList_modify]
        have hmap : (es.toList.modify i fun e => { e with key := .int .i64 k, val := v }).map (fun e => (e.key, e.born)) = es.toList.map (fun e => (e.key, e.born)) := by
          apply List.ext_getElem?
          intro n
          simp only [List.getElem?_map, List.getElem?_modify]
          by_cases hn : i = n
          · subst hn
            simp only [Nat.sub_zero] at hen
            rw [hen]
            simp [kInt_iff.1 hke]
          · cases es.toList[n]? <;> simp [hn]
        have h2 : (es.toList.map (fun e => (e.key, e.born))).Pairwise (fun a b => a.1 ≠ b.1 ∧ a.2 ≠ b.2) := by
          rw [List.pairwise_map]; exact hp
        rw [← hmap, List.pairwise_map] at h2
        exact h2
      · intro e he
        simp only [Array.toList_modify] at he
        obtain ⟨n, hn⟩ := List.mem_iff_getElem?.1 he
        rw [List.getElem?_modify] at hn
        split at hn
        · cases hh : es.toList[n]? with
          | none => rw [hh] at hn; simp at hn
          | some x =>
            rw [hh] at hn; simp at hn
            have := hborn x (List.mem_of_getElem? hh)
            rw [← hn]; exact this
        · exact hborn e (List.mem_of_getElem? (by simpa using hn))
      · intro j
        simp only [Array.toList_modify, upd]
        rw [kfind_modify k j v es.toList 0 i u (by simpa using hi'), hf j]
    exact hst
theorem kfind_erase (k j : Int) (es : List MapEntry) : ∀ (n i : Nat) (u : Value), es.Pairwise (fun a b => a.key ≠ b.key ∧ a.born ≠ b.born) → ifound k es n = some (n + i, u) →
    kfind j (es.eraseIdx i) = if j = k then none else kfind j es := by
  induction es with
  | nil => intro n i u _ h; cases h
  | cons e es ih =>
    intro n i u hp h
    simp only [ifound] at h
    rw [List.pairwise_cons] at hp
    split at h
    · rename_i hk
      have : i = 0 := by simp only [Option.some.injEq, Prod.mk.injEq] at h; omega
      subst this
      have hke := kInt_iff.1 hk
      simp only [List.eraseIdx_cons_zero, kfind]
      by_cases hj : j = k
      · subst hj
        rw [if_pos rfl]
        cases hf : kfind j es with
        | none => rfl
        | some w =>
          exfalso
          have : ∃ x ∈ es, kInt x j = true := by
            clear ih hp h
            induction es with
            | nil => cases hf
            | cons a es ih2 =>
              simp only [kfind] at hf
              split at hf
              · exact ⟨a, by simp, by assumption⟩
              · obtain ⟨x, hx, hh⟩ := ih2 hf; exact ⟨x, by simp [hx], hh⟩
          obtain ⟨x, hx, hh⟩ := this
          exact (hp.1 x hx).1 (by rw [hke, kInt_iff.1 hh])
      · have h1 : ¬ k = j := fun x => hj x.symm
        simp [kInt, hke, hj, h1]
    · rename_i hk
      cases i with
      | zero =>
        have := (ifound_spec k es (n + 1) (n + 0) u h).1
        omega
      | succ i =>
        have h' : ifound k es (n + 1) = some (n + 1 + i, u) := by rw [h]; congr 2; omega
        simp only [List.eraseIdx_cons_succ, kfind]
        by_cases hj : j = k
        · subst hj
          rw [if_neg hk, ih (n + 1) i u hp.2 h']
          simp
        · rw [ih (n + 1) i u hp.2 h']
          simp [hj]
theorem hop_delete {t key e u : TypeId} {m x : Operand} {b : Nat} {o : Obj} {f : Int → Option Value} {k : Int} [Ty P t (.map key e)] [Ty P key (.int .i64)]
    (hm' : ev l m = .map (some b)) (hx : ev l x = .int .i64 k) (hH : H b = some o) (hm : MapI o f)
    (h : ∀ o', MapI o' (upd f k none) → K (.tuple #[]) (H.set b o')) : hop false P ⟨d, .call ⟨.builtin .delete, #[m, x], #[t, u]⟩, ty, pos, aft, g⟩ l H K := by
  obtain ⟨es, ck, rfl, hk, hp, hborn, hf⟩ := hm.ex
  refine hop_builtin (Builtin.delete_ #[t, u] ty #[.map (some b), .int .i64 k]) (fun _ => by simp [builtin, hm', hx]) ?_
  simp only [Builtin.delete_, List.getElem?_toArray, List.getElem?_cons_zero, List.getElem?_cons_succ, hw_bind', hw_underlying, hw_getObj]
  refine ⟨_, hH, rfl, ?_⟩
  simp only [hw_bind']
  refine hw_checkKey (n := 9999) ?_
  simp only [Instr.findKey, hw_bind', hw_underlying, findNow_int k es.toList hk, hw_pure]
  cases hi' : ifound k es.toList 0 with
  | none =>
    have hno := ifound_none 0 hi'
    simp only [hw_bind', hw_setObj]
    refine ⟨trivial, ⟨_, hH, rfl⟩, h _ ⟨es, ck, rfl, hk, hp, hborn, ?_⟩⟩
    intro j
    simp only [upd]
    by_cases hj : j = k
    · subst hj; simp [hno]
    · simp [hj, hf j]
  | some p =>
    obtain ⟨i, u⟩ := p
    simp only [hw_bind', hw_setObj]
    have el : (es.eraseIdxIfInBounds i).toList = es.toList.eraseIdx i := by
      unfold Array.eraseIdxIfInBounds
      split
      · simp
      · rw [List.eraseIdx_of_length_le]; simpa using (by omega)
    refine ⟨trivial, ⟨_, hH, rfl⟩, h _ ⟨_, ck, rfl, ?_, ?_, ?_, ?_⟩⟩
    · rw [el]; exact fun e he => hk e (List.mem_of_mem_eraseIdx he)
    · rw [el]; exact hp.sublist (List.eraseIdx_sublist _ _)
    · rw [el]; exact fun e he => hborn e (List.mem_of_mem_eraseIdx he)
    · intro j
      rw [el, kfind_erase k j es.toList 0 i u hp (by simpa using hi')]
      simp only [upd, hf j]
theorem hop_clearM {t key e : TypeId} {m : Operand} {b : Nat} {o : Obj} {f : Int → Option Value} [Ty P t (.map key e)] (hm' : ev l m = .map (some b)) (hH : H b = some o) (hm : MapI o f)
    (h : ∀ o', MapI o' (fun _ => none) → K (.tuple #[]) (H.set b o')) : hop false P ⟨d, .call ⟨.builtin .clear, #[m], #[t]⟩, ty, pos, aft, g⟩ l H K := by
  obtain ⟨es, ck, rfl, hk, hp, hborn, hf⟩ := hm.ex
  refine hop_builtin (Builtin.clear_ #[t] ty #[.map (some b)]) (fun _ => by simp [builtin, hm']) ?_
  simp only [Builtin.clear_, List.getElem?_toArray, List.getElem?_cons_zero, hw_bind', hw_underlying, hw_getObj]
  exact ⟨_, hH, rfl, rfl, ⟨_, hH, rfl⟩, h _ (MapI.empty ck)⟩
theorem hop_clearS {t e : TypeId} {x : Operand} {b o n cap sz : Nat} {L : List Value} {t' : TypeId} {z : Value} [Ty P t (.slice e)] [Sz P e sz] [Zv P e z] (hx : ev l x = .slice (some ⟨b, o, none⟩) n cap) (hH : H b = some (row L t'))
    (hz : z.cells.size = sz) (hs : 0 < sz) (hn : 0 < n) (hl : o + n * sz ≤ L.length) (hv : ∀ v ∈ z.cells.toList, v.oneCell' = true)
    (h : K (.tuple #[]) (H.set b (row (wr L o (reps n z.cells.toList)) t'))) : hop false P ⟨d, .call ⟨.builtin .clear, #[x], #[t]⟩, ty, pos, aft, g⟩ l H K := by
  refine hop_builtin (Builtin.clear_ #[t] ty #[.slice (some ⟨b, o, none⟩) n cap]) (fun _ => by simp [builtin, hx]) ?_
  have ez : Builtin.zeroCells z.cells n = (reps n z.cells.toList).toArray := by unfold Builtin.zeroCells; exact range_zero n z.cells (by omega)
  have hrl : (reps n z.cells.toList).length = n * sz := by rw [reps_length]; simp [hz]
  obtain ⟨m, rfl⟩ : ∃ m, n = m + 1 := ⟨n - 1, by omega⟩
  simp only [Builtin.clear_, List.getElem?_toArray, List.getElem?_cons_zero, hw_bind', hw_underlying, hw_zeroValue, ez]
  refine hw_storeCells _ L H 0 _ hH (by rw [hrl]; omega) ?_ ?_
  · intro v hv'
    simp only [reps, List.mem_flatten, List.mem_replicate] at hv'
    obtain ⟨q, ⟨_, rfl⟩, hq⟩ := hv'
    exact hv v hq
  · rw [if_neg]
    · exact h
    · intro e0
      rw [e0] at hrl
      simp only [List.length_nil] at hrl
      have := Nat.mul_pos (show 0 < m + 1 by omega) hs
      omega
theorem hop_makeMap {t : TypeId} (h : ∀ b o, H b = none → MapI o (fun _ => none) → K (.map (some b)) (H.set b o)) : hop false P ⟨d, .makeMap t none, ty, pos, aft, g⟩ l H K := by
  refine hop_of (Instr.makeMap t none) (by simp [execOp]) ?_
  simp only [Instr.makeMap, hw_bind', hw_pure, hw_newObj]
  exact ⟨trivial, fun b hb => h b _ hb (MapI.empty 0)⟩
theorem hop_callm {t : TypeId} {name : String} {f : FuncId} {off b o : Nat} {x y : Operand} {at_ : Array TypeId} [hm : Mth P t name f off] [Ent P f] (hx : ev l x = .func (.methodOf t name) #[] #[]) (hy : ev l y = .pointer (some ⟨b, o, none⟩))
    (h : HT P f #[.pointer (some ⟨b, o + off, none⟩)] H K) : hop false P ⟨d, .call ⟨.value x, #[y], at_⟩, ty, pos, aft, g⟩ l H K := by
  have hm := hm.out
  unfold mthOf at hm
  split at hm
  · rename_i i hi
    split at hm
    · rename_i m hmm
      split at hm
      · rename_i s f' hpath hfunc
        split at hm
        · rename_i hder
          split at hm
          · rename_i fs hs
            split at hm
            · rename_i fl hfl
              split at hm
              · rename_i k ss hsz hst
                split at hm
                · cases hm
                · rename_i dt hnt hdt
                  simp only [Option.some.injEq, Prod.mk.injEq] at hm
                  obtain ⟨rfl, rfl⟩ := hm
                  haveI : Ty P s.struct (.struct fs) := ⟨hs⟩
                  haveI : Sz P fl.type (k + 1) := ⟨hsz⟩
                  haveI : Ty P fl.type (.struct ss) := ⟨hst⟩
                  haveI : Ty P t dt := ⟨hdt⟩
                  unfold hop
                  simp only [execOp, resolve, hx, List.map_toArray, List.map_cons, List.map_nil, hy, Deferred.ofValue, hw_bind', hw_pure, invoke]
                  simp only [Array.empty_append, List.getElem?_toArray, List.getElem?_cons_zero, hw_bind', hw_underlying]
                  have key : hw false P (callMethod (.iface t (.pointer (some ⟨b, o, none⟩))) name (#[Value.pointer (some ⟨b, o, none⟩)].extract 1)) (fun n H' => ∃ H'', Sub H'' H' ∧ hnext false P K n H'') H := by
                    have hdep : 0 < Made.depth := by decide
                    obtain ⟨k', hk'⟩ : ∃ k', P.types.size + Made.depth = k' + 1 := ⟨P.types.size + Made.depth - 1, by omega⟩
                    simp only [callMethod, hw_bind', hw_program]
                    rw [hk']
                    simp only [method, hw_bind']
                    simp only [hw_typeInfo hi, hmm, hpath, follow, hw_bind', hw_underlying, hfl, hder, if_true, Place.get, hw_pure, asAddr, fieldPlace, hw_sizeOf]
                    rw [if_neg (by omega)]
                    simp only [hw_pure, hfunc, receiverAt, hw_bind', hw_underlying]
                    refine hw_callFunc ⟨_, .refl _, rfl, ?_⟩
                    simpa [add_none] using h
                  cases dt <;> first | exact key | exact absurd rfl (hnt _)
                · cases hm
              · cases hm
            · cases hm
          · cases hm
        · cases hm
      · cases hm
    · cases hm
  · cases hm
end
theorem nf : (∀ c q : Bool, (if c = true then Value.bool true else (if c = false then Value.bool q else undef)) = .bool (c || q)) ∧
    (∀ c q : Bool, (if c = true then (if c = true then Value.bool q else undef) else Value.bool false) = .bool (c && q)) ∧
    (∀ Q l H, hng Q .normal l H = Q .normal l H) ∧ (∀ Q l H, hng Q .ret l H = Q .ret l H) ∧ (∀ Q n l H, hng Q (.exit n) l H = Q (.exit n) l H) ∧
    (∀ K Q l H, hthen K Q .normal l H = K l H) ∧ (∀ K Q l H, hthen K Q .ret l H = Q .ret l H) ∧ (∀ K Q n l H, hthen K Q (.exit n) l H = Q (.exit n) l H) ∧
    (∀ i Q l H, hblock i Q .normal l H = Q .normal l H) ∧ (∀ i Q l H, hblock i Q .ret l H = Q .ret l H) ∧ (∀ i Q n l H, hblock i Q (.exit n) l H = if n = i then Q .normal l H else Q (.exit n) l H) ∧
    (∀ l v, pt l none v = l) ∧ (∀ l d v, pt l (some d) v = l.set d v) ∧
    (∀ l t, ev l (.tmp t) = l.getD t undef) ∧ (∀ l v, ev l (.const v) = v) ∧ (∀ l g, ev l (.global g) = .pointer (some ⟨g, 0, none⟩)) ∧ (∀ l f, ev l (.func f) = .func (.func f) #[] #[]) ∧
    (∀ (x : Value) l d, (x :: l).getD 0 d = x) ∧ (∀ (x : Value) l n d, (x :: l).getD (n + 1) d = l.getD n d) ∧
    (∀ (x : Value) l v, (x :: l).set 0 v = v :: l) ∧ (∀ (x : Value) l n v, (x :: l).set (n + 1) v = x :: l.set n v) ∧
    (∀ n : Nat, n + 0 = n) ∧ (∀ (α : Type) (h : Decidable True) (a b : α), @ite α True h a b = a) ∧ (∀ (α : Type) (h : Decidable False) (a b : α), @ite α False h a b = b) ∧
    (∀ (α β : Type) (f : α → β) (l : List α), l.toArray.map f = (l.map f).toArray) ∧ (∀ (α β : Type) (f : α → β) (a : α) l, (a :: l).map f = f a :: l.map f) ∧ (∀ (α β : Type) (f : α → β), [].map f = []) ∧
    (∀ (a b : List Value), a.toArray ++ b.toArray = (a ++ b).toArray) ∧ (∀ (x : Value) a b, x :: a ++ b = x :: (a ++ b)) ∧ (∀ (a : List Value), [] ++ a = a) ∧
    (∀ (H : Hp) b o o', (H.set b o).set b o' = H.set b o') ∧ (∀ (α : Type) (a : α), (a = a) = True) ∧ ((false = true) = False) ∧ ((!true) = false) ∧ ((!false) = true) := by
  refine ⟨pick_or, pick_and, ?_⟩
  simp [hng, hthen, hblock, pt, ev, Hp.set_set]
theorem hS {H : Hp} {b : Nat} {o : Obj} : (H.set b o) b = some o := Hp.set_same _ _ _
theorem hT {H : Hp} {b c : Nat} {o : Obj} {x : Option Obj} (h : c ≠ b) (hc : H c = x) : (H.set b o) c = x := Hp.get_there h hc
theorem hT' {H : Hp} {b c : Nat} {o : Obj} {x : Option Obj} (h : b ≠ c) (hc : H c = x) : (H.set b o) c = x := Hp.get_there h.symm hc
theorem hN {H : Hp} {b c : Nat} {o p : Obj} (h : H b = none) (hc : H c = some p) : (H.set b o) c = some p := Hp.get_there (Hp.ne_of hc h) hc
end Go.H
