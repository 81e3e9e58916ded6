/- A part of the proofs over the tenants of a page cache: lemmas on what is known of the memory, and contracts of the Go functions. -/
import Derived.Test.YtckokpmljhhhcaaHo5
set_option linter.unusedVariables false
set_option linter.unusedSimpArgs false
namespace Go.H
open Go
/-! ## What the program's objects are, as plain data -/
def byv (b : UInt8) : Value := .int .u8 b.toNat
structure Fr where
  used : Bool
  dirty : Bool
  ref : Bool
  pins : Int
  page : Int
  b : List UInt8
def Fr.zero : Fr := ⟨false, false, false, 0, 0, List.replicate 32 0⟩
/-- a frame's cells -/
def frc (f : Fr) : List Value := .bool f.used :: .bool f.dirty :: .bool f.ref :: .int .i64 f.pins :: .int .i64 f.page :: f.b.map byv
theorem frc_length {f : Fr} (h : f.b.length = 32) : (frc f).length = 37 := by simp [frc, h]
theorem one_byv (b : UInt8) : (byv b).oneCell' = true := rfl
theorem one_map (l : List UInt8) : ∀ v ∈ l.map byv, v.oneCell' = true := by
  intro v h; obtain ⟨b, _, rfl⟩ := List.mem_map.1 h; rfl
theorem one_frc (f : Fr) : ∀ v ∈ frc f, v.oneCell' = true := by
  intro v h
  simp only [frc, List.mem_cons] at h
  rcases h with rfl | rfl | rfl | rfl | rfl | h <;> first | rfl | exact one_map _ _ h
theorem wr_all {L vs : List Value} (h : vs.length = L.length) : wr L 0 vs = vs := by
  have := mid_wr (A := []) (C := L) (B := []) (vs := vs) h
  simpa using this
theorem srcOk.new {H : Hp} {sz m b : Nat} {v : Value} {ys : List Value} {o : Obj} (h : srcOk H sz m v ys) (hb : H b = none) : srcOk (H.set b o) sz m v ys := by
  rcases h with ⟨a, n, c, rfl, rfl, h⟩ | ⟨s, rfl, rfl, rfl, rfl⟩
  · cases a with
    | none => exact .inl ⟨_, _, _, rfl, rfl, h⟩
    | some a =>
      obtain ⟨b', o', s⟩ := a
      obtain ⟨rfl, L, t, hH, hl, rfl⟩ := h
      exact .inl ⟨_, _, _, rfl, rfl, rfl, L, t, by rw [Hp.set_ne _ _ (Hp.ne_of hH hb)]; exact hH, hl, rfl⟩
  · exact srcOk_str
theorem ne_row {H : Hp} {a b : Nat} {L L' : List Value} {T T' : TypeId} (h : H a = some (row L T)) (h' : H b = some (row L' T')) (ht : T ≠ T') : a ≠ b := by
  intro e; subst e; rw [h] at h'; simp only [Option.some.injEq, row, Obj.cells.injEq] at h'; exact ht h'.2.1
theorem ne_map {H : Hp} {a b : Nat} {L : List Value} {T : TypeId} {o : Obj} {f : Int → Option Value} (h : H a = some (row L T)) (h' : H b = some o) (hm : MapI o f) : a ≠ b := by
  intro e; subst e
  obtain ⟨es, ck, rfl, _⟩ := hm.ex
  rw [h] at h'; cases h'
theorem copy_all {n : Nat} {ys : List Value} (h : ys.length = n) : wr (reps n (Value.int .u8 0).cells.toList) 0 (ys.take (min n n * 1)) = ys := by
  rw [Nat.min_self, Nat.mul_one, List.take_of_length_le (by omega)]
  exact wr_all (by simp [reps_length, Value.cells, h])
theorem wr_spl (vs : List Value) : ∀ (L : List Value) (o : Nat), o + vs.length ≤ L.length → wr L o vs = L.take o ++ vs ++ L.drop (o + vs.length) := by
  intro L o h
  have hA : (L.take o).length = o := by simp; omega
  have hC : vs.length = ((L.drop o).take vs.length).length := by simp; omega
  have e : L = L.take o ++ (L.drop o).take vs.length ++ L.drop (o + vs.length) := by
    rw [List.append_assoc, show L.drop (o + vs.length) = (L.drop o).drop vs.length by simp, List.take_append_drop, List.take_append_drop]
  have := mid_wr (A := L.take o) (C := (L.drop o).take vs.length) (B := L.drop (o + vs.length)) (vs := vs) hC
  rw [← e, hA] at this
  exact this
/-- bytes laid into bytes -/
def spl (l : List UInt8) (off : Nat) (d : List UInt8) : List UInt8 := l.take off ++ d ++ l.drop (off + d.length)
theorem spl_length {l d : List UInt8} {off : Nat} (h : off + d.length ≤ l.length) : (spl l off d).length = l.length := by simp [spl]; omega
theorem wr_byv {l d : List UInt8} {off : Nat} (h : off + d.length ≤ l.length) : wr (l.map byv) off (d.map byv) = (spl l off d).map byv := by
  rw [wr_spl _ _ _ (by simpa using h)]; simp [spl, List.map_take, List.map_drop]
theorem copy_at {P : List Value} {ys : List Value} {off m : Nat} (hP : P.length = 32) (hm : ys.length = m) (h : off + m ≤ 32) : wr P (if 32 = off then 0 else off) (ys.take (min m (32 - off) * 1)) = wr P off ys := by
  rw [Nat.mul_one, Nat.min_eq_left (by omega), List.take_of_length_le (by omega)]
  split
  · have : ys = [] := List.length_eq_zero_iff.1 (by omega)
    subst this; rfl
  · rfl
theorem copy_at' {P : List Value} {ys : List Value} {off m : Nat} (hP : P.length = 32) (hm : ys.length = m) (h : off + m ≤ 32) : wr P (if 32 = off then 0 else off) (ys.take (min m (32 - off))) = wr P off ys := by
  have := copy_at hP hm h; rwa [Nat.mul_one] at this
theorem frc_bytes {f : Fr} {A B : List Value} {off m : Nat} (hf : f.b.length = 32) (h : off + m ≤ 32) : ((A ++ frc f ++ B).drop (A.length + 5 + off)).take m = ((f.b.drop off).take m).map byv := by
  have e : (A ++ frc f ++ B).drop (A.length + 5 + off) = (f.b.drop off).map byv ++ B := by
    rw [List.append_assoc, Nat.add_assoc, List.drop_append, List.drop_append]
    simp only [frc]
    rw [List.drop_of_length_le (by omega), Nat.add_sub_cancel_left, Nat.add_comm 5 off]
    simp [List.drop_succ_cons, hf]
    rw [show off - 32 = 0 by omega, List.drop_zero]
  rw [e, List.take_append_of_le_length (by simp; omega), ← List.map_take]
theorem wr_frc {f : Fr} {A B : List Value} {d : List UInt8} (hf : f.b.length = 32) (hd : d.length = 32) : wr (A ++ frc f ++ B) (A.length + 5) (d.map byv) = A ++ frc { f with b := d } ++ B := by
  have e : A ++ frc f ++ B = (A ++ [Value.bool f.used, Value.bool f.dirty, Value.bool f.ref, Value.int .i64 f.pins, Value.int .i64 f.page]) ++ f.b.map byv ++ B := by simp [frc]
  have el : A.length + 5 = (A ++ [Value.bool f.used, Value.bool f.dirty, Value.bool f.ref, Value.int .i64 f.pins, Value.int .i64 f.page]).length := by simp
  rw [e, el, mid_wr (by simp [hf, hd])]
  simp [frc]
theorem build_frc {Z : List Value} {pg : Int} {d : List UInt8} (hZ : Z.length = 37) (hd : d.length = 32) :
    fillL (fun i => [(0, 4), (4, 1), (5, 32)][i]?) Z [(0, .agg [Value.bool true, Value.bool false, Value.bool false, Value.int .i64 0].toArray), (1, .int .i64 pg), (2, .agg (d.map byv).toArray)] = some (frc ⟨true, false, false, 0, pg, d⟩) := by
  match Z, hZ with
  | z0 :: z1 :: z2 :: z3 :: z4 :: Z', hZ =>
    simp only [List.length_cons, Nat.reduceEqDiff] at hZ
    have e1 : wr (z0 :: z1 :: z2 :: z3 :: z4 :: Z') 0 [Value.bool true, Value.bool false, Value.bool false, Value.int .i64 0] = Value.bool true :: Value.bool false :: Value.bool false :: Value.int .i64 0 :: z4 :: Z' := rfl
    have e2 : wr (Value.bool true :: Value.bool false :: Value.bool false :: Value.int .i64 0 :: z4 :: Z') 4 [Value.int .i64 pg] = Value.bool true :: Value.bool false :: Value.bool false :: Value.int .i64 0 :: Value.int .i64 pg :: Z' := rfl
    have e3 : wr (Value.bool true :: Value.bool false :: Value.bool false :: Value.int .i64 0 :: Value.int .i64 pg :: Z') 5 (d.map byv) = frc ⟨true, false, false, 0, pg, d⟩ := by
      have := mid_wr (A := [Value.bool true, Value.bool false, Value.bool false, Value.int .i64 0, Value.int .i64 pg]) (C := Z') (B := []) (vs := d.map byv) (by simp [hd, hZ])
      simpa [frc] using this
    simp only [fillL, List.getElem?_cons_zero, List.getElem?_cons_succ, Value.cells, e1, e2, e3]
    simp [hZ, hd]
theorem frc_zero : frc Fr.zero = [.bool false, .bool false, .bool false, .int .i64 0, .int .i64 0, .int .u8 0, .int .u8 0, .int .u8 0, .int .u8 0, .int .u8 0, .int .u8 0, .int .u8 0, .int .u8 0, .int .u8 0, .int .u8 0, .int .u8 0, .int .u8 0, .int .u8 0, .int .u8 0, .int .u8 0, .int .u8 0, .int .u8 0, .int .u8 0, .int .u8 0, .int .u8 0, .int .u8 0, .int .u8 0, .int .u8 0, .int .u8 0, .int .u8 0, .int .u8 0, .int .u8 0, .int .u8 0, .int .u8 0, .int .u8 0, .int .u8 0, .int .u8 0] := by
  simp [frc, Fr.zero, List.replicate, byv]
/-! ## the clock -/
structure Fl where
  used : Bool
  dirty : Bool
  ref : Bool
  pins : Int
def flc (f : Fl) : List Value := [.bool f.used, .bool f.dirty, .bool f.ref, .int .i64 f.pins]
def flat {α : Type} (c : α → List Value) (l : List α) : List Value := (l.map c).flatten
theorem flat_length {α : Type} {c : α → List Value} {n : Nat} (l : List α) (h : ∀ x ∈ l, (c x).length = n) : (flat c l).length = l.length * n := by
  induction l with
  | nil => simp [flat]
  | cons a l ih =>
    have := ih (fun x hx => h x (by simp [hx]))
    simp only [flat, List.map_cons, List.flatten_cons, List.length_append, List.length_cons] at *
    rw [this, h a (by simp), Nat.succ_mul]; omega
theorem flat_append {α : Type} (c : α → List Value) (a b : List α) : flat c (a ++ b) = flat c a ++ flat c b := by simp [flat]
theorem flat_split {α : Type} {c : α → List Value} {l : List α} {i : Nat} {x : α} (h : l[i]? = some x) : flat c l = flat c (l.take i) ++ c x ++ flat c (l.drop (i + 1)) := by
  have hi : i < l.length := (List.getElem?_eq_some_iff.1 h).1
  have e : l = l.take i ++ x :: l.drop (i + 1) := by
    have := List.take_append_drop i l
    rw [List.drop_eq_getElem_cons hi] at this
    rw [(List.getElem?_eq_some_iff.1 h).2] at this
    exact this.symm
  conv => lhs; rw [e]
  simp [flat]
theorem flat_set {α : Type} {c : α → List Value} {l : List α} {i : Nat} {x y : α} (h : l[i]? = some x) : flat c (l.set i y) = flat c (l.take i) ++ c y ++ flat c (l.drop (i + 1)) := by
  have hi : i < l.length := (List.getElem?_eq_some_iff.1 h).1
  have := flat_split (c := c) (l := l.set i y) (i := i) (x := y) (by simp [hi])
  rw [this]
  simp [List.take_set_of_le, List.drop_set_of_lt]
theorem flat_take_length {α : Type} {c : α → List Value} {n : Nat} {l : List α} (h : ∀ x, (c x).length = n) {i : Nat} (hi : i ≤ l.length) : (flat c (l.take i)).length = i * n := by
  rw [flat_length _ (fun x _ => h x), List.length_take, Nat.min_eq_left hi]
/-- one look -/
def goesF (f : Fl) : Bool × Fl := if f.used = false then (true, f) else if f.pins = 0 then (!f.ref, { f with ref := false }) else (false, f)
/-- looks from the k-th on -/
def turnFrom (n hand : Nat) : Nat → Nat → List Fl → Option (Nat × Nat) × List Fl
  | 0, _, l => (none, l)
  | m + 1, k, l => match l[(hand + k) % n]? with
    | none => (none, l)
    | some f => if (goesF f).1 then (some ((hand + k) % n, k + 1), l.set ((hand + k) % n) (goesF f).2) else turnFrom n hand m (k + 1) (l.set ((hand + k) % n) (goesF f).2)
theorem turnFrom_length (n hand : Nat) : ∀ (m k : Nat) (l : List Fl), (turnFrom n hand m k l).2.length = l.length := by
  intro m
  induction m with
  | zero => intro k l; rfl
  | succ m ih =>
    intro k l
    simp only [turnFrom]
    split
    · rfl
    · split
      · simp
      · rw [ih]; simp
theorem turnFrom_lt {n hand : Nat} (hn : 0 < n) : ∀ (m k : Nat) (l : List Fl) (v q : Nat), (turnFrom n hand m k l).1 = some (v, q) → v < n ∧ 0 < q ∧ q ≤ k + m := by
  intro m
  induction m with
  | zero => intro k l v q h; cases h
  | succ m ih =>
    intro k l v q h
    simp only [turnFrom] at h
    split at h
    · cases h
    · split at h
      · simp only [Option.some.injEq, Prod.mk.injEq] at h
        obtain ⟨rfl, rfl⟩ := h
        exact ⟨Nat.mod_lt _ hn, by omega, by omega⟩
      · have := ih _ _ _ _ h; omega
theorem turn_step {n hand k : Nat} {l : List Fl} {f : Fl} (hk : k < 2 * n) (hf : l[(hand + k) % n]? = some f) :
    turnFrom n hand (2 * n - k) k l = if (goesF f).1 then (some ((hand + k) % n, k + 1), l.set ((hand + k) % n) (goesF f).2) else turnFrom n hand (2 * n - (k + 1)) (k + 1) (l.set ((hand + k) % n) (goesF f).2) := by
  rw [show 2 * n - k = 2 * n - (k + 1) + 1 by omega]
  simp only [turnFrom, hf]
/-! ## partitions -/
def flOf (f : Fr) : Fl := ⟨f.used, f.dirty, f.ref, f.pins⟩
def putFl (f : Fr) (g : Fl) : Fr := { f with used := g.used, dirty := g.dirty, ref := g.ref, pins := g.pins }
theorem frc_flc (f : Fr) : (frc f).take 4 = flc (flOf f) := rfl
theorem wr_flc {f : Fr} {g : Fl} {A B : List Value} : wr (A ++ frc f ++ B) A.length (flc g) = A ++ frc (putFl f g) ++ B := by
  have e : A ++ frc f ++ B = A ++ [Value.bool f.used, Value.bool f.dirty, Value.bool f.ref, Value.int .i64 f.pins] ++ (Value.int .i64 f.page :: (f.b.map byv ++ B)) := by simp [frc]
  rw [e, mid_wr (by rfl)]
  simp [frc, putFl, flc]
/-- flags laid into the first k frames -/
def putFls (fr : List Fr) (l : List Fl) (k : Nat) : List Fr := (List.zipWith putFl (fr.take k) l) ++ fr.drop k
theorem putFls_zero (fr : List Fr) (l : List Fl) : putFls fr l 0 = fr := by simp [putFls]
theorem putFls_get {fr : List Fr} {l : List Fl} {k : Nat} (hl : l.length = fr.length) (hk : k < fr.length) : (putFls fr l k)[k]? = fr[k]? := by
  unfold putFls
  rw [List.getElem?_append_right (by simp; omega)]
  simp [Nat.min_eq_left (Nat.le_of_lt hk), Nat.min_eq_left (show k ≤ l.length by omega)]
theorem putFls_step {fr : List Fr} {l : List Fl} {k : Nat} {f : Fr} {g : Fl} (hl : l.length = fr.length) (hf : fr[k]? = some f) (hg : l[k]? = some g) : (putFls fr l k).set k (putFl f g) = putFls fr l (k + 1) := by
  have hk : k < fr.length := (List.getElem?_eq_some_iff.1 hf).1
  have hz : (List.zipWith putFl (fr.take k) l).length = k := by simp; omega
  unfold putFls
  rw [List.set_append_right _ _ (by omega), hz, Nat.sub_self, List.drop_eq_getElem_cons hk, List.set_cons_zero]
  have e : List.zipWith putFl (fr.take (k + 1)) l = List.zipWith putFl (fr.take k) l ++ [putFl f g] := by
    apply List.ext_getElem?
    intro i
    rw [List.getElem?_append, hz]
    simp only [List.getElem?_zipWith]
    by_cases hi : i < k
    · rw [if_pos hi, List.getElem?_take, List.getElem?_take, if_pos hi, if_pos (by omega)]
    · rw [if_neg hi]
      by_cases hik : i = k
      · subst hik; rw [List.getElem?_take, if_pos (by omega), hf, hg]; simp
      · rw [List.getElem?_take, if_neg (by omega)]
        obtain ⟨j, hj⟩ : ∃ j, i - k = j + 1 := ⟨i - k - 1, by omega⟩
        rw [hj]; simp
  rw [e]; simp
theorem putFls_all {fr : List Fr} {l : List Fl} (hl : l.length = fr.length) : putFls fr l fr.length = List.zipWith putFl fr l := by simp [putFls]
theorem putFls_b {fr : List Fr} {l : List Fl} {k : Nat} (hb : ∀ f ∈ fr, f.b.length = 32) : ∀ f ∈ putFls fr l k, f.b.length = 32 := by
  intro f hf
  unfold putFls at hf
  rcases List.mem_append.1 hf with h | h
  · obtain ⟨i, hi⟩ := List.mem_iff_getElem?.1 h
    rw [List.getElem?_zipWith] at hi
    cases h1 : (fr.take k)[i]? with
    | none => rw [h1] at hi; cases hi
    | some a =>
      cases h2 : l[i]? with
      | none => rw [h1, h2] at hi; cases hi
      | some b =>
        rw [h1, h2] at hi
        simp only [Option.some.injEq] at hi
        subst hi
        exact hb a (List.mem_of_mem_take (List.mem_of_getElem? h1))
  · exact hb f (List.mem_of_mem_drop h)
theorem putFls_length {fr : List Fr} {l : List Fl} {k : Nat} (hl : l.length = fr.length) (hk : k ≤ fr.length) : (putFls fr l k).length = fr.length := by
  simp [putFls]; omega
def isPg (pg : Int) (f : Fr) : Bool := f.used && f.page == pg
def findPage (fr : List Fr) (pg : Int) : Option Nat := fr.findIdx? (isPg pg)
def tabF (fr : List Fr) (pg : Int) : Option Value := (findPage fr pg).map fun i => .int .i64 (i : Nat)
def pinFr (f : Fr) : Int × Fr := if f.used = false then (6, f) else if 100 ≤ f.pins then (13, f) else (0, { f with pins := f.pins + 1, ref := true })
def unpinFr (f : Fr) : Int × Fr := if f.pins = 0 then (6, f) else (0, { f with pins := f.pins - 1 })
def onPage (fr : List Fr) (pg : Int) (g : Fr → Int × Fr) : Int × List Fr := match findPage fr pg with
  | none => (6, fr)
  | some i => match fr[i]? with
    | none => (6, fr)
    | some f => ((g f).1, fr.set i (g f).2)
theorem findPage_lt {fr : List Fr} {pg : Int} {i : Nat} (h : findPage fr pg = some i) : ∃ f, fr[i]? = some f ∧ f.used = true ∧ f.page = pg := by
  unfold findPage at h
  obtain ⟨hi, h1, _⟩ := List.findIdx?_eq_some_iff_getElem.1 h
  refine ⟨fr[i], List.getElem?_eq_getElem hi, ?_⟩
  simpa [isPg] using h1
theorem findPage_none {fr : List Fr} {pg : Int} (h : findPage fr pg = none) : ∀ f ∈ fr, isPg pg f = false := by
  intro f hf
  have := List.findIdx?_eq_none_iff.1 h f hf
  simpa using this
/-- no two frames hold one page -/
def Uniq (fr : List Fr) : Prop := ∀ (i j : Nat) (f g : Fr), fr[i]? = some f → fr[j]? = some g → f.used = true → g.used = true → f.page = g.page → i = j
theorem Uniq.find {fr : List Fr} (hu : Uniq fr) {i : Nat} {f : Fr} (hf : fr[i]? = some f) (h : f.used = true) : findPage fr f.page = some i := by
  cases e : findPage fr f.page with
  | none =>
    have := findPage_none e f (List.mem_of_getElem? hf)
    simp [isPg, h] at this
  | some j =>
    obtain ⟨g, hg, hgu, hgp⟩ := findPage_lt e
    rw [hu j i g f hg hf hgu h hgp]
theorem findPage_iff {fr : List Fr} (hu : Uniq fr) {pg : Int} {i : Nat} : findPage fr pg = some i ↔ ∃ f, fr[i]? = some f ∧ f.used = true ∧ f.page = pg := by
  constructor
  · exact findPage_lt
  · rintro ⟨f, hf, h, rfl⟩; exact hu.find hf h
theorem findPage_none_iff {fr : List Fr} {pg : Int} : findPage fr pg = none ↔ ∀ f ∈ fr, isPg pg f = false := by
  constructor
  · exact findPage_none
  · intro h; exact List.findIdx?_eq_none_iff.2 (by simpa using h)
/-- a frame that keeps its page -/
theorem findPage_set_same {fr : List Fr} {i : Nat} {f g : Fr} (hf : fr[i]? = some f) (h1 : g.used = f.used) (h2 : g.page = f.page) (pg : Int) : findPage (fr.set i g) pg = findPage fr pg := by
  unfold findPage
  have : ∀ (l : List Fr) (i : Nat), l[i]? = some f → (l.set i g).findIdx? (isPg pg) = l.findIdx? (isPg pg) := by
    intro l
    induction l with
    | nil => intro i h; simp at h
    | cons a l ih =>
      intro i h
      cases i with
      | zero => simp at h; subst h; simp [List.findIdx?_cons, isPg, h1, h2]
      | succ i => simp only [List.set_cons_succ, List.findIdx?_cons]; rw [ih i (by simpa using h)]
  exact this fr i hf
theorem tabF_set_same {fr : List Fr} {i : Nat} {f g : Fr} (hf : fr[i]? = some f) (h1 : g.used = f.used) (h2 : g.page = f.page) : tabF (fr.set i g) = tabF fr := by
  funext pg; unfold tabF; rw [findPage_set_same hf h1 h2]
theorem Uniq.set {fr : List Fr} (hu : Uniq fr) {i : Nat} {g : Fr} (h : g.used = true → findPage fr g.page = none ∨ findPage fr g.page = some i) : Uniq (fr.set i g) := by
  intro a b f k hf hk hfu hku hp
  rw [List.getElem?_set] at hf hk
  by_cases ha : i = a <;> by_cases hb : i = b
  · omega
  · rw [if_pos ha] at hf; rw [if_neg hb] at hk
    split at hf
    · simp only [Option.some.injEq] at hf; subst hf
      rcases h hfu with h | h
      · have := findPage_none h k (List.mem_of_getElem? hk); simp [isPg, hku, ← hp] at this
      · rw [hp, hu.find hk hku] at h; simp only [Option.some.injEq] at h; omega
    · cases hf
  · rw [if_neg ha] at hf; rw [if_pos hb] at hk
    split at hk
    · simp only [Option.some.injEq] at hk; subst hk
      rcases h hku with h | h
      · have := findPage_none h f (List.mem_of_getElem? hf); simp [isPg, hfu, hp] at this
      · rw [← hp, hu.find hf hfu] at h; simp only [Option.some.injEq] at h; omega
    · cases hk
  · rw [if_neg ha] at hf; rw [if_neg hb] at hk
    exact hu a b f k hf hk hfu hku hp
/-- a frame emptied -/
theorem tabF_zero {fr : List Fr} (hu : Uniq fr) {i : Nat} {f : Fr} (hf : fr[i]? = some f) : tabF (fr.set i Fr.zero) = if f.used = true then upd (tabF fr) f.page none else tabF fr := by
  have hu' : Uniq (fr.set i Fr.zero) := hu.set (by simp [Fr.zero])
  have hi : i < fr.length := (List.getElem?_eq_some_iff.1 hf).1
  funext pg
  have key : findPage (fr.set i Fr.zero) pg = if f.used = true ∧ pg = f.page then none else findPage fr pg := by
    split
    · rename_i hh
      rw [findPage_none_iff]
      intro g hg
      obtain ⟨j, hj⟩ := List.mem_iff_getElem?.1 hg
      rw [List.getElem?_set] at hj
      split at hj
      · simp only [hi, if_true, Option.some.injEq] at hj; subst hj; simp [isPg, Fr.zero]
      · rename_i hne
        cases hq : isPg pg g with
        | false => rfl
        | true =>
          simp only [isPg, Bool.and_eq_true, beq_iff_eq] at hq
          exact absurd (hu i j f g hf hj hh.1 hq.1 (by rw [← hh.2, hq.2])) hne
    · rename_i hh
      cases e : findPage fr pg with
      | none =>
        rw [findPage_none_iff] at e ⊢
        intro g hg
        rcases List.mem_or_eq_of_mem_set hg with h | h
        · exact e g h
        · subst h; simp [isPg, Fr.zero]
      | some j =>
        obtain ⟨g, hg, hgu, hgp⟩ := findPage_lt e
        rw [findPage_iff hu']
        refine ⟨g, ?_, hgu, hgp⟩
        rw [List.getElem?_set]
        split
        · rename_i hij
          subst hij
          rw [hf] at hg; simp at hg; subst hg
          exact absurd ⟨hgu, hgp.symm⟩ hh
        · exact hg
  unfold tabF
  rw [key]
  by_cases hfu : f.used = true
  · rw [if_pos hfu]
    simp only [upd, tabF]
    by_cases hp : pg = f.page
    · simp [hfu, hp]
    · simp [hp]
  · rw [if_neg hfu]; simp [hfu, tabF]
/-- a frame filled -/
theorem tabF_fill {fr : List Fr} (hu : Uniq fr) {i : Nat} {g : Fr} (hi : i < fr.length) (hz : ∀ f, fr[i]? = some f → f.used = false) (hg : g.used = true) (hn : findPage fr g.page = none) : tabF (fr.set i g) = upd (tabF fr) g.page (some (.int .i64 (i : Nat))) := by
  have hu' : Uniq (fr.set i g) := hu.set (fun _ => .inl hn)
  funext pg
  simp only [tabF, upd]
  by_cases hp : pg = g.page
  · subst hp
    rw [if_pos rfl, (findPage_iff (i := i) hu').2 ⟨g, by simp [hi], hg, rfl⟩]; rfl
  · rw [if_neg hp]
    congr 1
    cases e : findPage fr pg with
    | none =>
      rw [findPage_none_iff] at e ⊢
      intro k hk
      rcases List.mem_or_eq_of_mem_set hk with h | h
      · exact e k h
      · subst h; simp only [isPg, Bool.and_eq_false_iff, beq_eq_false_iff_ne, ne_eq]; exact .inr (Ne.symm hp)
    | some j =>
      obtain ⟨k, hk, hku, hkp⟩ := findPage_lt e
      rw [findPage_iff hu']
      refine ⟨k, ?_, hku, hkp⟩
      rw [List.getElem?_set]
      split
      · rename_i hij; subst hij; have := hz k hk; rw [hku] at this; cases this
      · exact hk
theorem frz_len : (frc Fr.zero).length = 37 := frc_length (by simp [Fr.zero])
/-! ## steps of the device -/
structure Io where
  kind : Int
  page : Int
  k : Int
def ioc (x : Io) : List Value := [.int .i64 x.kind, .int .i64 x.page, .int .i64 x.k]
def bothTo (kind pg : Int) (n : Nat) : List Io := (List.range n).map fun i => ⟨kind, pg, (i : Nat)⟩
def both (kind pg : Int) : List Io := bothTo kind pg 2
def storesOf (pages : List Int) : List Io := pages.flatMap (both 2)
def fetchOf (pg : Int) (dirty : Bool) (old : Int) : List Io := if dirty then both 2 old ++ both 1 pg else both 1 pg
def flushOf (pages : List Int) : List Io := storesOf pages ++ [⟨3, 0, 0⟩]
def ints (l : List Int) : List Value := l.map (.int .i64)
theorem one_ioc (x : Io) : ∀ v ∈ ioc x, v.oneCell' = true := by intro v h; simp [ioc] at h; rcases h with rfl | rfl | rfl <;> rfl
theorem one_ios {l : List Io} : ∀ v ∈ flat ioc l, v.oneCell' = true := by
  intro v h
  simp only [flat, List.mem_flatten, List.mem_map] at h
  obtain ⟨_, ⟨f, _, rfl⟩, h⟩ := h
  exact one_ioc f v h
theorem one_ints {l : List Int} : ∀ v ∈ ints l, v.oneCell' = true := by
  intro v h; simp only [ints, List.mem_map] at h; obtain ⟨_, _, rfl⟩ := h; rfl
theorem ios_len (l : List Io) : (flat ioc l).length = l.length * 3 := flat_length _ (fun _ _ => rfl)
theorem bothTo_succ (kind pg : Int) (n : Nat) : bothTo kind pg (n + 1) = bothTo kind pg n ++ [⟨kind, pg, (n : Nat)⟩] := by simp [bothTo, List.range_succ]
/-- the dirty frames among the first k -/
def dirtyTo (fr : List Fr) (k : Nat) : List Int := ((List.range k).filter fun (i : Nat) => ((fr[i]?).map Fr.dirty).getD false).map fun (i : Nat) => (i : Int)
theorem dirtyTo_succ {fr : List Fr} {k : Nat} {f : Fr} (h : fr[k]? = some f) : dirtyTo fr (k + 1) = if f.dirty then dirtyTo fr k ++ [(k : Int)] else dirtyTo fr k := by
  simp only [dirtyTo, List.range_succ, List.filter_append, List.filter_cons, List.filter_nil, h, Option.map_some, Option.getD_some]
  split <;> simp
/-! ## requests, jobs -/
structure Rq where
  op : Int
  page : Int
  off : Int
  len : Int
  dv : Value
/-- a request's cells -/
def rqc (r : Rq) : List Value := [.int .i64 r.op, .int .i64 r.page, .int .i64 r.off, .int .i64 r.len, r.dv]
structure Jb where
  id : Int
  r : Rq
def jc (j : Jb) : List Value := .int .i64 j.id :: rqc j.r
def Rq.zero : Rq := ⟨0, 0, 0, 0, .slice none 0 0⟩
def Jb.zero : Jb := ⟨0, Rq.zero⟩
def Rq.ok (r : Rq) : Prop := r.dv.oneCell' = true
theorem one_jc {j : Jb} (h : j.r.ok) : ∀ v ∈ jc j, v.oneCell' = true := by
  intro v hv; simp only [jc, rqc, List.mem_cons, List.not_mem_nil, or_false] at hv
  rcases hv with rfl | rfl | rfl | rfl | rfl | rfl <;> first | rfl | exact h
theorem one_jcs {l : List Jb} (h : ∀ j ∈ l, j.r.ok) : ∀ v ∈ flat jc l, v.oneCell' = true := by
  intro v hv
  simp only [flat, List.mem_flatten, List.mem_map] at hv
  obtain ⟨_, ⟨f, hf, rfl⟩, hv⟩ := hv
  exact one_jc (h f hf) v hv
theorem jcs_len (l : List Jb) : (flat jc l).length = l.length * 6 := flat_length _ (fun _ _ => rfl)
def qRow (rb dep at_ n : Nat) : List Value := [.slice (some ⟨rb, 0, none⟩) dep dep, .int .i64 (at_ : Int), .int .i64 (n : Int)]
def fitsE (len off n : Int) : Int := if len ≠ 32 then 2 else if off < 0 ∨ n < 0 ∨ off > 32 ∨ n > 32 - off then 4 else 0
end Go.H
