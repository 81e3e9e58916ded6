/- A part of the proofs over the tenants of a page cache: lemmas on what is known of the memory, and contracts of the Go functions. -/
import Derived.Test.YtckokpmljhhhcaaHo2
set_option linter.unusedVariables false
set_option linter.unusedSimpArgs false
namespace Go.H
open Go
section
variable {r : Bool} {P : Program} {l : List Value} {H : Hp} {K : Value → Hp → Prop} {d : Option Tmp} {ty : TypeId} {pos : String} {aft : Array Edge} {g : Option (Nat × Bool)}
/-! ## append -/
/-- the first m elements behind a slice value -/
def srcOk (H : Hp) (sz m : Nat) (v : Value) (ys : List Value) : Prop :=
  (∃ a n c, v = .slice a n c ∧ n = m ∧ match a with
    | none => ys = [] ∧ m = 0
    | some ⟨b, o, s⟩ => s = none ∧ ∃ L t, H b = some (row L t) ∧ o + m * sz ≤ L.length ∧ ys = (L.drop o).take (m * sz)) ∨
  (∃ s, v = .string s ∧ s.size = m ∧ sz = 1 ∧ ys = s.data.toList.map fun b => .int .u8 b.toNat)
theorem srcOk_slice {sz m c b o : Nat} {L : List Value} {t : TypeId} (hH : H b = some (row L t)) (hl : o + m * sz ≤ L.length) : srcOk H sz m (.slice (some ⟨b, o, none⟩) m c) ((L.drop o).take (m * sz)) :=
  .inl ⟨_, _, _, rfl, rfl, rfl, L, t, hH, hl, rfl⟩
theorem srcOk_own {sz m c b : Nat} {ys B : List Value} {t : TypeId} (hH : H b = some (row (ys ++ B) t)) (hl : ys.length = m * sz) : srcOk H sz m (.slice (some ⟨b, 0, none⟩) m c) ys := by
  have := srcOk_slice (sz := sz) (m := m) (c := c) (o := 0) hH (by simp [hl])
  simpa [← hl] using this
theorem srcOk_own' {sz m c b : Nat} {ys : List Value} {t : TypeId} (hH : H b = some (row ys t)) (hl : ys.length = m * sz) : srcOk H sz m (.slice (some ⟨b, 0, none⟩) m c) ys :=
  srcOk_own (B := []) (by simpa using hH) hl
theorem srcOk_nil {sz : Nat} : srcOk H sz 0 (.slice none 0 0) [] := .inl ⟨_, _, _, rfl, rfl, rfl, rfl⟩
theorem srcOk_str {s : ByteArray} : srcOk H 1 s.size (.string s) (s.data.toList.map fun b => .int .u8 b.toNat) := .inr ⟨s, rfl, rfl, rfl, rfl⟩
theorem hw_firstCells {sz m : Nat} {v : Value} {ys : List Value} (h : srcOk H sz m v ys) {Q : Array Value → Hp → Prop} (hq : Q ys.toArray H) : hw r P (Builtin.firstCells sz m v) Q H := by
  rcases h with ⟨a, n, c, rfl, rfl, h⟩ | ⟨s, rfl, rfl, rfl, rfl⟩
  · cases a with
    | none => obtain ⟨rfl, rfl⟩ := h; exact hq
    | some a =>
      obtain ⟨b, o, s⟩ := a
      obtain ⟨rfl, L, t, hH, hl, rfl⟩ := h
      exact hw_loadCells hH hl hq
  · simp only [Builtin.firstCells]
    have e : (s.extract 0 s.size).data.map (fun b => Value.int .u8 b.toNat) = (s.data.toList.map fun b => Value.int .u8 b.toNat).toArray := by
      have : s.extract 0 s.size = s := by simp
      rw [this]; apply Array.ext'; simp
    rw [e]; exact hq
theorem hw_lenOf {sz m : Nat} {v : Value} {ys : List Value} (h : srcOk H sz m v ys) {Q : Nat → Hp → Prop} (hq : Q m H) : hw r P (Builtin.lenOf v) Q H := by
  rcases h with ⟨a, n, c, rfl, rfl, h⟩ | ⟨s, rfl, rfl, rfl, rfl⟩ <;> exact hq
theorem srcOk_len {sz m : Nat} {v : Value} {ys : List Value} (h : srcOk H sz m v ys) : ys.length = m * sz := by
  rcases h with ⟨a, n, c, rfl, rfl, h⟩ | ⟨s, rfl, rfl, rfl, rfl⟩
  · cases a with
    | none => obtain ⟨rfl, rfl⟩ := h; simp
    | some a =>
      obtain ⟨b, o, s⟩ := a
      obtain ⟨rfl, L, t, hH, hl, rfl⟩ := h
      simp; omega
  · rw [List.length_map, Array.length_toList, Nat.mul_one]; rfl
theorem zeroCells_len (z : Array Value) (n : Nat) : (Builtin.zeroCells z n).size = n * z.size := by simp [Builtin.zeroCells]
theorem wr_append (vs : List Value) : ∀ (A B : List Value), vs.length ≤ B.length → wr (A ++ B) A.length vs = A ++ vs ++ B.drop vs.length := by
  induction vs with
  | nil => intro A B _; simp [wr]
  | cons v vs ih =>
    intro A B h
    cases B with
    | nil => simp at h
    | cons x B =>
      simp only [wr, List.length_cons] at *
      have e : (A ++ x :: B).set A.length v = (A ++ [v]) ++ B := by simp
      have := ih (A ++ [v]) B (by omega)
      simp only [List.length_append, List.length_cons, List.length_nil] at this
      rw [e, this]; simp
/-- APPEND: to a slice that owns its block from its begin on; what comes owns a block of its own: the old one, or a new one. -/
theorem hop_append {t e u : TypeId} {x y : Operand} {b n cap m sz bytes : Nat} {A B ys : List Value} {z : Value} [Ty P t (.slice e)] [Ty P u (.slice e)] [Sz P e sz] [By P e bytes] [Zv P e z]
    (hx : ev l x = .slice (some ⟨b, 0, none⟩) n cap) (hH : H b = some (row (A ++ B) e)) (hA : A.length = n * sz) (hB : B.length = (cap - n) * sz) (hc : n ≤ cap)
    (hy : srcOk H sz m (ev l y) ys) (hv : ∀ v ∈ ys, v.oneCell' = true) (hz : z.cells.size = sz) (hs : 0 < sz) (hn : n + m ≤ 16777216) (hb : bytes ≤ 4096)
    (h : ∀ b' cap' B', (H.del b) b' = none → n + m ≤ cap' → B'.length = (cap' - (n + m)) * sz → K (.slice (some ⟨b', 0, none⟩) (n + m) cap') ((H.del b).set b' (row (A ++ ys ++ B') e))) :
    hop false P ⟨d, .call ⟨.builtin .append, #[x, y], #[t, u]⟩, ty, pos, aft, g⟩ l H K := by
  unfold hop
  simp only [execOp, resolve, hw_bind', hw_pure, invoke, builtin, List.map_toArray, List.map_cons, List.map_nil, hx]
  have hlen := srcOk_len hy
  simp only [Builtin.append_, List.getElem?_toArray, List.getElem?_cons_zero, List.getElem?_cons_succ, hw_bind', hw_underlying, hw_sizeOf, hw_pure, Bool.false_eq_true, if_false]
  refine hw_lenOf hy ?_
  by_cases hfit : n + m ≤ cap
  · rw [if_pos hfit]
    simp only [hw_bind', Bool.not_false, if_true]
    refine hw_firstCells hy ?_
    simp only [add_none, Nat.zero_add]
    have hl : n * sz + m * sz ≤ (A ++ B).length := by
      rw [List.length_append, hA, hB, Nat.sub_mul]
      have := Nat.mul_le_mul_right sz hfit
      rw [Nat.add_mul] at this
      omega
    refine hw_storeCells ys (A ++ B) H 0 _ hH (by rw [hlen]; simpa using hl) hv ?_
    have hBm : ys.length ≤ B.length := by
      rw [hlen]; rw [List.length_append, hA] at hl; omega
    refine ⟨(H.del b).set b (row (A ++ ys ++ B.drop ys.length) e), ?_, h b cap (B.drop ys.length) (Hp.del_same _ _) hfit (by rw [List.length_drop, hlen, hB, ← Nat.sub_mul]; congr 1; omega)⟩
    rw [Hp.del_set]
    split
    · rename_i e0; subst e0
      intro a o ha
      simp only [Hp.set] at ha
      split at ha
      · rename_i e1; subst e1; rw [hH]; simpa using ha
      · exact ha
    · have e2 : wr (A ++ B) (n * sz + 0) ys = A ++ ys ++ B.drop ys.length := by
        rw [Nat.add_zero, ← hA]; exact wr_append ys A B hBm
      rw [e2]; exact Sub.refl _
  · rw [if_neg hfit]
    simp only [hw_bind']
    refine hw_typeInfo_bytes (n := bytes) (z := sz) fun i hi _ => ?_
    have hwm : IntKind.i64.max = 9223372036854775807 := by decide
    simp only [hi, hwm]
    rw [if_neg (by omega)]
    have hcap : Builtin.nextslicecap (n + m) cap * bytes ≤ 2 ^ 48 := by
      have := nextslicecap_le (need := n + m) (old := cap) (by omega)
      calc Builtin.nextslicecap (n + m) cap * bytes ≤ (2 * 16777216) * 4096 := Nat.mul_le_mul (by omega) hb
        _ ≤ 2 ^ 48 := by decide
    simp only [hw_bind']
    refine hw_typeInfo_bytes (n := bytes) (z := sz) fun i hi _ => ?_
    simp only [hi]
    rw [if_neg (by omega)]
    simp only [hw_bind', hw_pure]
    show hw false P (choose (.appendCap (n + m) cap e)) _ H
    refine ⟨rfl, fun tt => ?_⟩
    simp only [Question.cut]
    have hcp : n + m ≤ n + m + tt % (2 ^ 63 - (n + m)) := Nat.le_add_right _ _
    generalize n + m + tt % (2 ^ 63 - (n + m)) = cp at hcp ⊢
    show hw false P (typeInfo e) _ H
    refine hw_typeInfo_bytes (n := bytes) (z := sz) fun i hi _ => ?_
    simp only [hw_askRoom, Bool.not_false, if_true]
    have hsA : srcOk H sz n (.slice (some ⟨b, 0, none⟩) n cap) A := by
      have := srcOk_slice (sz := sz) (m := n) (c := cap) (o := 0) hH (by simp [hA])
      simpa [← hA] using this
    refine hw_firstCells hsA ?_
    refine hw_firstCells hy ?_
    simp only [hw_zeroValue]
    have ez : A.toArray ++ ys.toArray ++ Builtin.zeroCells z.cells (cp - (n + m)) = (A ++ ys ++ (Builtin.zeroCells z.cells (cp - (n + m))).toList).toArray := by simp
    rw [ez, hw_newRow]
    refine ⟨rfl, fun b' hb' => ⟨(H.del b).set b' (row (A ++ ys ++ (Builtin.zeroCells z.cells (cp - (n + m))).toList) e), (Sub.del H b).set _ _, h b' cp _ (Hp.del_none.2 (.inr hb')) hcp ?_⟩⟩
    simp [zeroCells_len, hz]
/-- to an empty slice without memory -/
theorem hop_appendNil {t e u : TypeId} {x y : Operand} {m sz bytes : Nat} {ys : List Value} {z : Value} [Ty P t (.slice e)] [Ty P u (.slice e)] [Sz P e sz] [By P e bytes] [Zv P e z]
    (hx : ev l x = .slice none 0 0) (hy : srcOk H sz m (ev l y) ys) (hz : z.cells.size = sz) (hm : 0 < m) (hn : m ≤ 16777216) (hb : bytes ≤ 4096)
    (h : ∀ b' cap' B', H b' = none → m ≤ cap' → B'.length = (cap' - m) * sz → K (.slice (some ⟨b', 0, none⟩) m cap') (H.set b' (row (ys ++ B') e))) :
    hop false P ⟨d, .call ⟨.builtin .append, #[x, y], #[t, u]⟩, ty, pos, aft, g⟩ l H K := by
  unfold hop
  simp only [execOp, resolve, hw_bind', hw_pure, invoke, builtin, List.map_toArray, List.map_cons, List.map_nil, hx]
  simp only [Builtin.append_, List.getElem?_toArray, List.getElem?_cons_zero, List.getElem?_cons_succ, hw_bind', hw_underlying, hw_sizeOf, hw_pure, Bool.false_eq_true, if_false]
  refine hw_lenOf hy ?_
  rw [if_neg (by omega)]
  simp only [hw_bind']
  refine hw_typeInfo_bytes (n := bytes) (z := sz) fun i hi _ => ?_
  have hwm : IntKind.i64.max = 9223372036854775807 := by decide
  simp only [hi, hwm]
  rw [if_neg (by omega)]
  have hcap : Builtin.nextslicecap (0 + m) 0 * bytes ≤ 2 ^ 48 := by
    have := nextslicecap_le (need := 0 + m) (old := 0) (by omega)
    calc Builtin.nextslicecap (0 + m) 0 * bytes ≤ (2 * 16777216) * 4096 := Nat.mul_le_mul (by omega) hb
      _ ≤ 2 ^ 48 := by decide
  simp only [hw_bind']
  refine hw_typeInfo_bytes (n := bytes) (z := sz) fun i hi _ => ?_
  simp only [hi]
  rw [if_neg (by omega)]
  simp only [hw_bind', hw_pure]
  show hw false P (choose (.appendCap (0 + m) 0 e)) _ H
  refine ⟨rfl, fun tt => ?_⟩
  simp only [Question.cut, Nat.zero_add]
  have hcp : m ≤ m + tt % (2 ^ 63 - m) := Nat.le_add_right _ _
  generalize m + tt % (2 ^ 63 - m) = cp at hcp ⊢
  show hw false P (typeInfo e) _ H
  refine hw_typeInfo_bytes (n := bytes) (z := sz) fun i hi _ => ?_
  simp only [hw_askRoom, Bool.not_false, if_true, Builtin.firstCells, hw_pure]
  refine hw_firstCells hy ?_
  simp only [hw_zeroValue]
  have ez : #[] ++ ys.toArray ++ Builtin.zeroCells z.cells (cp - m) = (ys ++ (Builtin.zeroCells z.cells (cp - m)).toList).toArray := by simp
  rw [ez, hw_newRow]
  refine ⟨rfl, fun b' hb' => ⟨_, .refl _, h b' cp _ hb' hcp ?_⟩⟩
  simp [zeroCells_len, hz]
/-- nothing appended to nothing -/
theorem hop_appendNil0 {t e u : TypeId} {x y : Operand} {sz : Nat} [Ty P t (.slice e)] [Ty P u (.slice e)] [Sz P e sz]
    (hx : ev l x = .slice none 0 0) (hy : srcOk H sz 0 (ev l y) []) (h : K (.slice none 0 0) H) :
    hop false P ⟨d, .call ⟨.builtin .append, #[x, y], #[t, u]⟩, ty, pos, aft, g⟩ l H K := by
  unfold hop
  simp only [execOp, resolve, hw_bind', hw_pure, invoke, builtin, List.map_toArray, List.map_cons, List.map_nil, hx]
  simp only [Builtin.append_, List.getElem?_toArray, List.getElem?_cons_zero, List.getElem?_cons_succ, hw_bind', hw_underlying, hw_sizeOf, hw_pure, Bool.false_eq_true, if_false]
  refine hw_lenOf hy ?_
  rw [if_pos (by omega)]
  simp only [hw_bind', Bool.not_false, if_true]
  refine hw_firstCells hy ?_
  exact ⟨_, .refl _, h⟩
/-! ## copy, clear -/
theorem srcOk_take {sz n m : Nat} {v : Value} {ys : List Value} (h : srcOk H sz n v ys) (hm : m ≤ n) {Q : Array Value → Hp → Prop} (hq : Q (ys.take (m * sz)).toArray H) : hw r P (Builtin.firstCells sz m v) Q H := by
  rcases h with ⟨a, n, c, rfl, rfl, h⟩ | ⟨s, rfl, rfl, rfl, rfl⟩
  · cases a with
    | none =>
      obtain ⟨rfl, h0⟩ := h
      simpa [Builtin.firstCells] using hq
    | some a =>
      obtain ⟨b, o, s⟩ := a
      obtain ⟨rfl, L, t, hH, hl, rfl⟩ := h
      have hmn := Nat.mul_le_mul_right sz hm
      refine hw_loadCells hH (by omega) ?_
      rw [List.take_take] at hq
      rwa [Nat.min_eq_left hmn] at hq
  · simp only [Builtin.firstCells]
    have e : (s.extract 0 m).data.map (fun b => Value.int .u8 b.toNat) = ((s.data.toList.map fun b => Value.int .u8 b.toNat).take (m * 1)).toArray := by
      apply Array.ext'; simp
    rw [e]; exact hq
theorem hop_copy {t e u : TypeId} {x y : Operand} {b o n cap m sz : Nat} {L ys : List Value} {t' : TypeId} [Ty P t (.slice e)] [Sz P e sz]
    (hx : ev l x = .slice (some ⟨b, o, none⟩) n cap) (hH : H b = some (row L t')) (hl : o + n * sz ≤ L.length) (hy : srcOk H sz m (ev l y) ys) (hv : ∀ v ∈ ys, v.oneCell' = true)
    (h : K (.int .i64 (min m n : Nat)) (H.set b (row (wr L o (ys.take (min m n * sz))) t'))) :
    hop false P ⟨d, .call ⟨.builtin .copy, #[x, y], #[t, u]⟩, ty, pos, aft, g⟩ l H K := by
  refine hop_builtin (Builtin.copy_ #[t, u] ty #[.slice (some ⟨b, o, none⟩) n cap, ev l y]) (fun _ => by simp [builtin, hx]) ?_
  have hlen := srcOk_len hy
  simp only [Builtin.copy_, List.getElem?_toArray, List.getElem?_cons_zero, List.getElem?_cons_succ, hw_bind', hw_underlying, hw_pure]
  refine hw_lenOf hy ?_
  simp only [hw_sizeOf]
  have hmn : Nat.min m n ≤ m := Nat.min_le_left _ _
  refine srcOk_take hy hmn ?_
  have hle := Nat.mul_le_mul_right sz (Nat.min_le_right m n)
  refine hw_storeCells _ L H 0 _ hH ?_ (fun v hv' => hv v (List.mem_of_mem_take (by simpa using hv'))) ?_
  · simp only [Nat.add_zero, List.length_take, hlen]
    have : min (Nat.min m n * sz) (m * sz) ≤ Nat.min m n * sz := Nat.min_le_left _ _
    have h2 : Nat.min m n * sz ≤ n * sz := hle
    omega
  · split
    · rename_i e0
      have e1 : ys.take (Nat.min m n * sz) = [] := by simpa using e0
      have h' := h
      rw [show min m n = Nat.min m n from rfl, e1] at h'
      simp only [wr] at h'
      have : H.set b (row L t') = H := Hp.set_eq H hH
      rw [this] at h'
      exact h'
    · exact h
/-! ## a slice that owns its block, or none -/
def OwnS (H : Hp) (v : Value) (n : Nat) (A : List Value) (t : TypeId) (sz : Nat) : Prop :=
  (v = .slice none 0 0 ∧ n = 0 ∧ A = []) ∨ ∃ b cap B, v = .slice (some ⟨b, 0, none⟩) n cap ∧ H b = some (row (A ++ B) t) ∧ A.length = n * sz ∧ B.length = (cap - n) * sz ∧ n ≤ cap
/-- what is known besides that block -/
def Hp.drop (H : Hp) (v : Value) : Hp := match v with
  | .slice (some a) _ _ => H.del a.block
  | _ => H
theorem Sub.drop (H : Hp) (v : Value) : Sub (H.drop v) H := by
  unfold Hp.drop; split
  · exact Sub.del _ _
  · exact Sub.refl _
theorem Sub.drop_mono {H H' : Hp} (s : Sub H H') (v : Value) : Sub (H.drop v) (H'.drop v) := by
  unfold Hp.drop; split
  · intro x y h
    simp only [Hp.del] at h ⊢
    split at h
    · cases h
    · rename_i hne; rw [if_neg hne]; exact s _ _ h
  · exact s
theorem OwnS.nil (H : Hp) (t : TypeId) (sz : Nat) : OwnS H (.slice none 0 0) 0 [] t sz := .inl ⟨rfl, rfl, rfl⟩
theorem OwnS.mk {H : Hp} {b n cap sz : Nat} {A B : List Value} {t : TypeId} (h : H b = some (row (A ++ B) t)) (hA : A.length = n * sz) (hB : B.length = (cap - n) * sz) (hc : n ≤ cap) : OwnS H (.slice (some ⟨b, 0, none⟩) n cap) n A t sz :=
  .inr ⟨b, cap, B, rfl, h, hA, hB, hc⟩
theorem OwnS.sub {H H' : Hp} {v : Value} {n sz : Nat} {A : List Value} {t : TypeId} (h : OwnS H v n A t sz) (s : Sub H H') : OwnS H' v n A t sz := by
  rcases h with h | ⟨b, cap, B, hv, hb, h⟩
  · exact .inl h
  · exact .inr ⟨b, cap, B, hv, s _ _ hb, h⟩
theorem OwnS.src {H : Hp} {v : Value} {n sz : Nat} {A : List Value} {t : TypeId} (h : OwnS H v n A t sz) : srcOk H sz n v A := by
  rcases h with ⟨rfl, rfl, rfl⟩ | ⟨b, cap, B, rfl, hb, hA, hB, hc⟩
  · exact srcOk_nil
  · exact srcOk_own hb hA
theorem OwnS.slice {H : Hp} {v : Value} {n sz : Nat} {A : List Value} {t : TypeId} (h : OwnS H v n A t sz) : ∃ a c, v = .slice a n c := by
  rcases h with ⟨rfl, rfl, rfl⟩ | ⟨b, cap, B, rfl, hb, hA, hB, hc⟩
  · exact ⟨_, _, rfl⟩
  · exact ⟨_, _, rfl⟩
theorem OwnS.len {H : Hp} {v : Value} {n sz : Nat} {A : List Value} {t : TypeId} (h : OwnS H v n A t sz) : A.length = n * sz := by
  rcases h with ⟨rfl, rfl, rfl⟩ | ⟨b, cap, B, rfl, hb, hA, hB, hc⟩
  · simp
  · exact hA
/-- a slice of its own comes back, and nothing else has changed -/
def RetS (H0 : Hp) (A : List Value) (n : Nat) (t : TypeId) (sz : Nat) (v : Value) (H' : Hp) : Prop := OwnS H' v n A t sz ∧ H'.drop v = H0
theorem RetS.le {H0 H' : Hp} {A : List Value} {n sz : Nat} {t : TypeId} {v : Value} (h : RetS H0 A n t sz v H') : Sub H0 H' := h.2 ▸ Sub.drop H' v
theorem RetS.nil (H : Hp) (t : TypeId) (sz : Nat) : RetS H [] 0 t sz (.slice none 0 0) H := ⟨OwnS.nil H t sz, rfl⟩
theorem app_fin {H H0 H1 : Hp} {sv : Value} {b' n m cap' sz : Nat} {A ys B' : List Value} {t : TypeId} (hdr : Sub H0 (H.drop sv)) (s1 : Sub H H1) (hb' : (H1.drop sv) b' = none) (hc : n + m ≤ cap') (hJ : B'.length = (cap' - (n + m)) * sz)
    (hA : A.length = n * sz) (hy : ys.length = m * sz) :
    Sub (H0.set b' (row (A ++ ys ++ B') t)) ((H1.drop sv).set b' (row (A ++ ys ++ B') t)) ∧ RetS H0 (A ++ ys) (n + m) t sz (.slice (some ⟨b', 0, none⟩) (n + m) cap') (H0.set b' (row (A ++ ys ++ B') t)) := by
  have s2 : Sub H0 (H1.drop sv) := hdr.trans (Sub.drop_mono s1 sv)
  refine ⟨s2.set _ _, OwnS.mk (Hp.set_same _ _ _) (by rw [List.length_append, hA, hy, Nat.add_mul]) hJ hc, ?_⟩
  simp only [Hp.drop]
  rw [Hp.set_del, Hp.del_of (s2.unk hb')]
theorem hop_appendO {t e u : TypeId} {x y : Operand} {v : Value} {n m sz bytes : Nat} {A ys : List Value} {z : Value} [Ty P t (.slice e)] [Ty P u (.slice e)] [Sz P e sz] [By P e bytes] [Zv P e z]
    (hx : ev l x = v) (ho : OwnS H v n A e sz) (hy : srcOk H sz m (ev l y) ys) (hv : ∀ v ∈ ys, v.oneCell' = true) (hz : z.cells.size = sz) (hs : 0 < sz) (hm : 0 < m) (hn : n + m ≤ 16777216) (hb : bytes ≤ 4096)
    (h : ∀ b' cap' B', (H.drop v) b' = none → n + m ≤ cap' → B'.length = (cap' - (n + m)) * sz → K (.slice (some ⟨b', 0, none⟩) (n + m) cap') ((H.drop v).set b' (row (A ++ ys ++ B') e))) :
    hop false P ⟨d, .call ⟨.builtin .append, #[x, y], #[t, u]⟩, ty, pos, aft, g⟩ l H K := by
  rcases ho with ⟨rfl, rfl, rfl⟩ | ⟨b, cap, B, rfl, hb', hA, hB, hc⟩
  · refine hop_appendNil hx hy hz hm (by omega) hb ?_
    intro b' cap' B' h1 h2 h3
    have := h b' cap' B' h1 (by omega) (by simpa using h3)
    simpa [Hp.drop] using this
  · exact hop_append hx hb' hA hB hc hy hv hz hs hn hb h
theorem hop_appendO0 {t e u : TypeId} {x y : Operand} {v : Value} {n sz : Nat} {A : List Value} [Ty P t (.slice e)] [Ty P u (.slice e)] [Sz P e sz]
    (hx : ev l x = v) (ho : OwnS H v n A e sz) (hy : srcOk H sz 0 (ev l y) []) (h : K v H) :
    hop false P ⟨d, .call ⟨.builtin .append, #[x, y], #[t, u]⟩, ty, pos, aft, g⟩ l H K := by
  rcases ho with ⟨rfl, rfl, rfl⟩ | ⟨b, cap, B, rfl, hb', hA, hB, hc⟩
  · exact hop_appendNil0 hx hy h
  · unfold hop
    simp only [execOp, resolve, hw_bind', hw_pure, invoke, builtin, List.map_toArray, List.map_cons, List.map_nil, hx]
    simp only [Builtin.append_, List.getElem?_toArray, List.getElem?_cons_zero, List.getElem?_cons_succ, hw_bind', hw_underlying, hw_sizeOf, hw_pure, Bool.false_eq_true, if_false]
    refine hw_lenOf hy ?_
    rw [if_pos (by omega)]
    simp only [hw_bind', Bool.not_false, if_true]
    refine hw_firstCells hy ?_
    exact ⟨_, .refl _, h⟩
end
end Go.H
