/- A part of the proofs over the tenants of a page cache: lemmas on what is known of the memory, and contracts of the Go functions. -/
import Derived.Test.YtckokpmljhhhcaaHf
import Derived.Test.YtckokpmljhhhcaaM
set_option linter.unusedVariables false
set_option linter.unusedSimpArgs false
namespace Go.H
open Go
/-! ## Results, one by one -/
/-- a result's value -/
def resS (l : Array Value) : ResultVar → Sem Value
  | .tmp t => pure (l.getD t undef)
  | .cell a t => do loadVar t (← asAddr (l.getD a undef))
def RV (P : Program) (l : List Value) (H : Hp) (r : ResultVar) (v : Value) : Prop := hw true P (resS l.toArray r) (fun v' _ => v' = v) H
theorem RV.tmp {P : Program} {l : List Value} {H : Hp} {t : Tmp} : RV P l H (.tmp t) (l.getD t undef) := by
  show l.toArray.getD t undef = l.getD t undef
  simp
theorem RV.cellA {P : Program} {l : List Value} {H : Hp} {a : Tmp} {t : TypeId} {b o n : Nat} {L : List Value} {t' : TypeId} [Ag P t true] [Sz P t n] (hx : l.getD a undef = .pointer (some ⟨b, o, none⟩)) (hH : H b = some (row L t')) (hl : o + n ≤ L.length) :
    RV P l H (.cell a t) (.agg ((L.drop o).take n).toArray) := by
  have hx' : l.toArray.getD a undef = .pointer (some ⟨b, o, none⟩) := by rw [← hx]; simp
  unfold RV
  simp only [resS, hx', asAddr, hw_bind', hw_pure, loadVar, hw_isAgg, if_true, hw_sizeOf]
  exact hw_loadCells hH hl rfl
theorem RV.cellW {P : Program} {l : List Value} {H : Hp} {a : Tmp} {t : TypeId} {b n : Nat} {L : List Value} {t' : TypeId} [Ag P t true] [Sz P t n] (hx : l.getD a undef = .pointer (some ⟨b, 0, none⟩)) (hH : H b = some (row L t')) (hl : L.length = n) :
    RV P l H (.cell a t) (.agg L.toArray) := by
  have := RV.cellA (P := P) (t := t) hx hH (by omega)
  subst hl
  simpa using this
theorem RV.cellS {P : Program} {l : List Value} {H : Hp} {a : Tmp} {t : TypeId} {b o : Nat} {v : Value} {L : List Value} {t' : TypeId} [Ag P t false] (hx : l.getD a undef = .pointer (some ⟨b, o, none⟩)) (hH : H b = some (row L t')) (hv : L[o]? = some v) :
    RV P l H (.cell a t) v := by
  have hx' : l.toArray.getD a undef = .pointer (some ⟨b, o, none⟩) := by rw [← hx]; simp
  unfold RV
  simp only [resS, hx', asAddr, hw_bind', hw_pure, loadVar, hw_isAgg, Bool.false_eq_true, if_false, hw_load, cell_row hH]
  exact ⟨v, hv, rfl⟩
theorem results_eq (fn : Func) (tmps : Array Value) : results fn tmps = (do let vs ← fn.results.mapM (resS tmps); pure (if h : vs.size = 1 then vs[0] else .tuple vs)) := rfl
theorem hend_1 {P : Program} {fn : Func} {l : List Value} {H H' : Hp} {R : Value → Hp → Prop} {r1 : ResultVar} {v1 : Value} (hr : fn.results = #[r1]) (s : Sub H' H) (h1 : RV P l H r1 v1) (hR : R v1 H') : hend P fn R .ret l H := by
  refine hend_mem s ?_ hR
  rw [results_eq, hr]
  simp only [Array.mapM_eq_mapM_toList, List.mapM_cons, List.mapM_nil, hw_map, hw_bind', hw_pure]
  refine hw_of_still _ h1 ?_
  rintro _ rfl
  rfl
theorem hend_2 {P : Program} {fn : Func} {l : List Value} {H H' : Hp} {R : Value → Hp → Prop} {r1 r2 : ResultVar} {v1 v2 : Value} (hr : fn.results = #[r1, r2]) (s : Sub H' H) (h1 : RV P l H r1 v1) (h2 : RV P l H r2 v2)
    (hR : R (.tuple #[v1, v2]) H') : hend P fn R .ret l H := by
  refine hend_mem s ?_ hR
  rw [results_eq, hr]
  simp only [Array.mapM_eq_mapM_toList, List.mapM_cons, List.mapM_nil, hw_map, hw_bind', hw_pure]
  refine hw_of_still _ h1 ?_
  rintro _ rfl
  refine hw_of_still _ h2 ?_
  rintro _ rfl
  rfl
theorem hend_3 {P : Program} {fn : Func} {l : List Value} {H H' : Hp} {R : Value → Hp → Prop} {r1 r2 r3 : ResultVar} {v1 v2 v3 : Value} (hr : fn.results = #[r1, r2, r3]) (s : Sub H' H) (h1 : RV P l H r1 v1) (h2 : RV P l H r2 v2) (h3 : RV P l H r3 v3)
    (hR : R (.tuple #[v1, v2, v3]) H') : hend P fn R .ret l H := by
  refine hend_mem s ?_ hR
  rw [results_eq, hr]
  simp only [Array.mapM_eq_mapM_toList, List.mapM_cons, List.mapM_nil, hw_map, hw_bind', hw_pure]
  refine hw_of_still _ h1 ?_
  rintro _ rfl
  refine hw_of_still _ h2 ?_
  rintro _ rfl
  refine hw_of_still _ h3 ?_
  rintro _ rfl
  rfl
/-! ## What is known, by parts -/
def Disj (H R : Hp) : Prop := ∀ b, R b ≠ none → H b = none
theorem Disj.get {H R : Hp} (d : Disj H R) {b : Nat} {o : Obj} (h : R b = some o) : H b = none := d b (by rw [h]; simp)
theorem Disj.get' {H R : Hp} (d : Disj H R) {b : Nat} {o : Obj} (h : H b = some o) : R b = none := by
  cases e : R b with
  | none => rfl
  | some x => rw [d.get e] at h; cases h
theorem Disj.symm {H R : Hp} (d : Disj H R) : Disj R H := by
  intro b hb
  cases e : R b with
  | none => rfl
  | some x => rw [d.get e] at hb; exact absurd rfl hb
theorem Disj.sub {H R H' R' : Hp} (d : Disj H R) (s : Sub H' H) (s' : Sub R' R) : Disj H' R' := by
  intro b hb
  have : R b ≠ none := by
    cases e : R' b with
    | none => exact absurd e hb
    | some x => rw [s' b x e]; simp
  exact s.unk (d b this)
theorem Disj.ne {H R : Hp} (d : Disj H R) {b c : Nat} {o o' : Obj} (h : H b = some o) (h' : R c = some o') : b ≠ c := by
  intro e; subst e; rw [d.get h'] at h; cases h
theorem HT.frame2 {P : Program} {f : FuncId} {args : Array Value} {H R G : Hp} {Q : Value → Hp → Prop} (s : Sub H G) (sr : Sub R G) (d : Disj H R) (h : HT P f args H Q) :
    HT P f args G (fun v G' => ∃ H', Q v H' ∧ Sub H' G' ∧ Sub R G' ∧ Disj H' R) := by
  refine HT.mono (HT.frame s h) ?_
  rintro v G' ⟨H', hQ, s', fr⟩
  refine ⟨H', hQ, s', fun b x hx => (fr b x (d.get hx) (sr b x hx)).2, fun b hb => ?_⟩
  cases e : R b with
  | none => exact absurd e hb
  | some x => exact (fr b x (d.get e) (sr b x e)).1
def Hp.emp : Hp := fun _ => none
theorem Sub.emp (H : Hp) : Sub Hp.emp H := by intro b o h; cases h
theorem Disj.emp (H : Hp) : Disj Hp.emp H := fun _ _ => rfl
/-- two parts together -/
def Hp.un (A B : Hp) : Hp := fun b => match A b with
  | some o => some o
  | none => B b
theorem Sub.un_l (A B : Hp) : Sub A (A.un B) := by intro b o h; simp [Hp.un, h]
theorem Sub.un_r {A B : Hp} (d : Disj A B) : Sub B (A.un B) := by intro b o h; simp [Hp.un, d.get h, h]
theorem Sub.un {A B G : Hp} (sa : Sub A G) (sb : Sub B G) : Sub (A.un B) G := by
  intro b o h
  simp only [Hp.un] at h
  cases e : A b with
  | some x => rw [e] at h; simp only [Option.some.injEq] at h; subst h; exact sa _ _ e
  | none => rw [e] at h; exact sb _ _ h
theorem Disj.un_l {A B R : Hp} (d : Disj A R) (d' : Disj B R) : Disj (A.un B) R := by
  intro b hb
  simp [Hp.un, d b hb, d' b hb]
theorem Disj.un_r {A B R : Hp} (d : Disj A B) (d' : Disj A R) : Disj A (B.un R) := (Disj.un_l d.symm d'.symm).symm
theorem Disj.set_r {H R : Hp} (d : Disj H R) {b : Nat} (hb : H b = none) (o : Obj) : Disj H (R.set b o) := by
  intro c hc
  by_cases e : c = b
  · subst e; exact hb
  · rw [Hp.set_ne _ _ e] at hc; exact d c hc
theorem Disj.set_l {H R : Hp} (d : Disj H R) {b : Nat} (hb : R b = none) (o : Obj) : Disj (H.set b o) R := (Disj.set_r d.symm hb o).symm
/-- a block alone -/
def Hp.one (b : Nat) (o : Obj) : Hp := Hp.emp.set b o
theorem Hp.one_get (b : Nat) (o : Obj) : (Hp.one b o) b = some o := Hp.set_same _ _ _
theorem Sub.one {b : Nat} {o : Obj} {G : Hp} (h : G b = some o) : Sub (Hp.one b o) G := by
  intro c x hx
  by_cases e : c = b
  · subst e; rw [Hp.one_get] at hx; rw [h, ← hx]
  · rw [Hp.one, Hp.set_ne _ _ e] at hx; cases hx
theorem Disj.one {b : Nat} {o : Obj} {H : Hp} (h : H b = none) : Disj H (Hp.one b o) := Disj.set_r (fun c hc => absurd rfl hc) h o
/-- what is told besides, where nothing is known of its blocks -/
theorem hU {A B : Hp} {b : Nat} {o : Obj} (s : Sub A B) (h : A b = some o) : B b = some o := s b o h
theorem hDl {H : Hp} {b c : Nat} {x : Option Obj} (h : c ≠ b) (hc : H c = x) : (H.del b) c = x := Hp.get_del h hc
theorem hDl' {H : Hp} {b c : Nat} {x : Option Obj} (h : b ≠ c) (hc : H c = x) : (H.del b) c = x := Hp.get_del h.symm hc
/-- slices that are read -/
theorem srcOk.idx {H : Hp} {sz m i : Nat} {v : Value} {ys : List Value} (h : srcOk H sz m v ys) (hi : i < m) (hv : ∀ s, v ≠ .string s) : ∃ b o c L t, v = .slice (some ⟨b, o, none⟩) m c ∧ H b = some (row L t) ∧ o + m * sz ≤ L.length ∧ ys = (L.drop o).take (m * sz) := by
  rcases h with ⟨a, n, c, rfl, rfl, h⟩ | ⟨s, rfl, _⟩
  · cases a with
    | none => omega
    | some a =>
      obtain ⟨b, o, s⟩ := a
      obtain ⟨rfl, L, t, hH, hl, rfl⟩ := h
      exact ⟨b, o, c, L, t, rfl, hH, hl, rfl⟩
  · exact absurd rfl (hv s)
theorem srcOk.sub {H H' : Hp} {sz m : Nat} {v : Value} {ys : List Value} (h : srcOk H sz m v ys) (s : Sub H H') : srcOk H' sz m v ys := by
  rcases h with ⟨a, n, c, rfl, rfl, h⟩ | ⟨s', rfl, rfl, rfl, rfl⟩
  · refine .inl ⟨a, _, _, rfl, rfl, ?_⟩
    cases a with
    | none => exact h
    | some a =>
      obtain ⟨b, o, s'⟩ := a
      obtain ⟨rfl, L, t, hH, hl, rfl⟩ := h
      exact ⟨rfl, L, t, s _ _ hH, hl, rfl⟩
  · exact srcOk_str
/-- what is known of some objects -/
def Hp.filt (p : Obj → Bool) (H : Hp) : Hp := fun b => match H b with
  | some o => if p o = true then some o else none
  | none => none
theorem Hp.filt_get {p : Obj → Bool} {H : Hp} {b : Nat} {o : Obj} (h : H b = some o) (hp : p o = true) : (H.filt p) b = some o := by simp [Hp.filt, h, hp]
theorem Hp.filt_none {p : Obj → Bool} {H : Hp} {b : Nat} {o : Obj} (h : H b = some o) (hp : p o = false) : (H.filt p) b = none := by simp [Hp.filt, h, hp]
theorem Hp.filt_of {p : Obj → Bool} {H : Hp} {b : Nat} {o : Obj} (h : (H.filt p) b = some o) : H b = some o ∧ p o = true := by
  unfold Hp.filt at h
  split at h
  · rename_i x e
    split at h
    · cases h; exact ⟨e, by assumption⟩
    · cases h
  · cases h
theorem Hp.filt_sub (p : Obj → Bool) (H : Hp) : Sub (H.filt p) H := fun _ _ h => (Hp.filt_of h).1
theorem Hp.filt_disj (p : Obj → Bool) (H : Hp) : Disj (H.filt fun o => !p o) (H.filt p) := by
  intro b hb
  cases e : H.filt p b with
  | none => exact absurd e hb
  | some o =>
    obtain ⟨h1, h2⟩ := Hp.filt_of e
    exact Hp.filt_none h1 (by simp [h2])
theorem Hp.filt_un (p : Obj → Bool) (H : Hp) : Sub H ((H.filt p).un (H.filt fun o => !p o)) := by
  intro b o h
  cases e : p o with
  | true => simp [Hp.un, Hp.filt_get h e]
  | false => simp only [Hp.un, Hp.filt_none h e]; exact Hp.filt_get h (by simp [e])
/-- slices that are read, in blocks of a type -/
def rdS (H : Hp) (v : Value) (n : Nat) (ys : List Value) (T : TypeId) (sz : Nat) : Prop :=
  (v = .slice none 0 0 ∧ n = 0 ∧ ys = []) ∨ ∃ b o c L, v = .slice (some ⟨b, o, none⟩) n c ∧ H b = some (row L T) ∧ o + n * sz ≤ L.length ∧ ys = (L.drop o).take (n * sz) ∧ n ≤ c
theorem rdS.nil {H : Hp} {T : TypeId} {sz : Nat} : rdS H (.slice none 0 0) 0 [] T sz := .inl ⟨rfl, rfl, rfl⟩
theorem rdS.sub {H H' : Hp} {v : Value} {n sz : Nat} {ys : List Value} {T : TypeId} (h : rdS H v n ys T sz) (s : Sub H H') : rdS H' v n ys T sz := by
  rcases h with h | ⟨b, o, c, L, h1, h2, h3⟩
  · exact .inl h
  · exact .inr ⟨b, o, c, L, h1, s _ _ h2, h3⟩
theorem rdS.slice {H : Hp} {v : Value} {n sz : Nat} {ys : List Value} {T : TypeId} (h : rdS H v n ys T sz) : ∃ a c, v = .slice a n c := by
  rcases h with ⟨rfl, rfl, rfl⟩ | ⟨b, o, c, L, rfl, h⟩ <;> exact ⟨_, _, rfl⟩
theorem rdS.one {H : Hp} {v : Value} {n sz : Nat} {ys : List Value} {T : TypeId} (h : rdS H v n ys T sz) : v.oneCell' = true := by
  obtain ⟨a, c, rfl⟩ := h.slice; rfl
theorem rdS.src {H : Hp} {v : Value} {n sz : Nat} {ys : List Value} {T : TypeId} (h : rdS H v n ys T sz) : srcOk H sz n v ys := by
  rcases h with ⟨rfl, rfl, rfl⟩ | ⟨b, o, c, L, rfl, hH, hl, rfl, _⟩
  · exact srcOk_nil
  · exact srcOk_slice hH hl
theorem rdS.len {H : Hp} {v : Value} {n sz : Nat} {ys : List Value} {T : TypeId} (h : rdS H v n ys T sz) : ys.length = n * sz := srcOk_len h.src
theorem rdS.pos {H : Hp} {v : Value} {n sz : Nat} {ys : List Value} {T : TypeId} (h : rdS H v n ys T sz) (hn : 0 < n) : ∃ b o c L, v = .slice (some ⟨b, o, none⟩) n c ∧ H b = some (row L T) ∧ o + n * sz ≤ L.length ∧ ys = (L.drop o).take (n * sz) ∧ n ≤ c := by
  rcases h with ⟨rfl, rfl, rfl⟩ | h
  · omega
  · exact h
theorem OwnS.rd {H : Hp} {v : Value} {n sz : Nat} {A : List Value} {t : TypeId} (h : OwnS H v n A t sz) : rdS H v n A t sz := by
  rcases h with h | ⟨b, cap, B, rfl, hb, hA, hB, hc⟩
  · exact .inl h
  · exact .inr ⟨b, 0, cap, A ++ B, rfl, hb, by simp [hA], by simp [← hA], hc⟩
theorem OwnS.one {H : Hp} {v : Value} {n sz : Nat} {A : List Value} {t : TypeId} (h : OwnS H v n A t sz) : v.oneCell' = true := h.rd.one
/-- the tail of what is read -/
theorem rd_tail {H : Hp} {b o c n sz : Nat} {L ys : List Value} {T : TypeId} (hH : H b = some (row L T)) (hl : o + (n + 1) * sz ≤ L.length) (hy : ys = (L.drop o).take ((n + 1) * sz)) (hc : n + 1 ≤ c) :
    rdS H (.slice (some ⟨b, if c = 1 then o else o + 1 * sz, none⟩) n (c - 1)) n (ys.drop sz) T sz := by
  refine .inr ⟨b, _, _, L, rfl, hH, ?_, ?_, by omega⟩
  · rw [Nat.succ_mul] at hl
    split
    · have : n = 0 := by omega
      subst this; omega
    · omega
  · subst hy
    rw [Nat.succ_mul]
    split
    · have : n = 0 := by omega
      subst this; simp
    · rw [Nat.one_mul, ← List.drop_drop, List.drop_take, Nat.add_sub_cancel]
theorem rdS.upd {H : Hp} {v : Value} {n sz : Nat} {ys : List Value} {T T' : TypeId} {b : Nat} {L : List Value} {o : Obj} (h : rdS H v n ys T sz) (hb : H b = some (row L T')) (ht : T ≠ T') : rdS (H.set b o) v n ys T sz := by
  rcases h with h | ⟨c, o', cp, L', h1, h2, h3⟩
  · exact .inl h
  · refine .inr ⟨c, o', cp, L', h1, ?_, h3⟩
    rw [Hp.set_ne]
    · exact h2
    · intro e; subst e; rw [h2] at hb; simp only [Option.some.injEq, row, Obj.cells.injEq] at hb; exact ht hb.2.1
theorem rdS.new {H : Hp} {v : Value} {n sz : Nat} {ys : List Value} {T : TypeId} {b : Nat} {o : Obj} (h : rdS H v n ys T sz) (hb : H b = none) : rdS (H.set b o) v n ys T sz := h.sub (Sub.set_new hb)
theorem OwnS.upd {H : Hp} {v : Value} {n sz : Nat} {ys : List Value} {T T' : TypeId} {b : Nat} {L : List Value} {o : Obj} (h : OwnS H v n ys T sz) (hb : H b = some (row L T')) (ht : T ≠ T') : OwnS (H.set b o) v n ys T sz := by
  rcases h with h | ⟨c, cp, B, h1, h2, h3⟩
  · exact .inl h
  · refine .inr ⟨c, cp, B, h1, ?_, h3⟩
    rw [Hp.set_ne]
    · exact h2
    · intro e; subst e; rw [h2] at hb; simp only [Option.some.injEq, row, Obj.cells.injEq] at hb; exact ht hb.2.1
theorem OwnS.new {H : Hp} {v : Value} {n sz : Nat} {ys : List Value} {T : TypeId} {b : Nat} {o : Obj} (h : OwnS H v n ys T sz) (hb : H b = none) : OwnS (H.set b o) v n ys T sz := h.sub (Sub.set_new hb)
theorem Sub.over_drop {A H : Hp} {v : Value} (s : Sub A (H.drop v)) {b : Nat} (hb : A b = none) {o : Obj} : Sub A ((H.set b o).drop v) := by
  intro c x hx
  have hne := Hp.ne_of hx hb
  have key : ∀ G : Hp, Sub A G → (G.set b o) c = some x := fun G sg => by rw [Hp.set_ne _ _ hne]; exact sg c x hx
  cases v with
  | slice a n m =>
    cases a with
    | none => exact key H s
    | some a =>
      have h1 : (H.del a.block) c = some x := s c x hx
      show ((H.set b o).del a.block) c = some x
      by_cases e : c = a.block
      · subst e; rw [Hp.del_same] at h1; cases h1
      · rw [Hp.del_ne _ e] at h1 ⊢
        rw [Hp.set_ne _ _ hne]; exact h1
  | _ => exact key H s
section
variable {r : Bool} {P : Program} {l : List Value} {H : Hp} {K : Value → Hp → Prop} {d : Option Tmp} {ty : TypeId} {pos : String} {aft : Array Edge} {g : Option (Nat × Bool)}
/-- append, where the heap behind is told by what is known of it -/
theorem hop_appendW {H0 : Hp} {t e u : TypeId} {x y : Operand} {v : Value} {n m sz bytes : Nat} {A ys : List Value} {z : Value} [Ty P t (.slice e)] [Ty P u (.slice e)] [Sz P e sz] [By P e bytes] [Zv P e z]
    (hx : ev l x = v) (ho : OwnS H v n A e sz) (h0 : Sub H0 (H.drop v)) (hy : srcOk H sz m (ev l y) ys) (hv : ∀ v ∈ ys, v.oneCell' = true) (hz : z.cells.size = sz) (hs : 0 < sz) (hn : n + m ≤ 16777216) (hb : bytes ≤ 4096)
    (h : ∀ v' H', OwnS H' v' (n + m) (A ++ ys) e sz → Sub H0 (H'.drop v') → K v' H') :
    hop false P ⟨d, .call ⟨.builtin .append, #[x, y], #[t, u]⟩, ty, pos, aft, g⟩ l H K := by
  rcases Nat.eq_zero_or_pos m with hm | hm
  · subst hm
    have e : ys = [] := List.length_eq_zero_iff.1 (by rw [srcOk_len hy]; simp)
    subst e
    exact hop_appendO0 hx ho hy (h v H (by simpa using ho) h0)
  · refine hop_appendO hx ho hy hv hz hs hm hn hb ?_
    intro b' cap' B' hb' hcap hB
    refine h _ _ (OwnS.mk (Hp.set_same _ _ _) (by rw [List.length_append, ho.len, srcOk_len hy, Nat.add_mul]) hB hcap) ?_
    simp only [Hp.drop]
    rw [Hp.set_del]
    have := Hp.del_of hb'
    simp only [Hp.drop] at this
    rw [this]
    exact h0
theorem hop_insert {t key e : TypeId} {m x y : Operand} {b : Nat} {o : Obj} {f : Int → Option Value} {k : Int} {v : Value} [Ty P t (.map key e)] [Ty P key (.int .i64)]
    (hm' : ev l m = .map (some b)) (hx : ev l x = .int .i64 k) (hy : ev l y = v) (hH : H b = some o) (hm : MapI o f)
    (h : ∀ o', MapI o' (upd f k (some v)) → K undef (H.set b o')) : hop false P ⟨d, .insert t m x y, ty, pos, aft, g⟩ l H K :=
  hop_mapUpdate (d := d) (ty := ty) (pos := pos) (aft := aft) (g := g) hm' hx hy hH hm h
end
theorem OwnS.drop_get {H : Hp} {v : Value} {n sz : Nat} {A : List Value} {t T : TypeId} (ho : OwnS H v n A t sz) {c : Nat} {L : List Value} (hc : H c = some (row L T)) (ht : T ≠ t) : (H.drop v) c = some (row L T) := by
  rcases ho with ⟨rfl, _⟩ | ⟨b, cp, B, rfl, hb, _⟩
  · exact hc
  · show (H.del b) c = _
    rw [Hp.del_ne]
    · exact hc
    · intro e; subst e; rw [hc] at hb; simp only [Option.some.injEq, row, Obj.cells.injEq] at hb; exact ht hb.2.1
theorem rdS.drop {H : Hp} {v w : Value} {n n' sz sz' : Nat} {A ys : List Value} {t T : TypeId} (h : rdS H w n' ys T sz') (ho : OwnS H v n A t sz) (ht : T ≠ t) : rdS (H.drop v) w n' ys T sz' := by
  rcases h with h | ⟨b, o, c, L, h1, h2, h3⟩
  · exact .inl h
  · exact .inr ⟨b, o, c, L, h1, ho.drop_get h2 ht, h3⟩
/-- heaps given block by block -/
theorem Sub.emp_set {A G : Hp} (s : Sub A G) {b : Nat} {o : Obj} (h : G b = some o) : Sub (A.set b o) G := by
  intro c x hx
  by_cases e : c = b
  · subst e; rw [Hp.set_same] at hx; rw [h, hx]
  · rw [Hp.set_ne _ _ e] at hx; exact s c x hx
theorem nf2 : (∀ (x : Value) l n, (x :: l).drop (n + 1) = l.drop n) ∧ (∀ l : List Value, l.drop 0 = l) ∧ (∀ (x : Value) l n, (x :: l).take (n + 1) = x :: l.take n) ∧ (∀ l : List Value, l.take 0 = []) ∧ (∀ n, ([] : List Value).take n = []) ∧ (∀ n, ([] : List Value).drop n = []) ∧
    (∀ L o, wr L o [] = L) ∧ (∀ L o v vs, wr L o (v :: vs) = wr (L.set o v) (o + 1) vs) ∧ (∀ n : Nat, 0 + n = n) ∧ (∀ n : Nat, ((n : Int)).toNat = n) := by
  refine ⟨?_, ?_, ?_, ?_, ?_, ?_, ?_, ?_, ?_, ?_⟩ <;> intros <;> simp [wr]
theorem nfa : ((∀ c q : Bool, (if c = true then Value.bool true else (if c = false then Value.bool q else undef)) = .bool (c || q)) ∧
    (∀ c q : Bool, (if c = true then (if c = true then Value.bool q else undef) else Value.bool false) = .bool (c && q)) ∧
    (∀ Q l H, hng Q .normal l H = Q .normal l H) ∧ (∀ Q l H, hng Q .ret l H = Q .ret l H) ∧ (∀ Q n l H, hng Q (.exit n) l H = Q (.exit n) l H) ∧
    (∀ K Q l H, hthen K Q .normal l H = K l H) ∧ (∀ K Q l H, hthen K Q .ret l H = Q .ret l H) ∧ (∀ K Q n l H, hthen K Q (.exit n) l H = Q (.exit n) l H) ∧
    (∀ i Q l H, hblock i Q .normal l H = Q .normal l H) ∧ (∀ i Q l H, hblock i Q .ret l H = Q .ret l H) ∧ (∀ i Q n l H, hblock i Q (.exit n) l H = if n = i then Q .normal l H else Q (.exit n) l H) ∧
    (∀ l v, pt l none v = l) ∧ (∀ l d v, pt l (some d) v = l.set d v) ∧
    (∀ l t, ev l (.tmp t) = l.getD t undef) ∧ (∀ l v, ev l (.const v) = v) ∧ (∀ l g, ev l (.global g) = .pointer (some ⟨g, 0, none⟩)) ∧ (∀ l f, ev l (.func f) = .func (.func f) #[] #[]) ∧
    (∀ (x : Value) l d, (x :: l).getD 0 d = x) ∧ (∀ (x : Value) l n d, (x :: l).getD (n + 1) d = l.getD n d) ∧
    (∀ (x : Value) l v, (x :: l).set 0 v = v :: l) ∧ (∀ (x : Value) l n v, (x :: l).set (n + 1) v = x :: l.set n v) ∧
    (∀ n : Nat, n + 0 = n) ∧ (∀ (α : Type) (h : Decidable True) (a b : α), @ite α True h a b = a) ∧ (∀ (α : Type) (h : Decidable False) (a b : α), @ite α False h a b = b) ∧
    (∀ (α β : Type) (f : α → β) (l : List α), l.toArray.map f = (l.map f).toArray) ∧ (∀ (α β : Type) (f : α → β) (a : α) l, (a :: l).map f = f a :: l.map f) ∧ (∀ (α β : Type) (f : α → β), [].map f = []) ∧
    (∀ (a b : List Value), a.toArray ++ b.toArray = (a ++ b).toArray) ∧ (∀ (x : Value) a b, x :: a ++ b = x :: (a ++ b)) ∧ (∀ (a : List Value), [] ++ a = a) ∧
    (∀ (H : Hp) b o o', (H.set b o).set b o' = H.set b o') ∧ (∀ (α : Type) (a : α), (a = a) = True) ∧ ((false = true) = False) ∧ ((!true) = false) ∧ ((!false) = true)) ∧ ((∀ (x : Value) l n, (x :: l).drop (n + 1) = l.drop n) ∧ (∀ l : List Value, l.drop 0 = l) ∧ (∀ (x : Value) l n, (x :: l).take (n + 1) = x :: l.take n) ∧ (∀ l : List Value, l.take 0 = []) ∧ (∀ n, ([] : List Value).take n = []) ∧ (∀ n, ([] : List Value).drop n = []) ∧
    (∀ L o, wr L o [] = L) ∧ (∀ L o v vs, wr L o (v :: vs) = wr (L.set o v) (o + 1) vs) ∧ (∀ n : Nat, 0 + n = n) ∧ (∀ n : Nat, ((n : Int)).toNat = n)) := ⟨nf, nf2⟩
theorem fill_all {place : Nat → Option (Nat × Nat)} {L : List Value} : fillL place L [] = some L := rfl
end Go.H
