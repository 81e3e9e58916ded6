/- A part of the proofs over the tenants of a page cache: lemmas on what is known of the memory, and contracts of the Go functions. -/
import Derived.WalkKit
set_option linter.unusedVariables false
set_option linter.unusedSimpArgs false
namespace Go.H
open Go
/-! ## Heaps: what is known of the memory -/
def Hp := Nat → Option Obj
def Hp.set (H : Hp) (b : Nat) (o : Obj) : Hp := fun x => if x = b then some o else H x
theorem Hp.set_same (H : Hp) (b : Nat) (o : Obj) : (H.set b o) b = some o := by simp [Hp.set]
theorem Hp.set_ne (H : Hp) {b c : Nat} (o : Obj) (h : c ≠ b) : (H.set b o) c = H c := by simp [Hp.set, h]
theorem Hp.set_none {H : Hp} {b c : Nat} {o : Obj} : (H.set b o) c = none ↔ c ≠ b ∧ H c = none := by
  unfold Hp.set; split <;> simp_all
theorem Hp.set_set (H : Hp) (b : Nat) (o o' : Obj) : (H.set b o).set b o' = H.set b o' := by
  funext x; simp only [Hp.set]; split <;> rfl
theorem Hp.set_comm (H : Hp) {b c : Nat} (o o' : Obj) (h : b ≠ c) : (H.set b o).set c o' = (H.set c o').set b o := by
  funext x; simp only [Hp.set]; split <;> split <;> simp_all
theorem Hp.set_eq (H : Hp) {b : Nat} {o : Obj} (h : H b = some o) : H.set b o = H := by
  funext x; simp only [Hp.set]; split <;> simp_all
theorem Hp.ne_of {H : Hp} {b c : Nat} {o : Obj} (h : H b = some o) (hc : H c = none) : b ≠ c := by
  intro e; subst e; rw [h] at hc; cases hc
def Hp.cell (H : Hp) (a : Addr) : Option Value :=
  match H a.block with
  | some (.cells c _ _) => if a.spot.isSome then none else c[a.off]?
  | _ => none
def Agree (H : Hp) (w : World) : Prop := ∀ b o, H b = some o → w.heap[b]? = some o
theorem Agree.lt {H : Hp} {w : World} (h : Agree H w) {b : Nat} {o : Obj} (hb : H b = some o) : b < w.heap.size := by
  have := h b o hb
  exact (Array.getElem?_eq_some_iff.1 this).1
theorem Agree.none {H : Hp} {w : World} (h : Agree H w) {b : Nat} (hb : w.heap.size ≤ b) : H b = none := by
  cases e : H b with
  | none => rfl
  | some o => exact absurd (h.lt e) (by omega)
/-- 'w'' is 'w' but for what H knows and new blocks; what H' knows besides is new. -/
structure Keep (H H' : Hp) (w w' : World) : Prop where
  size : w.heap.size ≤ w'.heap.size
  same : ∀ b, b < w.heap.size → H b = none → w'.heap[b]? = w.heap[b]?
  new : ∀ b, H b = none → H' b ≠ none → w.heap.size ≤ b
  tape : w'.tape = w.tape
  os : w'.os = w.os
  output : w'.output = w.output
theorem Keep.refl (H : Hp) (w : World) : Keep H H w w := ⟨Nat.le_refl _, fun _ _ _ => rfl, fun _ h h' => absurd h h', rfl, rfl, rfl⟩
theorem Keep.trans {H H₁ H₂ : Hp} {w w₁ w₂ : World} (a : Keep H H₁ w w₁) (b : Keep H₁ H₂ w₁ w₂) : Keep H H₂ w w₂ := by
  refine ⟨Nat.le_trans a.size b.size, fun x hx hn => ?_, fun x hn hs => ?_, b.tape.trans a.tape, b.os.trans a.os, b.output.trans a.output⟩
  · have h1 : H₁ x = none := by
      cases e : H₁ x with
      | none => rfl
      | some o => exact absurd (a.new x hn (by rw [e]; simp)) (by omega)
    rw [b.same x (Nat.lt_of_lt_of_le hx a.size) h1, a.same x hx hn]
  · cases e : H₁ x with
    | some o => exact a.new x hn (by rw [e]; simp)
    | none => exact Nat.le_trans a.size (b.new x e hs)
/-- forgetting part of what is known -/
def Sub (H H' : Hp) : Prop := ∀ b o, H b = some o → H' b = some o
theorem Sub.refl (H : Hp) : Sub H H := fun _ _ h => h
theorem Sub.trans {A B C : Hp} (h : Sub A B) (h' : Sub B C) : Sub A C := fun b o x => h' b o (h b o x)
theorem Agree.sub {H H' : Hp} {w : World} (h : Agree H' w) (s : Sub H H') : Agree H w := fun b o x => h b o (s b o x)
theorem Sub.unk {H H' : Hp} (s : Sub H H') {b : Nat} (h : H' b = none) : H b = none := by
  cases e : H b with
  | none => rfl
  | some o => rw [s b o e] at h; cases h
theorem Keep.sub {H H₁ H₂ : Hp} {w w' : World} (k : Keep H H₁ w w') (s : Sub H₂ H₁) : Keep H H₂ w w' :=
  ⟨k.size, k.same, fun b hn hs => k.new b hn (fun e => hs (s.unk e)), k.tape, k.os, k.output⟩
theorem Sub.set {H H' : Hp} (s : Sub H H') (b : Nat) (o : Obj) : Sub (H.set b o) (H'.set b o) := by
  intro x y h
  simp only [Hp.set] at *
  split at h <;> simp_all
  exact s _ _ h
theorem Sub.set_new {H : Hp} {b : Nat} {o : Obj} (h : H b = none) : Sub H (H.set b o) := by
  intro x y hx
  simp only [Hp.set]
  split
  · subst x; rw [h] at hx; cases hx
  · exact hx
def Hp.del (H : Hp) (b : Nat) : Hp := fun x => if x = b then none else H x
theorem Hp.del_same (H : Hp) (b : Nat) : (H.del b) b = none := by simp [Hp.del]
theorem Hp.del_ne (H : Hp) {b c : Nat} (h : c ≠ b) : (H.del b) c = H c := by simp [Hp.del, h]
theorem Hp.get_there {H : Hp} {b c : Nat} {o : Obj} {x : Option Obj} (h : c ≠ b) (hc : H c = x) : (H.set b o) c = x := by rw [Hp.set_ne _ _ h]; exact hc
theorem Hp.get_del {H : Hp} {b c : Nat} {x : Option Obj} (h : c ≠ b) (hc : H c = x) : (H.del b) c = x := by rw [Hp.del_ne _ h]; exact hc
theorem Sub.del (H : Hp) (b : Nat) : Sub (H.del b) H := by
  intro x y h
  simp only [Hp.del] at h
  split at h
  · cases h
  · exact h
theorem Sub.del_set (H : Hp) (b : Nat) (o : Obj) : Sub (H.del b) (H.set b o) := by
  intro x y h
  simp only [Hp.del] at h
  split at h
  · cases h
  · rename_i hne; rw [Hp.set_ne _ _ hne]; exact h
theorem Hp.del_none {H : Hp} {b c : Nat} : (H.del b) c = none ↔ c = b ∨ H c = none := by
  unfold Hp.del; split <;> simp_all
theorem Hp.del_of {H : Hp} {b : Nat} (h : H b = none) : H.del b = H := by
  funext x; unfold Hp.del; split <;> simp_all
theorem Hp.set_del (H : Hp) (b : Nat) (o : Obj) : (H.set b o).del b = H.del b := by
  funext x; simp only [Hp.set, Hp.del]; split <;> rfl
theorem Hp.del_set (H : Hp) (b : Nat) (o : Obj) : (H.del b).set b o = H.set b o := by
  funext x; simp only [Hp.set, Hp.del]; split <;> rfl
theorem Sub.over {H H1 : Hp} (s : Sub H H1) {b : Nat} (hb : H b = none) (o : Obj) : Sub H (H1.set b o) := by
  intro x y h
  rw [Hp.set_ne _ _ (Hp.ne_of h hb)]
  exact s _ _ h
/-! ## Calls -/
def HT (P : Program) (f : FuncId) (args : Array Value) (H : Hp) (Q : Value → Hp → Prop) : Prop :=
  ∀ w, Agree H w → Calls P f args w fun e w' => ∃ v H', e = .returned v ∧ Q v H' ∧ Agree H' w' ∧ Keep H H' w w'
theorem HT.mono {P : Program} {f : FuncId} {args : Array Value} {H : Hp} {Q Q' : Value → Hp → Prop} (h : HT P f args H Q)
    (hq : ∀ v H', Q v H' → Q' v H') : HT P f args H Q' :=
  fun w hw => (h w hw).mono fun _ _ ⟨v, H', he, q, ag, k⟩ => ⟨v, H', he, hq _ _ q, ag, k⟩
/-- a call may be told with less -/
theorem HT.weak {P : Program} {f : FuncId} {args : Array Value} {H : Hp} {Q Q' : Value → Hp → Prop} (h : HT P f args H Q)
    (hq : ∀ v H', Q v H' → ∃ H'', Sub H'' H' ∧ Q' v H'') : HT P f args H Q' :=
  fun w hw => (h w hw).mono fun _ _ ⟨v, H', he, q, ag, k⟩ => by
    obtain ⟨H'', s, q'⟩ := hq v H' q
    exact ⟨v, H'', he, q', ag.sub s, k.sub s⟩
/-! ## Operations -/
def Hp.shape (o : Obj) : Option (TypeId × Nat) :=
  match o with
  | .cells c elem _ => some (elem, c.size)
  | _ => none
def Hp.fz (o : Obj) (off : Nat) : Bool :=
  match o with
  | .cells _ _ (lo, hi) => lo ≤ off && off < hi
  | _ => false
def Hp.put (o : Obj) (off : Nat) (v : Value) : Obj :=
  match o with
  | .cells c elem frozen => .cells (c.setIfInBounds off v) elem frozen
  | o => o
def hw {α : Type} (r : Bool) (P : Program) : Sem α → (α → Hp → Prop) → Hp → Prop
  | .pure a, Q, H => Q a H
  | .load _ a k, Q, H => ∃ v, H.cell a = some v ∧ hw r P (k v) Q H
  | .store _ a v k, Q, H => r = false ∧ v.oneCell' = true ∧ (∃ u, H.cell a = some u) ∧ ∃ o, H a.block = some o ∧ Hp.fz o a.off = false ∧ hw r P k Q (H.set a.block (Hp.put o a.off v))
  | .new o k, Q, H => r = false ∧ ∀ b, H b = none → hw r P (k b) Q (H.set b o)
  | .shape b k, Q, H => ∃ o, H b = some o ∧ hw r P (k (Hp.shape o)) Q H
  | .freeze _ _ _, _, _ => False
  | .frozen a k, Q, H => ∃ o, H a.block = some o ∧ hw r P (k (Hp.fz o a.off)) Q H
  | .getObj b k, Q, H => ∃ o, H b = some o ∧ Hp.shape o = none ∧ hw r P (k o) Q H
  | .setObj b o k, Q, H => r = false ∧ (∃ o', H b = some o' ∧ Hp.shape o' = none) ∧ hw r P k Q (H.set b o)
  | .choose q k, Q, H => if q.forced then hw r P (k 0) Q H else r = false ∧ ∀ t, hw r P (k (q.cut t)) Q H
  | .sys _ _, _, _ => False
  | .program k, Q, H => hw r P (k P) Q H
  | .mark _ k, Q, H => hw r P k Q H
  | .halt _, _, _ => False
theorem Agree.cell {H : Hp} {w : World} (h : Agree H w) {a : Addr} {v : Value} (hc : H.cell a = some v) : w.cell? a = some v := by
  unfold Hp.cell at hc
  split at hc
  · rename_i c t f e
    simp only [World.cell?, h _ _ e]
    exact hc
  · cases hc
theorem Agree.set {H : Hp} {w w' : World} (h : Agree H w) {b : Nat} {o : Obj} (hb : w'.heap[b]? = some o)
    (hs : ∀ c, c ≠ b → w'.heap[c]? = w.heap[c]?) : Agree (H.set b o) w' := by
  intro c x hx
  simp only [Hp.set] at hx
  split at hx
  · rename_i e; subst e; cases hx; exact hb
  · rename_i e; rw [hs c e]; exact h c x hx
theorem Keep.set {H : Hp} {w w' : World} {b : Nat} {o o' : Obj} (hb : H b = some o') (hz : w'.heap.size = w.heap.size)
    (hs : ∀ c, c ≠ b → w'.heap[c]? = w.heap[c]?) (ht : w'.tape = w.tape) (ho : w'.os = w.os) (hu : w'.output = w.output) : Keep H (H.set b o) w w' := by
  refine ⟨by omega, fun c _ hn => hs c ?_, fun c hn hn' => ?_, ht, ho, hu⟩
  · intro e; subst e; rw [hn] at hb; cases hb
  · exfalso; apply hn'; rw [Hp.set_ne]; exact hn
    intro e; subst e; rw [hn] at hb; cases hb
theorem hw_sound {α : Type} {r : Bool} (P : Program) (e : Sem α) : ∀ (Q : α → Hp → Prop) (H : Hp), hw r P e Q H → ∀ w, Agree H w →
    ∃ a w' H', e.run P w = .ok a w' ∧ Q a H' ∧ Agree H' w' ∧ Keep H H' w w' := by
  induction e with
  | pure a => intro Q H h w hA; exact ⟨a, w, H, rfl, h, hA, .refl _ _⟩
  | load m a k ih =>
    intro Q H ⟨v, hv, h⟩ w hA
    obtain ⟨x, w', H', hr, q⟩ := ih v Q H h w hA
    exact ⟨x, w', H', by simp only [Sem.run, hA.cell hv]; exact hr, q⟩
  | store m a v k ih =>
    intro Q H ⟨_, hv, ⟨u, hu⟩, o, ho, hf, h⟩ w hA
    have hc := hA.cell hu
    have hfz : w.frozen? a = false := by
      simp only [World.frozen?, hA _ _ ho]
      cases o <;> simp_all [Hp.fz]
    have hs : ∀ c, c ≠ a.block → (w.setCell a v).heap[c]? = w.heap[c]? := by
      intro c hc; simp [World.setCell, Array.getElem?_modify, Ne.symm hc]
    have hsp : a.spot.isSome = false := by
      unfold Hp.cell at hu
      split at hu
      · cases e : a.spot.isSome <;> simp_all
      · cases hu
    have hb : (w.setCell a v).heap[a.block]? = some (Hp.put o a.off v) := by
      simp only [World.setCell, Array.getElem?_modify, if_true, hA _ _ ho, Option.map_some]
      cases o <;> simp [Hp.put, hsp]
    obtain ⟨x, w', H', hr, q, ag, kp⟩ := ih Q _ h (w.setCell a v) (hA.set hb hs)
    refine ⟨x, w', H', ?_, q, ag, Keep.trans (Keep.set ho (by simp [World.setCell]) hs rfl rfl rfl) kp⟩
    cases v <;> simp_all [Sem.run, Value.oneCell']
  | new o k ih =>
    intro Q H ⟨_, h⟩ w hA
    have hn : H w.heap.size = none := hA.none (Nat.le_refl _)
    have hA' : Agree (H.set w.heap.size o) { w with heap := w.heap.push o } :=
      hA.set (by simp) (fun c hc => by
        simp only [Array.getElem?_push]
        rw [if_neg hc])
    obtain ⟨x, w', H', hr, q, ag, kp⟩ := ih _ Q _ (h w.heap.size hn) { w with heap := w.heap.push o } hA'
    refine ⟨x, w', H', hr, q, ag, Keep.trans (w₁ := { w with heap := w.heap.push o }) ⟨by simp, fun c hc _ => ?_, fun c hn hn' => ?_, rfl, rfl, rfl⟩ kp⟩
    · simp only [Array.getElem?_push]; rw [if_neg (by omega)]
    · simp only [Hp.set] at hn'
      split at hn'
      · omega
      · exact absurd hn hn'
  | shape r k ih =>
    intro Q H ⟨o, ho, h⟩ w hA
    obtain ⟨x, w', H', hr, q⟩ := ih _ Q H h w hA
    refine ⟨x, w', H', ?_, q⟩
    simp only [Sem.run]
    have : w.shape? r = Hp.shape o := by simp only [World.shape?, hA _ _ ho, Hp.shape]; cases o <;> rfl
    rw [this]; exact hr
  | freeze a n k ih => intro Q H h; exact h.elim
  | frozen a k ih =>
    intro Q H ⟨o, ho, h⟩ w hA
    obtain ⟨x, w', H', hr, q⟩ := ih _ Q H h w hA
    refine ⟨x, w', H', ?_, q⟩
    simp only [Sem.run]
    have : w.frozen? a = Hp.fz o a.off := by simp only [World.frozen?, hA _ _ ho, Hp.fz]; cases o <;> rfl
    rw [this]; exact hr
  | getObj r k ih =>
    intro Q H ⟨o, ho, hs, h⟩ w hA
    obtain ⟨x, w', H', hr, q⟩ := ih _ Q H h w hA
    refine ⟨x, w', H', ?_, q⟩
    simp only [Sem.run, hA _ _ ho]
    cases o <;> simp_all [Hp.shape]
  | setObj r o k ih =>
    intro Q H ⟨_, ⟨o', ho, hs⟩, h⟩ w hA
    have hlt := hA.lt ho
    have hs' : ∀ c, c ≠ r → ({ w with heap := w.heap.setIfInBounds r o } : World).heap[c]? = w.heap[c]? := by
      intro c hc; simp [Ne.symm hc]
    obtain ⟨x, w', H', hr, q, ag, kp⟩ := ih Q _ h { w with heap := w.heap.setIfInBounds r o } (hA.set (by simp [hlt]) hs')
    refine ⟨x, w', H', ?_, q, ag, Keep.trans (Keep.set ho (by simp) hs' rfl rfl rfl) kp⟩
    simp only [Sem.run, hA _ _ ho]
    cases o' <;> simp_all [Hp.shape]
  | choose q k ih =>
    intro Q H h w hA
    simp only [hw] at h
    simp only [Sem.run]
    by_cases hf : q.forced = true
    · rw [if_pos hf] at h ⊢; exact ih _ Q H h w hA
    · rw [if_neg hf] at h ⊢
      have hA' : Agree H { w with drawn := w.drawn + 1 } := hA
      obtain ⟨x, w', H', hr, q, ag, kp⟩ := ih _ Q H (h.2 (w.tape w.drawn q)) { w with drawn := w.drawn + 1 } hA'
      exact ⟨x, w', H', hr, q, ag, ⟨kp.size, kp.same, kp.new, kp.tape, kp.os, kp.output⟩⟩
  | sys c k ih => intro Q H h; exact h.elim
  | program k ih => intro Q H h w hA; exact ih _ Q H h w hA
  | mark m k ih => intro Q H h w hA; exact ih Q H h w hA
  | halt h => intro Q H h'; exact h'.elim
theorem hw_mono {α : Type} {r : Bool} {P : Program} (e : Sem α) : ∀ {Q Q' : α → Hp → Prop} {H : Hp}, (∀ a H, Q a H → Q' a H) → hw r P e Q H → hw r P e Q' H := by
  induction e with
  | pure a => intro Q Q' H hq h; exact hq _ _ h
  | load m a k ih => intro Q Q' H hq ⟨v, hv, h⟩; exact ⟨v, hv, ih v hq h⟩
  | store m a v k ih => intro Q Q' H hq ⟨hr, hv, hu, o, ho, hf, h⟩; exact ⟨hr, hv, hu, o, ho, hf, ih hq h⟩
  | new o k ih => intro Q Q' H hq h; exact ⟨h.1, fun b hb => ih b hq (h.2 b hb)⟩
  | shape r k ih => intro Q Q' H hq ⟨o, ho, h⟩; exact ⟨o, ho, ih _ hq h⟩
  | freeze a n k ih => intro Q Q' H hq h; exact h.elim
  | frozen a k ih => intro Q Q' H hq ⟨o, ho, h⟩; exact ⟨o, ho, ih _ hq h⟩
  | getObj r k ih => intro Q Q' H hq ⟨o, ho, hs, h⟩; exact ⟨o, ho, hs, ih _ hq h⟩
  | setObj r o k ih => intro Q Q' H hq ⟨hr, ho, h⟩; exact ⟨hr, ho, ih hq h⟩
  | choose q k ih =>
    intro Q Q' H hq h
    simp only [hw] at h ⊢
    split
    · rw [if_pos (by assumption)] at h; exact ih _ hq h
    · rw [if_neg (by assumption)] at h; exact ⟨h.1, fun t => ih _ hq (h.2 t)⟩
  | sys c k ih => intro Q Q' H hq h; exact h.elim
  | program k ih => intro Q Q' H hq h; exact ih _ hq h
  | mark m k ih => intro Q Q' H hq h; exact ih hq h
  | halt h => intro Q Q' H hq h'; exact h'.elim
theorem hw_bind {α β : Type} {r : Bool} {P : Program} (e : Sem α) (f : α → Sem β) : ∀ {Q : β → Hp → Prop} {H : Hp},
    hw r P (e >>= f) Q H = hw r P e (fun a H => hw r P (f a) Q H) H := by
  show ∀ {Q : β → Hp → Prop} {H : Hp}, hw r P (e.bind f) Q H = hw r P e (fun a H => hw r P (f a) Q H) H
  induction e with
  | pure a => intro Q H; rfl
  | load m a k ih => intro Q H; simp only [Sem.bind, hw, ih]
  | store m a v k ih => intro Q H; simp only [Sem.bind, hw, ih]
  | new o k ih => intro Q H; simp only [Sem.bind, hw, ih]
  | shape r k ih => intro Q H; simp only [Sem.bind, hw, ih]
  | freeze a n k ih => intro Q H; simp only [Sem.bind, hw]
  | frozen a k ih => intro Q H; simp only [Sem.bind, hw, ih]
  | getObj r k ih => intro Q H; simp only [Sem.bind, hw, ih]
  | setObj r o k ih => intro Q H; simp only [Sem.bind, hw, ih]
  | choose q k ih => intro Q H; simp only [Sem.bind, hw, ih]
  | sys c k ih => intro Q H; simp only [Sem.bind, hw]
  | program k ih => intro Q H; simp only [Sem.bind, hw, ih]
  | mark m k ih => intro Q H; simp only [Sem.bind, hw, ih]
  | halt h => intro Q H; simp only [Sem.bind, hw]
/-- what only reads comes to one value, in every world that H fits, and leaves that world alone -/
theorem hw_still {α : Type} {P : Program} (e : Sem α) : ∀ {Q : α → Hp → Prop} {H : Hp}, hw true P e Q H → ∃ a, (∀ w, Agree H w → e.run P w = .ok a w) ∧ Q a H := by
  induction e with
  | pure a => intro Q H h; exact ⟨a, fun _ _ => rfl, h⟩
  | load m a k ih =>
    intro Q H ⟨v, hv, h⟩
    obtain ⟨x, hx, q⟩ := ih v h
    exact ⟨x, fun w hA => by simp only [Sem.run, hA.cell hv]; exact hx w hA, q⟩
  | store m a v k ih => intro Q H ⟨h, _⟩; cases h
  | new o k ih => intro Q H ⟨h, _⟩; cases h
  | shape b k ih =>
    intro Q H ⟨o, ho, h⟩
    obtain ⟨x, hx, q⟩ := ih _ h
    refine ⟨x, fun w hA => ?_, q⟩
    simp only [Sem.run]
    have : w.shape? b = Hp.shape o := by simp only [World.shape?, hA _ _ ho, Hp.shape]; cases o <;> rfl
    rw [this]; exact hx w hA
  | freeze a n k ih => intro Q H h; exact h.elim
  | frozen a k ih =>
    intro Q H ⟨o, ho, h⟩
    obtain ⟨x, hx, q⟩ := ih _ h
    refine ⟨x, fun w hA => ?_, q⟩
    simp only [Sem.run]
    have : w.frozen? a = Hp.fz o a.off := by simp only [World.frozen?, hA _ _ ho, Hp.fz]; cases o <;> rfl
    rw [this]; exact hx w hA
  | getObj b k ih =>
    intro Q H ⟨o, ho, hs, h⟩
    obtain ⟨x, hx, q⟩ := ih _ h
    refine ⟨x, fun w hA => ?_, q⟩
    simp only [Sem.run, hA _ _ ho]
    have := hx w hA
    cases o <;> simp_all [Hp.shape]
  | setObj b o k ih => intro Q H ⟨h, _⟩; cases h
  | choose q k ih =>
    intro Q H h
    simp only [hw] at h
    by_cases hf : q.forced = true
    · rw [if_pos hf] at h
      obtain ⟨x, hx, q'⟩ := ih _ h
      exact ⟨x, fun w hA => by simp only [Sem.run]; rw [if_pos hf]; exact hx w hA, q'⟩
    · rw [if_neg hf] at h; cases h.1
  | sys c k ih => intro Q H h; exact h.elim
  | program k ih =>
    intro Q H h
    obtain ⟨x, hx, q⟩ := ih P h
    exact ⟨x, fun w hA => hx w hA, q⟩
  | mark m k ih =>
    intro Q H h
    obtain ⟨x, hx, q⟩ := ih h
    exact ⟨x, fun w hA => hx w hA, q⟩
  | halt h => intro Q H h'; exact h'.elim
/-- what only reads stays at the very heap -/
theorem hw_of_still {α : Type} {r : Bool} {P : Program} (e : Sem α) : ∀ {Q Q' : α → Hp → Prop} {H : Hp}, hw true P e Q H → (∀ a, Q a H → Q' a H) → hw r P e Q' H := by
  induction e with
  | pure a => intro Q Q' H h hq; exact hq _ h
  | load m a k ih => intro Q Q' H ⟨v, hv, h⟩ hq; exact ⟨v, hv, ih v h hq⟩
  | store m a v k ih => intro Q Q' H ⟨h, _⟩; cases h
  | new o k ih => intro Q Q' H ⟨h, _⟩; cases h
  | shape b k ih => intro Q Q' H ⟨o, ho, h⟩ hq; exact ⟨o, ho, ih _ h hq⟩
  | freeze a n k ih => intro Q Q' H h; exact h.elim
  | frozen a k ih => intro Q Q' H ⟨o, ho, h⟩ hq; exact ⟨o, ho, ih _ h hq⟩
  | getObj b k ih => intro Q Q' H ⟨o, ho, hs, h⟩ hq; exact ⟨o, ho, hs, ih _ h hq⟩
  | setObj b o k ih => intro Q Q' H ⟨h, _⟩; cases h
  | choose q k ih =>
    intro Q Q' H h hq
    simp only [hw] at h ⊢
    split
    · rw [if_pos (by assumption)] at h; exact ih _ h hq
    · rw [if_neg (by assumption)] at h; cases h.1
  | sys c k ih => intro Q Q' H h; exact h.elim
  | program k ih => intro Q Q' H h hq; exact ih _ h hq
  | mark m k ih => intro Q Q' H h hq; exact ih h hq
  | halt h => intro Q Q' H h'; exact h'.elim
end Go.H
