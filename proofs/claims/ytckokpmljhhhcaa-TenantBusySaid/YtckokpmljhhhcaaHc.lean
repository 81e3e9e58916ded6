/- A part of the proofs over the tenants of a page cache: lemmas on what is known of the memory, and contracts of the Go functions. -/
import Derived.Test.YtckokpmljhhhcaaHr
import Derived.Deep.LoopGhost
import Derived.OrdersHeld
import Derived.Scope
set_option linter.unusedVariables false
set_option linter.unusedSimpArgs false
namespace Go.H
open Go
/-! ## Frames as lists -/
def ev (l : List Value) : Operand → Value
  | .tmp t => l.getD t undef
  | .const v => v
  | .global g => .pointer (some ⟨g, 0, none⟩)
  | .func f => .func (.func f) #[] #[]
def act (l : List Value) : Act := ⟨l.toArray, []⟩
theorem act_eval (l : List Value) : (act l).eval = ev l := by
  funext x; cases x <;> simp [Act.eval, ev, act]
def pt (l : List Value) (d : Option Tmp) (v : Value) : List Value :=
  match d with
  | some d => l.set d v
  | none => l
theorem act_put (l : List Value) (d : Option Tmp) (v : Value) : (act l).put d v = act (pt l d v) := by
  cases d <;> simp [Act.put, act, pt]
/-! ## Operations, regions, code -/
/-- what an operation's next step is -/
def hnext (r : Bool) (P : Program) (K : Value → Hp → Prop) (n : Next) (H : Hp) : Prop :=
  match n with
  | .value v => K v H
  | .skip => r = false ∧ K undef H
  | .enter f args => r = false ∧ HT P f args H K
  | _ => False
def hop (r : Bool) (P : Program) (o : Oper) (l : List Value) (H : Hp) (K : Value → Hp → Prop) : Prop :=
  hw r P (execOp (ev l) o) (fun n H' => ∃ H'', Sub H'' H' ∧ hnext r P K n H'') H
theorem hop_sound {P : Program} {o : Oper} {l : List Value} {H : Hp} {K : Value → Hp → Prop} (h : hop false P o l H K) {w : World} (hA : Agree H w)
    (next : Act → World → Prop) (Q : Exit → Act → World → Prop)
    (hn : ∀ v H' w', K v H' → Agree H' w' → Keep H H' w w' → next (act (pt l o.dst v)) w') : o.wp P (act l) w next Q := by
  unfold hop at h
  obtain ⟨a, w', H₁, hr, ⟨H', hs, hq⟩, ag₁, kp₁⟩ := hw_sound P _ _ _ h w hA
  have ag := ag₁.sub hs
  have kp := kp₁.sub hs
  unfold Oper.wp
  rw [act_eval, hr]
  cases a with
  | value v => rw [Oper.upon_value, act_put]; exact hn _ _ _ hq ag kp
  | skip => rw [Oper.upon_skip, act_put]; exact hn _ _ _ hq.2 ag kp
  | enter f args =>
    rw [Oper.upon_enter]
    refine (hq.2 w' ag).mono ?_
    rintro e w'' ⟨v, H'', rfl, q, ag', kp'⟩
    show next ((act l).put o.dst v) w''
    rw [act_put]
    exact hn _ _ _ q ag' (kp.trans kp')
  | _ => exact hq.elim
def yv (ops : Array Oper) (l : List Value) (j : Nat) : Option Bool := yielded ops l.toArray j
/-- the operations of a region, one behind the other -/
def hops (P : Program) (ops : Array Oper) : List Oper → List Value → Hp → (List Value → Hp → Prop) → Prop
  | [], l, H, K => K l H
  | o :: rest, l, H, K =>
    if Region.wanted o (yv ops l) then hop false P o l H (fun v H' => hops P ops rest (pt l o.dst v) H' K)
    else hops P ops rest (pt l o.dst undef) H K
theorem hops_sound {P : Program} {ops : Array Oper} {K : List Value → Hp → Prop} (Q : Exit → Act → World → Prop) (H₀ : Hp) (w₀ : World)
    (hn : ∀ l' H' w', K l' H' → Agree H' w' → Keep H₀ H' w₀ w' → Q .normal (act l') w') :
    ∀ (rest : List Oper) (l : List Value) (H : Hp) (w : World), hops P ops rest l H K → Agree H w → Keep H₀ H w₀ w → wpList P ops Q rest (act l) w := by
  intro rest
  induction rest with
  | nil => intro l H w h ag kp; exact hn _ _ _ h ag kp
  | cons o rest ih =>
    intro l H w h ag kp
    unfold hops at h
    unfold wpList
    have e : Region.wanted o (yielded ops (act l).tmps) = Region.wanted o (yv ops l) := rfl
    rw [e]
    by_cases hwt : Region.wanted o (yv ops l) = true
    · rw [if_pos hwt] at h ⊢
      exact .inl (hop_sound h ag _ _ fun v H' w' k ag' kp' => ih _ _ _ k ag' (kp.trans kp'))
    · rw [if_neg hwt] at h ⊢
      rw [act_put]
      exact ih _ _ _ h ag kp
def hc (P : Program) (c : Code) (Q : Exit → List Value → Hp → Prop) (l : List Value) (H : Hp) : Prop :=
  ∀ w, Agree H w → c.wp P (fun e a w' => ∃ l' H', a = act l' ∧ Q e l' H' ∧ Agree H' w' ∧ Keep H H' w w') (act l) w
variable {P : Program} {Q : Exit → List Value → Hp → Prop} {l : List Value} {H : Hp}
theorem hc_mono {c : Code} {Q' : Exit → List Value → Hp → Prop} (h : hc P c Q l H) (hq : ∀ e l H, Q e l H → Q' e l H) : hc P c Q' l H :=
  fun w hA => wp_mono (h w hA) fun _ _ _ ⟨l', H', ha, q, ag, kp⟩ => ⟨l', H', ha, hq _ _ _ q, ag, kp⟩
/-- what is known may be forgotten -/
theorem hc_sub {c : Code} {H' : Hp} (s : Sub H' H) (h : hc P c Q l H') : hc P c Q l H :=
  fun w hA => wp_mono (h w (hA.sub s)) fun _ _ _ ⟨l', H₁, ha, q, ag, kp⟩ =>
    ⟨l', H₁, ha, q, ag, ⟨kp.size, fun b hb hn => kp.same b hb (s.unk hn), fun b hn hs => kp.new b (s.unk hn) hs, kp.tape, kp.os, kp.output⟩⟩
theorem hc_region {id : Nat} {ops : List Oper} (h : hops P ops.toArray ops l H (Q .normal)) : hc P (.region id ops.toArray false) Q l H :=
  fun w hA => wp_region_lit (hops_sound _ H w (fun l' H' _ k ag kp => ⟨l', H', rfl, k, ag, kp⟩) ops l H w h hA (.refl _ _))
theorem hc_skip (h : Q .normal l H) : hc P .skip Q l H := fun _ hA => wp_skip ⟨l, H, rfl, h, hA, .refl _ _⟩
theorem hc_ret (h : Q .ret l H) : hc P .ret Q l H := fun _ hA => wp_ret ⟨l, H, rfl, h, hA, .refl _ _⟩
theorem hc_exit {id : Nat} (h : Q (.exit id) l H) : hc P (.exit id) Q l H := fun _ hA => wp_exit ⟨l, H, rfl, h, hA, .refl _ _⟩
def hthen (next : List Value → Hp → Prop) (Q : Exit → List Value → Hp → Prop) : Exit → List Value → Hp → Prop
  | .normal, a, w => next a w
  | e, a, w => Q e a w
theorem hc_seq {x y : Code} (h : hc P x (hthen (hc P y Q) Q) l H) : hc P (.seq x y) Q l H := by
  intro w hA
  refine wp_seq (wp_mono (h w hA) ?_)
  rintro e a w' ⟨l', H', rfl, q, ag, kp⟩
  cases e with
  | normal =>
    refine wp_mono (q w' ag) ?_
    rintro e a w'' ⟨l'', H'', rfl, q', ag', kp'⟩
    exact ⟨l'', H'', rfl, q', ag', kp.trans kp'⟩
  | _ => exact ⟨l', H', rfl, q, ag, kp⟩
theorem hc_cond {c : Operand} {x y : Code} {t : Bool} (hc' : ev l c = .bool t) (ht : t = true → hc P x Q l H) (hf : t = false → hc P y Q l H) :
    hc P (.cond c x y) Q l H := by
  intro w hA
  refine wp_cond (t := t) (by rw [act_eval]; exact hc') ?_
  cases t
  · exact hf rfl w hA
  · exact ht rfl w hA
theorem hc_T {c : Operand} {x y : Code} {t : Bool} (hc' : ev l c = .bool t) (e : t = true) (ht : hc P x Q l H) : hc P (.cond c x y) Q l H :=
  hc_cond hc' (fun _ => ht) (fun h => by rw [e] at h; cases h)
theorem hc_F {c : Operand} {x y : Code} {t : Bool} (hc' : ev l c = .bool t) (e : t = false) (ht : hc P y Q l H) : hc P (.cond c x y) Q l H :=
  hc_cond hc' (fun h => by rw [e] at h; cases h) (fun _ => ht)
theorem hc_true {c : Operand} {x y : Code} (hc' : ev l c = .bool true) (ht : hc P x Q l H) : hc P (.cond c x y) Q l H :=
  hc_cond hc' (fun _ => ht) (fun h => by cases h)
theorem hc_false {c : Operand} {x y : Code} (hc' : ev l c = .bool false) (ht : hc P y Q l H) : hc P (.cond c x y) Q l H :=
  hc_cond hc' (fun h => by cases h) (fun _ => ht)
def hblock (id : Nat) (Q : Exit → List Value → Hp → Prop) : Exit → List Value → Hp → Prop
  | .exit id', a, w => if id' = id then Q .normal a w else Q (.exit id') a w
  | e, a, w => Q e a w
theorem hc_block {id : Nat} {c : Code} (h : hc P c (hblock id Q) l H) : hc P (.block id c) Q l H := by
  intro w hA
  refine wp_block (wp_mono (h w hA) ?_)
  rintro e a w' ⟨l', H', rfl, q, ag, kp⟩
  cases e with
  | exit id' =>
    simp only [Exit.inBlock, hblock] at q ⊢
    split
    · rw [if_pos (by assumption)] at q; exact ⟨l', H', rfl, q, ag, kp⟩
    · rw [if_neg (by assumption)] at q; exact ⟨l', H', rfl, q, ag, kp⟩
  | _ => exact ⟨l', H', rfl, q, ag, kp⟩
theorem hc_label {n : Nat} (h : Q .normal l H) : hc P (.label n) Q l H := fun _ hA => wp_label ⟨l, H, rfl, h, hA, .refl _ _⟩
def hng (Q : Exit → List Value → Hp → Prop) : Exit → List Value → Hp → Prop
  | .goto _, _, _ => False
  | e, a, w => Q e a w
theorem hc_scope {c : Code} (h : hc P c (hng Q) l H) : hc P (.scope c) Q l H := by
  intro w hA
  refine wp_scope_straight (wp_mono (h w hA) ?_)
  rintro e a w' ⟨l', H', rfl, q, ag, kp⟩
  cases e with
  | goto n => exact q.elim
  | _ => exact ⟨l', H', rfl, q, ag, kp⟩
theorem hc_loop {c : Code} (I : Nat → List Value → Hp → Prop) (n : Nat) (h₀ : I n l H)
    (round : ∀ n l H, I n l H → hc P c (hthen (fun l' H' => ∃ n' H'', n' < n ∧ Sub H'' H' ∧ I n' l' H'') Q) l H) : hc P (.loop c) Q l H := by
  intro w hA
  refine wp_loop_ghost (fun n a w' => ∃ l' H', a = act l' ∧ I n l' H' ∧ Agree H' w' ∧ Keep H H' w w') n ⟨l, H, rfl, h₀, hA, .refl _ _⟩ ?_
  rintro n a w₁ ⟨l₁, H₁, rfl, hI, ag₁, kp₁⟩
  refine wp_mono (round n l₁ H₁ hI w₁ ag₁) ?_
  rintro e a w₂ ⟨l₂, H₂, rfl, q, ag₂, kp₂⟩
  cases e with
  | normal =>
    obtain ⟨n', H'', hlt, hs, hI'⟩ := q
    exact ⟨n', hlt, l₂, H'', rfl, hI', ag₂.sub hs, (kp₁.trans kp₂).sub hs⟩
  | _ => exact ⟨l₂, H₂, rfl, q, ag₂, kp₁.trans kp₂⟩
theorem hops_cons {ops : Array Oper} {o : Oper} {rest : List Oper} {K : List Value → Hp → Prop}
    (hg : o.guard = none) (h : hop false P o l H (fun v H' => hops P ops rest (pt l o.dst v) H' K)) : hops P ops (o :: rest) l H K := by
  unfold hops; rw [if_pos (by simp [Region.wanted, hg])]; exact h
theorem hops_on {ops : Array Oper} {o : Oper} {rest : List Oper} {K : List Value → Hp → Prop} {j : Nat} {b : Bool}
    (hg : o.guard = some (j, b)) (hy : yv ops l j = some b) (h : hop false P o l H (fun v H' => hops P ops rest (pt l o.dst v) H' K)) : hops P ops (o :: rest) l H K := by
  unfold hops; rw [if_pos (by simp only [Region.wanted, hg]; show (yv ops l j == some b) = true; rw [hy]; simp)]; exact h
theorem hops_off {ops : Array Oper} {o : Oper} {rest : List Oper} {K : List Value → Hp → Prop} {j : Nat} {b : Bool}
    (hg : o.guard = some (j, b)) (hy : yv ops l j = some (!b)) (h : hops P ops rest (pt l o.dst undef) H K) : hops P ops (o :: rest) l H K := by
  unfold hops; rw [if_neg (by simp only [Region.wanted, hg]; show ¬ (yv ops l j == some b) = true; rw [hy]; cases b <;> simp)]; exact h
theorem hops_on' {ops : Array Oper} {o : Oper} {rest : List Oper} {K : List Value → Hp → Prop} {j : Nat} {b c : Bool}
    (hg : o.guard = some (j, b)) (hy : yv ops l j = some c) (hb : c = b) (h : hop false P o l H (fun v H' => hops P ops rest (pt l o.dst v) H' K)) : hops P ops (o :: rest) l H K :=
  hops_on hg (hb ▸ hy) h
theorem hops_off' {ops : Array Oper} {o : Oper} {rest : List Oper} {K : List Value → Hp → Prop} {j : Nat} {b c : Bool}
    (hg : o.guard = some (j, b)) (hy : yv ops l j = some c) (hb : c = !b) (h : hops P ops rest (pt l o.dst undef) H K) : hops P ops (o :: rest) l H K :=
  hops_off hg (hb ▸ hy) h
theorem hops_un {ops : Array Oper} {o : Oper} {rest : List Oper} {K : List Value → Hp → Prop} {j : Nat} {b : Bool}
    (hg : o.guard = some (j, b)) (hy : yv ops l j = none) (h : hops P ops rest (pt l o.dst undef) H K) : hops P ops (o :: rest) l H K := by
  unfold hops; rw [if_neg (by simp only [Region.wanted, hg]; show ¬ (yv ops l j == some b) = true; rw [hy]; simp)]; exact h
theorem hops_split {ops : Array Oper} {o : Oper} {rest : List Oper} {K : List Value → Hp → Prop} {j : Nat} {b c : Bool}
    (hg : o.guard = some (j, b)) (hy : yv ops l j = some c) (hon : c = b → hop false P o l H (fun v H' => hops P ops rest (pt l o.dst v) H' K))
    (hoff : c = !b → hops P ops rest (pt l o.dst undef) H K) : hops P ops (o :: rest) l H K := by
  by_cases h : c = b
  · exact hops_on' hg hy h (hon h)
  · have : c = !b := by cases b <;> cases c <;> simp_all
    exact hops_off' hg hy this (hoff this)
/-- a guarded operation that only reads: its slot holds its value where the guard lets, else nothing -/
theorem hops_gp {ops : Array Oper} {o : Oper} {rest : List Oper} {K : List Value → Hp → Prop} {j : Nat} {b c : Bool} {v : Value}
    (hg : o.guard = some (j, b)) (hy : yv ops l j = some c) (hv : c = b → hop true P o l H (fun v' _ => v' = v))
    (h : hops P ops rest (pt l o.dst (if c = b then v else undef)) H K) : hops P ops (o :: rest) l H K := by
  refine hops_split hg hy (fun e => ?_) (fun e => ?_)
  · rw [if_pos e] at h
    have := hv e
    unfold hop at this ⊢
    refine hw_of_still _ this fun a hq => ?_
    obtain ⟨Hb, hb, q⟩ := hq
    cases a with
    | value u => exact ⟨_, .refl _, by have : u = v := q; subst this; exact h⟩
    | skip => cases q.1
    | enter f args => cases q.1
    | _ => exact q.elim
  · rw [if_neg (by rw [e]; cases b <;> simp)] at h
    exact h
theorem pick_or (c q : Bool) : (if c = true then Value.bool true else (if c = false then Value.bool q else undef)) = .bool (c || q) := by cases c <;> rfl
theorem pick_and (c q : Bool) : (if c = true then (if c = true then Value.bool q else undef) else Value.bool false) = .bool (c && q) := by cases c <;> rfl
theorem hops_nil {ops : Array Oper} {K : List Value → Hp → Prop} (h : K l H) : hops P ops [] l H K := h
/-! ## Regions that draw their order -/
def hD (P : Program) (ops : Array Oper) (Hs : Hp) (K : List Value → Hp → Prop) (n : Nat) (listed : Array Bool) (l : List Value) (H : Hp) : Prop :=
  ∀ (H₀ : Hp) (w₀ w : World) (Q : Exit → Act → World → Prop), (∀ l' H' w', K l' H' → Agree H' w' → Keep H₀ H' w₀ w' → Q .normal (act l') w') → (∀ c a w, ¬ Q (.panic c) a w) →
    Agree H w → Keep H₀ H w₀ w → shut .any ops listed → wpL P .any ops Q (Agree Hs) n listed (act l) w
theorem hc_draw {id : Nat} {ops : List Oper} (Hs : Hp) (hm : P.follows .mixedOrders = true) (hp : ∀ c l H, ¬ Q (.panic c) l H)
    (h : hD P ops.toArray Hs (Q .normal) ops.length (Array.replicate ops.length false) l H) : hc P (.region id ops.toArray true) Q l H := by
  intro w hA
  refine wp_regionL (S := Agree Hs) hm ?_
  have := h H w { w with drawn := w.drawn + 1 } (fun e a w' => ∃ l' H', a = act l' ∧ Q e l' H' ∧ Agree H' w' ∧ Keep H H' w w')
    (fun l' H' w' k ag kp => ⟨l', H', rfl, k, ag, kp⟩) (fun c a w ⟨l', H', _, q, _⟩ => hp c l' H' q) hA ⟨Nat.le_refl _, fun _ _ _ => rfl, fun _ h h' => absurd h h', rfl, rfl, rfl⟩ (shut_zero _)
  simpa using this
theorem hc_draw0 {id : Nat} {ops : List Oper} (hm : P.follows .mixedOrders = true) (hp : ∀ c l H, ¬ Q (.panic c) l H)
    (h : hD P ops.toArray H (Q .normal) ops.length (Array.replicate ops.length false) l H) : hc P (.region id ops.toArray true) Q l H := hc_draw H hm hp h
def nth : List Oper → Nat → Option Oper
  | [], _ => none
  | o :: _, 0 => some o
  | _ :: l, i + 1 => nth l i
theorem nth_get {ops : List Oper} {i : Nat} {o : Oper} (h : nth ops i = some o) : ops.toArray[i]? = some o := by
  induction ops generalizing i with
  | nil => cases h
  | cons a l ih =>
    cases i with
    | zero => simpa [nth] using h
    | succ i => simpa using ih h
theorem hD_take {ops : List Oper} {Hs : Hp} {K : List Value → Hp → Prop} {n : Nat} {listed : Array Bool} (i : Nat) {o : Oper} (hi : nth ops i = some o)
    (hs : Region.noSelect ops.toArray = true) (hf : Region.free .any ops.toArray listed i = true) (hr : (Region.ready .any ops.toArray listed).contains i = true) (hg : o.guard = none) (hS : Sub Hs H)
    (h : hop true P o l Hs (fun v _ => hD P ops.toArray Hs K n (listed.setIfInBounds i true) (pt l o.dst v) H)) : hD P ops.toArray Hs K (n + 1) listed l H := by
  intro H₀ w₀ w Q hK hp ag kp hsh
  obtain ⟨x, hx, _, _, q⟩ := hw_still _ h
  cases x with
  | value v =>
    refine wpL_take (nth_get hi) hsh hs hf hr (fun c a w h => absurd h (hp _ _ _)) (v := v) (.inl ⟨by simp [Region.wanted, hg], fun w hw => by rw [act_eval]; exact hx w hw⟩) (ag.sub hS) ?_
    rw [act_put]
    exact q H₀ w₀ w Q hK hp ag kp (shut_set hsh (by simpa using hr))
  | skip => cases q.1
  | enter f args => cases q.1
  | _ => exact q.elim
theorem hD_take_off {ops : List Oper} {Hs : Hp} {K : List Value → Hp → Prop} {n : Nat} {listed : Array Bool} (i : Nat) {o : Oper} (hi : nth ops i = some o)
    (hs : Region.noSelect ops.toArray = true) (hf : Region.free .any ops.toArray listed i = true) (hr : (Region.ready .any ops.toArray listed).contains i = true) {j : Nat} {b : Bool} (hg : o.guard = some (j, b)) (hy : yv ops.toArray l j = some (!b)) (hS : Sub Hs H)
    (h : hD P ops.toArray Hs K n (listed.setIfInBounds i true) (pt l o.dst undef) H) : hD P ops.toArray Hs K (n + 1) listed l H := by
  intro H₀ w₀ w Q hK hp ag kp hsh
  refine wpL_take (nth_get hi) hsh hs hf hr (fun c a w h => absurd h (hp _ _ _)) (v := undef) (.inr ⟨?_, rfl⟩) (ag.sub hS) ?_
  · simp only [Region.wanted, hg]; show (yv ops.toArray l j == some b) = false; rw [hy]; cases b <;> simp
  · rw [act_put]; exact h H₀ w₀ w Q hK hp ag kp (shut_set hsh (by simpa using hr))
theorem hD_take_on {ops : List Oper} {Hs : Hp} {K : List Value → Hp → Prop} {n : Nat} {listed : Array Bool} (i : Nat) {o : Oper} (hi : nth ops i = some o)
    (hs : Region.noSelect ops.toArray = true) (hf : Region.free .any ops.toArray listed i = true) (hr : (Region.ready .any ops.toArray listed).contains i = true) {j : Nat} {b : Bool} (hg : o.guard = some (j, b)) (hy : yv ops.toArray l j = some b) (hS : Sub Hs H)
    (h : hop true P o l Hs (fun v _ => hD P ops.toArray Hs K n (listed.setIfInBounds i true) (pt l o.dst v) H)) : hD P ops.toArray Hs K (n + 1) listed l H := by
  intro H₀ w₀ w Q hK hp ag kp hsh
  obtain ⟨x, hx, _, _, q⟩ := hw_still _ h
  cases x with
  | value v =>
    refine wpL_take (nth_get hi) hsh hs hf hr (fun c a w h => absurd h (hp _ _ _)) (v := v) (.inl ⟨?_, fun w hw => by rw [act_eval]; exact hx w hw⟩) (ag.sub hS) ?_
    · simp only [Region.wanted, hg]; show (yv ops.toArray l j == some b) = true; rw [hy]; simp
    · rw [act_put]
      exact q H₀ w₀ w Q hK hp ag kp (shut_set hsh (by simpa using hr))
  | skip => cases q.1
  | enter f args => cases q.1
  | _ => exact q.elim
theorem hD_take_on' {ops : List Oper} {Hs : Hp} {K : List Value → Hp → Prop} {n : Nat} {listed : Array Bool} (i : Nat) {o : Oper} (hi : nth ops i = some o)
    (hs : Region.noSelect ops.toArray = true) (hf : Region.free .any ops.toArray listed i = true) (hr : (Region.ready .any ops.toArray listed).contains i = true) {j : Nat} {b c : Bool} (hg : o.guard = some (j, b)) (hy : yv ops.toArray l j = some c) (hb : c = b) (hS : Sub Hs H)
    (h : hop true P o l Hs (fun v _ => hD P ops.toArray Hs K n (listed.setIfInBounds i true) (pt l o.dst v) H)) : hD P ops.toArray Hs K (n + 1) listed l H :=
  hD_take_on i hi hs hf hr hg (hb ▸ hy) hS h
theorem hD_take_off' {ops : List Oper} {Hs : Hp} {K : List Value → Hp → Prop} {n : Nat} {listed : Array Bool} (i : Nat) {o : Oper} (hi : nth ops i = some o)
    (hs : Region.noSelect ops.toArray = true) (hf : Region.free .any ops.toArray listed i = true) (hr : (Region.ready .any ops.toArray listed).contains i = true) {j : Nat} {b c : Bool} (hg : o.guard = some (j, b)) (hy : yv ops.toArray l j = some c) (hb : c = !b) (hS : Sub Hs H)
    (h : hD P ops.toArray Hs K n (listed.setIfInBounds i true) (pt l o.dst undef) H) : hD P ops.toArray Hs K (n + 1) listed l H :=
  hD_take_off i hi hs hf hr hg (hb ▸ hy) hS h
theorem hD_gp {ops : List Oper} {Hs : Hp} {K : List Value → Hp → Prop} {n : Nat} {listed : Array Bool} (i : Nat) {o : Oper} (hi : nth ops i = some o)
    (hs : Region.noSelect ops.toArray = true) (hf : Region.free .any ops.toArray listed i = true) (hr : (Region.ready .any ops.toArray listed).contains i = true) {j : Nat} {b c : Bool} {v : Value} (hg : o.guard = some (j, b)) (hy : yv ops.toArray l j = some c) (hS : Sub Hs H)
    (hv : c = b → hop true P o l Hs (fun v' _ => v' = v))
    (h : hD P ops.toArray Hs K n (listed.setIfInBounds i true) (pt l o.dst (if c = b then v else undef)) H) : hD P ops.toArray Hs K (n + 1) listed l H := by
  by_cases e : c = b
  · rw [if_pos e] at h
    refine hD_take_on i hi hs hf hr hg (e ▸ hy) hS ?_
    have := hv e
    unfold hop at this ⊢
    refine hw_of_still _ this fun a hq => ?_
    obtain ⟨Hb, hb, q⟩ := hq
    cases a with
    | value u => exact ⟨_, .refl _, by have : u = v := q; subst this; exact h⟩
    | skip => cases q.1
    | enter f args => cases q.1
    | _ => exact q.elim
  · rw [if_neg e] at h
    have : c = !b := by cases b <;> cases c <;> simp_all
    exact hD_take_off i hi hs hf hr hg (this ▸ hy) hS h
theorem hD_split {ops : List Oper} {Hs : Hp} {K : List Value → Hp → Prop} {n : Nat} {listed : Array Bool} (i : Nat) {o : Oper} (hi : nth ops i = some o)
    (hs : Region.noSelect ops.toArray = true) (hf : Region.free .any ops.toArray listed i = true) (hr : (Region.ready .any ops.toArray listed).contains i = true) {j : Nat} {b c : Bool} (hg : o.guard = some (j, b)) (hy : yv ops.toArray l j = some c) (hS : Sub Hs H)
    (hon : c = b → hop true P o l Hs (fun v _ => hD P ops.toArray Hs K n (listed.setIfInBounds i true) (pt l o.dst v) H))
    (hoff : c = (!b) → hD P ops.toArray Hs K n (listed.setIfInBounds i true) (pt l o.dst undef) H) : hD P ops.toArray Hs K (n + 1) listed l H := by
  by_cases h : c = b
  · exact hD_take_on i hi hs hf hr hg (h ▸ hy) hS (hon h)
  · have : c = !b := by cases b <;> cases c <;> simp_all
    exact hD_take_off i hi hs hf hr hg (this ▸ hy) hS (hoff this)
def dOp (ops : Array Oper) (listed : Array Bool) (i : Nat) : Bool := Region.noSelect ops && (Region.free .any ops listed i && (Region.ready .any ops listed).contains i)
theorem dOp_ok {ops : Array Oper} {listed : Array Bool} {i : Nat} (h : dOp ops listed i = true) : Region.noSelect ops = true ∧ Region.free .any ops listed i = true ∧ (Region.ready .any ops listed).contains i = true := by
  simp only [dOp, Bool.and_eq_true] at h; exact h
theorem dT {ops : List Oper} {Hs : Hp} {K : List Value → Hp → Prop} {n : Nat} {listed : Array Bool} (i : Nat) {o : Oper} (hi : nth ops i = some o) (hd : dOp ops.toArray listed i = true) (hg : o.guard = none) (hS : Sub Hs H)
    (h : hop true P o l Hs (fun v _ => hD P ops.toArray Hs K n (listed.setIfInBounds i true) (pt l o.dst v) H)) : hD P ops.toArray Hs K (n + 1) listed l H := hD_take i hi (dOp_ok hd).1 (dOp_ok hd).2.1 (dOp_ok hd).2.2 hg hS h
theorem dN {ops : List Oper} {Hs : Hp} {K : List Value → Hp → Prop} {n : Nat} {listed : Array Bool} (i : Nat) {o : Oper} (hi : nth ops i = some o) (hd : dOp ops.toArray listed i = true) {j : Nat} {b : Bool} (hg : o.guard = some (j, b)) (hy : yv ops.toArray l j = some b) (hS : Sub Hs H)
    (h : hop true P o l Hs (fun v _ => hD P ops.toArray Hs K n (listed.setIfInBounds i true) (pt l o.dst v) H)) : hD P ops.toArray Hs K (n + 1) listed l H := hD_take_on i hi (dOp_ok hd).1 (dOp_ok hd).2.1 (dOp_ok hd).2.2 hg hy hS h
theorem dF {ops : List Oper} {Hs : Hp} {K : List Value → Hp → Prop} {n : Nat} {listed : Array Bool} (i : Nat) {o : Oper} (hi : nth ops i = some o) (hd : dOp ops.toArray listed i = true) {j : Nat} {b : Bool} (hg : o.guard = some (j, b)) (hy : yv ops.toArray l j = some (!b)) (hS : Sub Hs H)
    (h : hD P ops.toArray Hs K n (listed.setIfInBounds i true) (pt l o.dst undef) H) : hD P ops.toArray Hs K (n + 1) listed l H := hD_take_off i hi (dOp_ok hd).1 (dOp_ok hd).2.1 (dOp_ok hd).2.2 hg hy hS h
theorem dN' {ops : List Oper} {Hs : Hp} {K : List Value → Hp → Prop} {n : Nat} {listed : Array Bool} (i : Nat) {o : Oper} (hi : nth ops i = some o) (hd : dOp ops.toArray listed i = true) {j : Nat} {b c : Bool} (hg : o.guard = some (j, b)) (hy : yv ops.toArray l j = some c) (hb : c = b) (hS : Sub Hs H)
    (h : hop true P o l Hs (fun v _ => hD P ops.toArray Hs K n (listed.setIfInBounds i true) (pt l o.dst v) H)) : hD P ops.toArray Hs K (n + 1) listed l H := hD_take_on' i hi (dOp_ok hd).1 (dOp_ok hd).2.1 (dOp_ok hd).2.2 hg hy hb hS h
theorem dF' {ops : List Oper} {Hs : Hp} {K : List Value → Hp → Prop} {n : Nat} {listed : Array Bool} (i : Nat) {o : Oper} (hi : nth ops i = some o) (hd : dOp ops.toArray listed i = true) {j : Nat} {b c : Bool} (hg : o.guard = some (j, b)) (hy : yv ops.toArray l j = some c) (hb : c = !b) (hS : Sub Hs H)
    (h : hD P ops.toArray Hs K n (listed.setIfInBounds i true) (pt l o.dst undef) H) : hD P ops.toArray Hs K (n + 1) listed l H := hD_take_off' i hi (dOp_ok hd).1 (dOp_ok hd).2.1 (dOp_ok hd).2.2 hg hy hb hS h
theorem dG {ops : List Oper} {Hs : Hp} {K : List Value → Hp → Prop} {n : Nat} {listed : Array Bool} (i : Nat) {o : Oper} (hi : nth ops i = some o) (hd : dOp ops.toArray listed i = true) {j : Nat} {b c : Bool} {v : Value} (hg : o.guard = some (j, b)) (hy : yv ops.toArray l j = some c) (hS : Sub Hs H) (hv : c = b → hop true P o l Hs (fun v' _ => v' = v))
    (h : hD P ops.toArray Hs K n (listed.setIfInBounds i true) (pt l o.dst (if c = b then v else undef)) H) : hD P ops.toArray Hs K (n + 1) listed l H := hD_gp i hi (dOp_ok hd).1 (dOp_ok hd).2.1 (dOp_ok hd).2.2 hg hy hS hv h
/-- an operation that alone may come up -/
theorem hD_do {ops : List Oper} {Hs : Hp} {K : List Value → Hp → Prop} {n : Nat} {listed : Array Bool} (i : Nat) {o : Oper} (hi : nth ops i = some o)
    (hr : Region.ready .any ops.toArray listed = [i]) (hg : o.guard = none)
    (h : hop false P o l H (fun v H' => (ender .any ops.toArray i = true ∨ Sub Hs H') ∧ hD P ops.toArray Hs K n (listed.setIfInBounds i true) (pt l o.dst v) H')) : hD P ops.toArray Hs K (n + 1) listed l H := by
  intro H₀ w₀ w Q hK hp ag kp hsh
  refine wpL_all hr (by simp) ?_
  intro j hj
  obtain rfl : j = i := by simpa using hj
  unfold wpOp
  simp only [nth_get hi]
  rw [if_pos (by simp [Region.wanted, hg])]
  refine .inl (hop_sound h ag _ _ fun v H' w' ⟨s, k⟩ ag' kp' => ⟨fun he => (s.elim (fun h => by rw [h] at he; cases he) fun s => ag'.sub s), k H₀ w₀ w' Q hK hp ag' (kp.trans kp') (shut_set hsh (by rw [hr]; simp))⟩)
theorem hD_do_on {ops : List Oper} {Hs : Hp} {K : List Value → Hp → Prop} {n : Nat} {listed : Array Bool} (i : Nat) {o : Oper} (hi : nth ops i = some o)
    (hr : Region.ready .any ops.toArray listed = [i]) {j : Nat} {b c : Bool} (hg : o.guard = some (j, b)) (hy : yv ops.toArray l j = some c) (hb : c = b)
    (h : hop false P o l H (fun v H' => (ender .any ops.toArray i = true ∨ Sub Hs H') ∧ hD P ops.toArray Hs K n (listed.setIfInBounds i true) (pt l o.dst v) H')) : hD P ops.toArray Hs K (n + 1) listed l H := by
  intro H₀ w₀ w Q hK hp ag kp hsh
  refine wpL_all hr (by simp) ?_
  intro j' hj
  obtain rfl : j' = i := by simpa using hj
  unfold wpOp
  simp only [nth_get hi]
  rw [if_pos (by simp only [Region.wanted, hg]; show (yv ops.toArray l j == some b) = true; rw [hy, hb]; simp)]
  refine .inl (hop_sound h ag _ _ fun v H' w' ⟨s, k⟩ ag' kp' => ⟨fun he => (s.elim (fun h => by rw [h] at he; cases he) fun s => ag'.sub s), k H₀ w₀ w' Q hK hp ag' (kp.trans kp') (shut_set hsh (by rw [hr]; simp))⟩)
theorem hD_do_off {ops : List Oper} {Hs : Hp} {K : List Value → Hp → Prop} {n : Nat} {listed : Array Bool} (i : Nat) {o : Oper} (hi : nth ops i = some o)
    (hr : Region.ready .any ops.toArray listed = [i]) {j : Nat} {b c : Bool} (hg : o.guard = some (j, b)) (hy : yv ops.toArray l j = some c) (hb : c = !b) (hS : ender .any ops.toArray i = true ∨ Sub Hs H)
    (h : hD P ops.toArray Hs K n (listed.setIfInBounds i true) (pt l o.dst undef) H) : hD P ops.toArray Hs K (n + 1) listed l H := by
  intro H₀ w₀ w Q hK hp ag kp hsh
  refine wpL_all hr (by simp) ?_
  intro j' hj
  obtain rfl : j' = i := by simpa using hj
  unfold wpOp
  simp only [nth_get hi]
  rw [if_neg (by simp only [Region.wanted, hg]; show ¬ (yv ops.toArray l j == some b) = true; rw [hy, hb]; cases b <;> simp), act_put]
  exact ⟨fun he => (hS.elim (fun h => by rw [h] at he; cases he) fun s => ag.sub s), h H₀ w₀ w Q hK hp ag kp (shut_set hsh (by rw [hr]; simp))⟩
theorem hD_done {ops : Array Oper} {Hs : Hp} {K : List Value → Hp → Prop} {n : Nat} {listed : Array Bool} (hr : Region.ready .any ops listed = []) (h : K l H) : hD P ops Hs K n listed l H :=
  fun _ _ w _ hK _ ag kp _ => wpL_done hr (hK _ _ w h ag kp) n
/-- the end of a body -/
def hend (P : Program) (fn : Func) (R : Value → Hp → Prop) : Exit → List Value → Hp → Prop
  | .normal, l, H | .ret, l, H => ∃ v H', Sub H' H ∧ (∀ w, Agree H w → (results fn l.toArray).run P w = .ok v w) ∧ R v H'
  | _, _, _ => False
theorem ht_of_body {f : FuncId} {fn : Func} {c : Code} {args : List Value} {R : Value → Hp → Prop} (hf : P.funcs[f]? = some fn) (hb : fn.body = some c)
    (h : hc P c (hend P fn R) (args ++ List.replicate (fn.ntmps - args.length) undef) H) : HT P f args.toArray H R := by
  intro w hA
  refine calls_of_wp hf hb ?_
  have e : (args.toArray ++ Array.replicate (fn.ntmps - args.toArray.size) undef) = (args ++ List.replicate (fn.ntmps - args.length) undef).toArray := by simp
  rw [e]
  refine wp_mono (h w hA) ?_
  rintro e a w' ⟨l', H', rfl, q, ag, kp⟩
  cases e with
  | normal => obtain ⟨v, H'', hs, hv, hR⟩ := q; exact ⟨rfl, v, hv w' ag, v, H'', rfl, hR, ag.sub hs, kp.sub hs⟩
  | ret => obtain ⟨v, H'', hs, hv, hR⟩ := q; exact ⟨rfl, v, hv w' ag, v, H'', rfl, hR, ag.sub hs, kp.sub hs⟩
  | _ => exact q.elim
theorem hend_tmp_sub {fn : Func} {t : Tmp} {R : Value → Hp → Prop} {H' : Hp} (h : fn.results = #[.tmp t]) (s : Sub H' H) (hR : R (l.getD t undef) H') : hend P fn R .ret l H :=
  ⟨_, _, s, fun _ _ => by rw [results_tmp h]; simp, hR⟩
theorem hend_tmp2_sub {fn : Func} {t u : Tmp} {R : Value → Hp → Prop} {H' : Hp} (h : fn.results = #[.tmp t, .tmp u]) (s : Sub H' H) (hR : R (.tuple #[l.getD t undef, l.getD u undef]) H') : hend P fn R .ret l H :=
  ⟨_, _, s, fun _ _ => by rw [results_tmp2 h]; simp, hR⟩
theorem hend_tmp4_sub {fn : Func} {t u v w : Tmp} {R : Value → Hp → Prop} {H' : Hp} (h : fn.results = #[.tmp t, .tmp u, .tmp v, .tmp w]) (s : Sub H' H) (hR : R (.tuple #[l.getD t undef, l.getD u undef, l.getD v undef, l.getD w undef]) H') : hend P fn R .ret l H :=
  ⟨_, _, s, fun _ _ => by simp [results, h], hR⟩
theorem hend_none_sub {fn : Func} {R : Value → Hp → Prop} {H' : Hp} (h : fn.results = #[]) (s : Sub H' H) (hR : R (.tuple #[]) H') : hend P fn R .normal l H :=
  ⟨_, _, s, fun _ _ => by rw [results_none h], hR⟩
theorem hend_none'_sub {fn : Func} {R : Value → Hp → Prop} {H' : Hp} (h : fn.results = #[]) (s : Sub H' H) (hR : R (.tuple #[]) H') : hend P fn R .ret l H :=
  ⟨_, _, s, fun _ _ => by rw [results_none h], hR⟩
theorem hend_tmp {fn : Func} {t : Tmp} {R : Value → Hp → Prop} (h : fn.results = #[.tmp t]) (hR : R (l.getD t undef) H) : hend P fn R .ret l H := hend_tmp_sub h (.refl _) hR
theorem hend_tmp2 {fn : Func} {t u : Tmp} {R : Value → Hp → Prop} (h : fn.results = #[.tmp t, .tmp u]) (hR : R (.tuple #[l.getD t undef, l.getD u undef]) H) : hend P fn R .ret l H := hend_tmp2_sub h (.refl _) hR
theorem hend_tmp4 {fn : Func} {t u v w : Tmp} {R : Value → Hp → Prop} (h : fn.results = #[.tmp t, .tmp u, .tmp v, .tmp w]) (hR : R (.tuple #[l.getD t undef, l.getD u undef, l.getD v undef, l.getD w undef]) H) : hend P fn R .ret l H := hend_tmp4_sub h (.refl _) hR
theorem hend_none {fn : Func} {R : Value → Hp → Prop} (h : fn.results = #[]) (hR : R (.tuple #[]) H) : hend P fn R .normal l H := hend_none_sub h (.refl _) hR
theorem hend_none' {fn : Func} {R : Value → Hp → Prop} (h : fn.results = #[]) (hR : R (.tuple #[]) H) : hend P fn R .ret l H := hend_none'_sub h (.refl _) hR
/-- results that lie in memory -/
theorem hend_mem {fn : Func} {R : Value → Hp → Prop} {H' : Hp} {v : Value} (s : Sub H' H) (h : hw true P (results fn l.toArray) (fun v' _ => v' = v) H) (hR : R v H') : hend P fn R .ret l H := by
  obtain ⟨x, hx, e⟩ := hw_still _ h
  exact ⟨v, H', s, fun w hw => by rw [hx w hw, e], hR⟩
end Go.H
