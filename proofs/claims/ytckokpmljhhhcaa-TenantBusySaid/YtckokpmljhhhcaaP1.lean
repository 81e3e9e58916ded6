/- A part of the proofs over the tenants of a page cache: lemmas on what is known of the memory, and contracts of the Go functions. -/
import Derived.Test.YtckokpmljhhhcaaF3
import Derived.Test.YtckokpmljhhhcaaF7
import Derived.Test.YtckokpmljhhhcaaHq
set_option linter.unusedVariables false
set_option linter.unusedSimpArgs false
namespace Go.Proofs.Try
open Go Go.H
set_option linter.unusedSimpArgs false
set_option linter.unusedVariables false
set_option maxRecDepth 100000
set_option maxHeartbeats 2000000
structure Pt where
  fr : List Fr
  hand : Nat
structure Pt.Ok (s : Pt) : Prop where
  pos : 0 < s.fr.length
  most : s.fr.length ≤ 64
  hand : s.hand < s.fr.length
  len : ∀ f ∈ s.fr, f.b.length = 32
  pins : ∀ f ∈ s.fr, 0 ≤ f.pins ∧ f.pins ≤ 100
  zero : ∀ f ∈ s.fr, f.used = false → f = Fr.zero
  uniq : Uniq s.fr
def PartH (H : Hp) (p : Nat) (s : Pt) : Prop := s.Ok ∧ ∃ fb tb ot, H p = some (row (partRow fb s.fr.length tb s.hand) 72) ∧ H fb = some (row (flat frc s.fr) 129) ∧ H tb = some ot ∧ MapI ot (tabF s.fr)
/-- what is no part's -/
def notP : Obj → Prop
  | .cells _ T _ => T ≠ 72 ∧ T ≠ 129
  | _ => False
def PFr (H H' : Hp) : Prop := ∀ b o, H b = some o → notP o → H' b = some o
theorem PFr.refl (H : Hp) : PFr H H := fun _ _ h _ => h
theorem PFr.trans {A B C : Hp} (h : PFr A B) (h' : PFr B C) : PFr A C := fun b o x n => h' b o (h b o x n) n
class NP (T : TypeId) : Prop where out : T ≠ 72 ∧ T ≠ 129
instance : NP 0 := ⟨by decide⟩
instance : NP 1 := ⟨by decide⟩
instance : NP 2 := ⟨by decide⟩
instance : NP 3 := ⟨by decide⟩
instance : NP 4 := ⟨by decide⟩
instance : NP 5 := ⟨by decide⟩
instance : NP 6 := ⟨by decide⟩
instance : NP 7 := ⟨by decide⟩
instance : NP 8 := ⟨by decide⟩
instance : NP 9 := ⟨by decide⟩
instance : NP 10 := ⟨by decide⟩
instance : NP 11 := ⟨by decide⟩
instance : NP 12 := ⟨by decide⟩
instance : NP 13 := ⟨by decide⟩
instance : NP 14 := ⟨by decide⟩
instance : NP 15 := ⟨by decide⟩
instance : NP 16 := ⟨by decide⟩
instance : NP 17 := ⟨by decide⟩
instance : NP 18 := ⟨by decide⟩
instance : NP 19 := ⟨by decide⟩
instance : NP 20 := ⟨by decide⟩
instance : NP 21 := ⟨by decide⟩
instance : NP 22 := ⟨by decide⟩
instance : NP 23 := ⟨by decide⟩
instance : NP 24 := ⟨by decide⟩
instance : NP 25 := ⟨by decide⟩
instance : NP 26 := ⟨by decide⟩
instance : NP 27 := ⟨by decide⟩
instance : NP 28 := ⟨by decide⟩
instance : NP 29 := ⟨by decide⟩
instance : NP 30 := ⟨by decide⟩
instance : NP 31 := ⟨by decide⟩
instance : NP 32 := ⟨by decide⟩
instance : NP 33 := ⟨by decide⟩
instance : NP 34 := ⟨by decide⟩
instance : NP 35 := ⟨by decide⟩
instance : NP 36 := ⟨by decide⟩
instance : NP 37 := ⟨by decide⟩
instance : NP 38 := ⟨by decide⟩
instance : NP 39 := ⟨by decide⟩
instance : NP 40 := ⟨by decide⟩
instance : NP 41 := ⟨by decide⟩
instance : NP 42 := ⟨by decide⟩
instance : NP 43 := ⟨by decide⟩
instance : NP 44 := ⟨by decide⟩
instance : NP 45 := ⟨by decide⟩
instance : NP 46 := ⟨by decide⟩
instance : NP 47 := ⟨by decide⟩
instance : NP 48 := ⟨by decide⟩
instance : NP 49 := ⟨by decide⟩
instance : NP 50 := ⟨by decide⟩
instance : NP 51 := ⟨by decide⟩
instance : NP 52 := ⟨by decide⟩
instance : NP 53 := ⟨by decide⟩
instance : NP 54 := ⟨by decide⟩
instance : NP 55 := ⟨by decide⟩
instance : NP 56 := ⟨by decide⟩
instance : NP 57 := ⟨by decide⟩
instance : NP 58 := ⟨by decide⟩
instance : NP 59 := ⟨by decide⟩
instance : NP 60 := ⟨by decide⟩
instance : NP 61 := ⟨by decide⟩
instance : NP 62 := ⟨by decide⟩
instance : NP 63 := ⟨by decide⟩
instance : NP 64 := ⟨by decide⟩
instance : NP 65 := ⟨by decide⟩
instance : NP 66 := ⟨by decide⟩
instance : NP 67 := ⟨by decide⟩
instance : NP 68 := ⟨by decide⟩
instance : NP 69 := ⟨by decide⟩
instance : NP 70 := ⟨by decide⟩
instance : NP 71 := ⟨by decide⟩
instance : NP 73 := ⟨by decide⟩
instance : NP 74 := ⟨by decide⟩
instance : NP 75 := ⟨by decide⟩
instance : NP 76 := ⟨by decide⟩
instance : NP 77 := ⟨by decide⟩
instance : NP 78 := ⟨by decide⟩
instance : NP 79 := ⟨by decide⟩
instance : NP 80 := ⟨by decide⟩
instance : NP 81 := ⟨by decide⟩
instance : NP 82 := ⟨by decide⟩
instance : NP 83 := ⟨by decide⟩
instance : NP 84 := ⟨by decide⟩
instance : NP 85 := ⟨by decide⟩
instance : NP 86 := ⟨by decide⟩
instance : NP 87 := ⟨by decide⟩
instance : NP 88 := ⟨by decide⟩
instance : NP 89 := ⟨by decide⟩
instance : NP 90 := ⟨by decide⟩
instance : NP 91 := ⟨by decide⟩
instance : NP 92 := ⟨by decide⟩
instance : NP 93 := ⟨by decide⟩
instance : NP 94 := ⟨by decide⟩
instance : NP 95 := ⟨by decide⟩
instance : NP 96 := ⟨by decide⟩
instance : NP 97 := ⟨by decide⟩
instance : NP 98 := ⟨by decide⟩
instance : NP 99 := ⟨by decide⟩
instance : NP 100 := ⟨by decide⟩
instance : NP 101 := ⟨by decide⟩
instance : NP 102 := ⟨by decide⟩
instance : NP 103 := ⟨by decide⟩
instance : NP 104 := ⟨by decide⟩
instance : NP 105 := ⟨by decide⟩
instance : NP 106 := ⟨by decide⟩
instance : NP 107 := ⟨by decide⟩
instance : NP 108 := ⟨by decide⟩
instance : NP 109 := ⟨by decide⟩
instance : NP 110 := ⟨by decide⟩
instance : NP 111 := ⟨by decide⟩
instance : NP 112 := ⟨by decide⟩
instance : NP 113 := ⟨by decide⟩
instance : NP 114 := ⟨by decide⟩
instance : NP 115 := ⟨by decide⟩
instance : NP 116 := ⟨by decide⟩
instance : NP 117 := ⟨by decide⟩
instance : NP 118 := ⟨by decide⟩
instance : NP 119 := ⟨by decide⟩
instance : NP 120 := ⟨by decide⟩
instance : NP 121 := ⟨by decide⟩
instance : NP 122 := ⟨by decide⟩
instance : NP 123 := ⟨by decide⟩
instance : NP 124 := ⟨by decide⟩
instance : NP 125 := ⟨by decide⟩
instance : NP 126 := ⟨by decide⟩
instance : NP 127 := ⟨by decide⟩
instance : NP 128 := ⟨by decide⟩
instance : NP 130 := ⟨by decide⟩
instance : NP 131 := ⟨by decide⟩
instance : NP 132 := ⟨by decide⟩
instance : NP 133 := ⟨by decide⟩
instance : NP 134 := ⟨by decide⟩
instance : NP 135 := ⟨by decide⟩
instance : NP 136 := ⟨by decide⟩
instance : NP 137 := ⟨by decide⟩
instance : NP 138 := ⟨by decide⟩
instance : NP 139 := ⟨by decide⟩
instance : NP 140 := ⟨by decide⟩
instance : NP 141 := ⟨by decide⟩
instance : NP 142 := ⟨by decide⟩
instance : NP 143 := ⟨by decide⟩
instance : NP 144 := ⟨by decide⟩
instance : NP 145 := ⟨by decide⟩
instance : NP 146 := ⟨by decide⟩
instance : NP 147 := ⟨by decide⟩
instance : NP 148 := ⟨by decide⟩
instance : NP 149 := ⟨by decide⟩
instance : NP 150 := ⟨by decide⟩
instance : NP 151 := ⟨by decide⟩
instance : NP 152 := ⟨by decide⟩
instance : NP 153 := ⟨by decide⟩
instance : NP 154 := ⟨by decide⟩
instance : NP 155 := ⟨by decide⟩
instance : NP 156 := ⟨by decide⟩
instance : NP 157 := ⟨by decide⟩
instance : NP 158 := ⟨by decide⟩
instance : NP 159 := ⟨by decide⟩
instance : NP 160 := ⟨by decide⟩
instance : NP 161 := ⟨by decide⟩
instance : NP 162 := ⟨by decide⟩
instance : NP 163 := ⟨by decide⟩
instance : NP 164 := ⟨by decide⟩
instance : NP 165 := ⟨by decide⟩
instance : NP 166 := ⟨by decide⟩
instance : NP 167 := ⟨by decide⟩
instance : NP 168 := ⟨by decide⟩
instance : NP 169 := ⟨by decide⟩
instance : NP 170 := ⟨by decide⟩
instance : NP 171 := ⟨by decide⟩
instance : NP 172 := ⟨by decide⟩
instance : NP 173 := ⟨by decide⟩
instance : NP 174 := ⟨by decide⟩
instance : NP 175 := ⟨by decide⟩
instance : NP 176 := ⟨by decide⟩
instance : NP 177 := ⟨by decide⟩
instance : NP 178 := ⟨by decide⟩
instance : NP 179 := ⟨by decide⟩
instance : NP 180 := ⟨by decide⟩
instance : NP 181 := ⟨by decide⟩
instance : NP 182 := ⟨by decide⟩
instance : NP 183 := ⟨by decide⟩
instance : NP 184 := ⟨by decide⟩
instance : NP 185 := ⟨by decide⟩
theorem PFr.keep {H H' : Hp} (f : PFr H H') {b : Nat} {L : List Value} {T : TypeId} [n : NP T] (h : H b = some (row L T)) : H' b = some (row L T) := f b _ h n.out
theorem PFr.keep' {H H' : Hp} (f : PFr H H') {b : Nat} {L : List Value} {T : TypeId} (h : H b = some (row L T)) (n : NP T) : H' b = some (row L T) := f b _ h n.out
/-- what is known, but for the part -/
def flt (H : Hp) : Hp := fun b => match H b with
  | some (.cells c T z) => if T ≠ 72 ∧ T ≠ 129 then some (.cells c T z) else none
  | _ => none
theorem flt_sub (H : Hp) : Sub (flt H) H := by
  intro b o h
  unfold flt at h
  split at h
  · rename_i c T z e
    split at h
    · cases h; exact e
    · cases h
  · cases h
theorem npOf {T : TypeId} [n : NP T] : NP T := n
theorem hFl {H : Hp} {b : Nat} {L : List Value} {T : TypeId} (h : H b = some (row L T)) (n : NP T) : (flt H) b = some (row L T) := by
  unfold flt; rw [h]; simp only [row]; rw [if_pos n.out]
theorem PFr.flt {H H' : Hp} (f : PFr H H') : Sub (flt H) H' := by
  intro b o h
  have h' := flt_sub H b o h
  refine f b o h' ?_
  unfold Go.Proofs.Try.flt at h
  rw [h'] at h
  cases o with
  | cells c T z =>
    simp only at h
    split at h
    · assumption
    · cases h
  | _ => cases h
theorem hc_drawP {P : Program} {Q : Exit → List Value → Hp → Prop} {l : List Value} {H : Hp} {id : Nat} {ops : List Oper} (hm : P.follows .mixedOrders = true) (hp : ∀ c l H, ¬ Q (.panic c) l H)
    (h : hD P ops.toArray (Go.Proofs.Try.flt H) (Q .normal) ops.length (Array.replicate ops.length false) l H) : hc P (.region id ops.toArray true) Q l H := hc_draw _ hm hp h
theorem PFr.of {A H H' : Hp} (f : PFr H H') (s : Sub A H) : PFr A H' := fun b o h n => f b o (s b o h) n
theorem PFr.upd {A H : Hp} (f : PFr A H) {b : Nat} (hb : A b = none) {o : Obj} : PFr A (H.set b o) := by
  intro c x hx hn
  rw [Hp.set_ne]
  · exact f c x hx hn
  · intro e; subst e; rw [hb] at hx; cases hx
/-- bytes in a block of bytes -/
def dOkU (H : Hp) (v : Value) (bs : List UInt8) : Prop := rdS H v bs.length (bs.map byv) 5 1
theorem dOkU.d {H : Hp} {v : Value} {bs : List UInt8} (h : dOkU H v bs) : dOk H v bs := by
  rcases h with ⟨h1, h2, h3⟩ | ⟨b, o, c, L, rfl, hH, hl, e, hc⟩
  · exact .inl ⟨h1, List.length_eq_zero_iff.1 h2⟩
  · exact .inr ⟨b, o, c, L, _, rfl, hH, by omega, by rw [Nat.mul_one] at e; exact e⟩
theorem dOkU.sub {H H' : Hp} {v : Value} {bs : List UInt8} (h : dOkU H v bs) (s : Sub H H') : dOkU H' v bs := rdS.sub h s
theorem dOkU.nil {H : Hp} : dOkU H (.slice none 0 0) [] := rdS.nil
theorem dOkU.len {H : Hp} {v : Value} {bs : List UInt8} (h : dOkU H v bs) : ∃ a c, v = .slice a bs.length c := rdS.slice h
theorem dOkU.fr {H H' : Hp} {v : Value} {bs : List UInt8} (h : dOkU H v bs) (f : PFr H H') : dOkU H' v bs := by
  rcases h with h | ⟨b, o, c, L, h1, h2, h3⟩
  · exact .inl h
  · exact .inr ⟨b, o, c, L, h1, f.keep h2, h3⟩
theorem rdS.fr {H H' : Hp} {v : Value} {n sz : Nat} {ys : List Value} {T : TypeId} [NP T] (h : rdS H v n ys T sz) (f : PFr H H') : rdS H' v n ys T sz := by
  rcases h with h | ⟨b, o, c, L, h1, h2, h3⟩
  · exact .inl h
  · exact .inr ⟨b, o, c, L, h1, f.keep h2, h3⟩
theorem OwnS.fr {H H' : Hp} {v : Value} {n sz : Nat} {ys : List Value} {T : TypeId} [NP T] (h : OwnS H v n ys T sz) (f : PFr H H') : OwnS H' v n ys T sz := by
  rcases h with h | ⟨c, cp, B, h1, h2, h3⟩
  · exact .inl h
  · exact .inr ⟨c, cp, B, h1, f.keep h2, h3⟩
theorem PartH.drop {H : Hp} {p : Nat} {s : Pt} (h : PartH H p s) {v : Value} {n sz : Nat} {A : List Value} {T : TypeId} [NP T] (ho : OwnS H v n A T sz) : PartH (H.drop v) p s := by
  rcases ho with ⟨rfl, _⟩ | ⟨b, cp, B, rfl, hb, _⟩
  · exact h
  · obtain ⟨ok, fb, tb, ot, h1, h2, h3, h4⟩ := h
    have n : NP T := inferInstance
    have e1 : p ≠ b := ne_row h1 hb (fun e => n.out.1 e.symm)
    have e2 : fb ≠ b := ne_row h2 hb (fun e => n.out.2 e.symm)
    have e3 : tb ≠ b := (ne_map hb h3 h4).symm
    show PartH (H.del b) p s
    exact ⟨ok, fb, tb, ot, by rw [Hp.del_ne _ e1]; exact h1, by rw [Hp.del_ne _ e2]; exact h2, by rw [Hp.del_ne _ e3]; exact h3, h4⟩
theorem PFr.dOk {H H' : Hp} (h : PFr H H') {v : Value} {bs : List UInt8} (hd : dOk H v bs) (hn : ∀ b o c L t, v = .slice (some ⟨b, o, none⟩) bs.length c → H b = some (row L t) → t ≠ 72 ∧ t ≠ 129) : dOk H' v bs := by
  rcases hd with h0 | ⟨b, o, c, L, t, rfl, hH, hl, e⟩
  · exact .inl h0
  · exact .inr ⟨b, o, c, L, t, rfl, h b _ hH (hn b o c L t rfl hH), hl, e⟩
theorem PartH.sub {H H' : Hp} {p : Nat} {s : Pt} (h : PartH H p s) (k : Sub H H') : PartH H' p s := by
  obtain ⟨ok, fb, tb, ot, h1, h2, h3, h4⟩ := h
  exact ⟨ok, fb, tb, ot, k _ _ h1, k _ _ h2, k _ _ h3, h4⟩
theorem PartH.upd {H : Hp} {p : Nat} {s : Pt} (h : PartH H p s) {b : Nat} {L : List Value} {T : TypeId} (hb : H b = some (row L T)) (n : NP T) {o : Obj} : PartH (H.set b o) p s := by
  obtain ⟨ok, fb, tb, ot, h1, h2, h3, h4⟩ := h
  have e1 : p ≠ b := ne_row h1 hb (fun e => n.out.1 e.symm)
  have e2 : fb ≠ b := ne_row h2 hb (fun e => n.out.2 e.symm)
  have e3 : tb ≠ b := (ne_map hb h3 h4).symm
  exact ⟨ok, fb, tb, ot, by rw [Hp.set_ne _ _ e1]; exact h1, by rw [Hp.set_ne _ _ e2]; exact h2, by rw [Hp.set_ne _ _ e3]; exact h3, h4⟩
theorem PartH.new {H : Hp} {p : Nat} {s : Pt} (h : PartH H p s) {b : Nat} (hb : H b = none) {o : Obj} : PartH (H.set b o) p s := h.sub (Sub.set_new hb)
theorem PFr.set {H : Hp} {b : Nat} {o o' : Obj} (h : H b = some o) (n : ¬ notP o) : PFr H (H.set b o') := by
  intro c x hx hn
  rw [Hp.set_ne]
  · exact hx
  · intro e; subst e; rw [h] at hx; cases hx; exact n hn
theorem PFr.new {H : Hp} {b : Nat} {o : Obj} (h : H b = none) : PFr H (H.set b o) := fun c x hx _ => Sub.set_new h c x hx
theorem notP_map {o : Obj} {f : Int → Option Value} (h : MapI o f) : ¬ notP o := by
  obtain ⟨es, ck, rfl, _⟩ := h.ex; exact id
theorem notP_F {L : List Value} : ¬ notP (row L 129) := fun h => h.2 rfl
theorem notP_P {L : List Value} : ¬ notP (row L 72) := fun h => h.1 rfl
/-! ## one frame changed -/
theorem Pt.Ok.set {s : Pt} (h : s.Ok) {i : Nat} {f g : Fr} (hf : s.fr[i]? = some f) (h1 : g.used = f.used) (h2 : g.page = f.page) (hl : g.b.length = 32) (hp : 0 ≤ g.pins ∧ g.pins ≤ 100) (hz : g.used = false → g = Fr.zero) : Pt.Ok ⟨s.fr.set i g, s.hand⟩ := by
  have hmem : ∀ x ∈ s.fr.set i g, x ∈ s.fr ∨ x = g := fun x hx => List.mem_or_eq_of_mem_set hx
  refine ⟨by simpa using h.pos, by simpa using h.most, by simpa using h.hand, ?_, ?_, ?_, ?_⟩
  · intro x hx; rcases hmem x hx with h' | rfl <;> first | exact h.len x h' | exact hl
  · intro x hx; rcases hmem x hx with h' | rfl <;> first | exact h.pins x h' | exact hp
  · intro x hx hu; rcases hmem x hx with h' | rfl <;> first | exact h.zero x h' hu | exact hz hu
  · refine h.uniq.set fun hu => .inr ?_
    rw [h2]; exact h.uniq.find hf (by rw [← h1]; exact hu)
theorem PartH.setF {H : Hp} {p fb tb : Nat} {s : Pt} {ot : Obj} (ok : s.Ok) (h1 : H p = some (row (partRow fb s.fr.length tb s.hand) 72)) (h2 : H fb = some (row (flat frc s.fr) 129)) (h3 : H tb = some ot) (h4 : MapI ot (tabF s.fr))
    {i : Nat} {f g : Fr} (hf : s.fr[i]? = some f) (e1 : g.used = f.used) (e2 : g.page = f.page) (hl : g.b.length = 32) (hp : 0 ≤ g.pins ∧ g.pins ≤ 100) (hz : g.used = false → g = Fr.zero) : PartH (H.set fb (row (flat frc (s.fr.set i g)) 129)) p ⟨s.fr.set i g, s.hand⟩ := by
  have n1 : p ≠ fb := ne_row h1 h2 (by decide)
  have n2 : fb ≠ tb := ne_map h2 h3 h4
  refine ⟨ok.set hf e1 e2 hl hp hz, fb, tb, ot, ?_, Hp.set_same _ _ _, ?_, ?_⟩
  · rw [Hp.set_ne _ _ n1]; simpa using h1
  · rw [Hp.set_ne _ _ n2.symm]; exact h3
  · show MapI ot (tabF (s.fr.set i g))
    rw [tabF_set_same hf e1 e2]; exact h4
theorem find_lt {s : Pt} {pg : Int} {i : Nat} (h : findPage s.fr pg = some i) : i < s.fr.length := by
  obtain ⟨f, hf, _⟩ := findPage_lt h
  exact (List.getElem?_eq_some_iff.1 hf).1
/-! ## what each does -/
def Pt.on (s : Pt) (pg : Int) (g : Fr → Int × Fr) : Int × Pt := match findPage s.fr pg with
  | none => (6, s)
  | some i => match s.fr[i]? with
    | none => (6, s)
    | some f => ((g f).1, ⟨s.fr.set i (g f).2, s.hand⟩)
def Pt.pin (s : Pt) (pg : Int) : Int × Pt := s.on pg pinFr
def Pt.unpin (s : Pt) (pg : Int) : Int × Pt := s.on pg unpinFr
def putFr' (off : Nat) (d : List UInt8) (f : Fr) : Int × Fr := if f.pins = 0 then (6, f) else (0, { f with ref := true, dirty := true, b := spl f.b off d })
def Pt.put (s : Pt) (pg : Int) (off : Nat) (d : List UInt8) : Int × Pt := s.on pg (putFr' off d)
def getFr' (f : Fr) : Int × Fr := if f.pins = 0 then (6, f) else (0, { f with ref := true })
def Pt.get (s : Pt) (pg : Int) : Int × Pt := s.on pg getFr'
/-- the bytes that a read tells -/
def Pt.bytes (s : Pt) (pg : Int) (off n : Nat) : List UInt8 := match findPage s.fr pg with
  | none => []
  | some i => match s.fr[i]? with
    | none => []
    | some f => if f.pins = 0 then [] else (f.b.drop off).take n
theorem Pt.on_none {s : Pt} {pg : Int} {g : Fr → Int × Fr} (h : findPage s.fr pg = none) : s.on pg g = (6, s) := by simp [Pt.on, h]
theorem Pt.on_some {s : Pt} {pg : Int} {g : Fr → Int × Fr} {i : Nat} {f : Fr} (h : findPage s.fr pg = some i) (hf : s.fr[i]? = some f) : s.on pg g = ((g f).1, ⟨s.fr.set i (g f).2, s.hand⟩) := by simp [Pt.on, h, hf]
theorem set_same {α : Type} {l : List α} {i : Nat} {x : α} (h : l[i]? = some x) : l.set i x = l := by
  apply List.ext_getElem?
  intro j
  rw [List.getElem?_set]
  split
  · rename_i e; subst e
    have := (List.getElem?_eq_some_iff.1 h).1
    rw [if_pos this, h]
  · rfl
theorem ph_in {H : Hp} {p : Nat} {s : Pt} (h : PartH H p s) {i : Int} : HT prog 58 #[.pointer (some ⟨p, 0, none⟩), .int .i64 i] H (fun v H' => v = .bool (decide (0 ≤ i) && decide (i < s.fr.length)) ∧ H = H') := by
  obtain ⟨ok, fb, tb, ot, h1, h2, h3, h4⟩ := h
  exact part_in h1
theorem ph_Find_no {H : Hp} {p : Nat} {s : Pt} (h : PartH H p s) {pg : Int} (hf : findPage s.fr pg = none) : HT prog 55 #[.pointer (some ⟨p, 0, none⟩), .int .i64 pg] H (fun v H' => v = .tuple #[.int .i64 0, .bool false] ∧ H = H') := by
  obtain ⟨ok, fb, tb, ot, h1, h2, h3, h4⟩ := h
  exact part_Find_no h1 h2 h3 h4 rfl ok.len hf
theorem ph_Find_yes {H : Hp} {p : Nat} {s : Pt} (h : PartH H p s) {pg : Int} {i : Nat} (hf : findPage s.fr pg = some i) : HT prog 55 #[.pointer (some ⟨p, 0, none⟩), .int .i64 pg] H (fun v H' => v = .tuple #[.int .i64 (i : Nat), .bool true] ∧ H = H') := by
  obtain ⟨ok, fb, tb, ot, h1, h2, h3, h4⟩ := h
  exact part_Find_yes h1 h2 h3 h4 rfl ok.len hf
theorem ph_At {H : Hp} {p : Nat} {s : Pt} (h : PartH H p s) {i : Nat} {f : Fr} (hf : s.fr[i]? = some f) : HT prog 81 #[.pointer (some ⟨p, 0, none⟩), .int .i64 (i : Int)] H (fun v H' => v = .agg (frc f).toArray ∧ H = H') := by
  obtain ⟨ok, fb, tb, ot, h1, h2, h3, h4⟩ := h
  exact part_At h1 h2 h3 h4 rfl ok.len hf
theorem pinFr_keeps (f : Fr) : (pinFr f).2.used = f.used ∧ (pinFr f).2.page = f.page ∧ (pinFr f).2.b = f.b := by
  unfold pinFr; split
  · exact ⟨rfl, rfl, rfl⟩
  · split <;> exact ⟨rfl, rfl, rfl⟩
theorem unpinFr_keeps (f : Fr) : (unpinFr f).2.used = f.used ∧ (unpinFr f).2.page = f.page ∧ (unpinFr f).2.b = f.b := by
  unfold unpinFr; split <;> exact ⟨rfl, rfl, rfl⟩
theorem pinFr_pins {f : Fr} (h : 0 ≤ f.pins ∧ f.pins ≤ 100) : 0 ≤ (pinFr f).2.pins ∧ (pinFr f).2.pins ≤ 100 := by
  unfold pinFr; split
  · exact h
  · split
    · exact h
    · simp; omega
theorem unpinFr_pins {f : Fr} (h : 0 ≤ f.pins ∧ f.pins ≤ 100) : 0 ≤ (unpinFr f).2.pins ∧ (unpinFr f).2.pins ≤ 100 := by
  unfold unpinFr; split
  · exact h
  · simp; omega
theorem ph_Pin {H : Hp} {p : Nat} {s : Pt} (h : PartH H p s) {pg : Int} : HT prog 44 #[.pointer (some ⟨p, 0, none⟩), .int .i64 pg] H (fun v H' => v = .int .i64 (s.pin pg).1 ∧ PartH H' p (s.pin pg).2 ∧ PFr H H') := by
  have h' := h
  obtain ⟨ok, fb, tb, ot, h1, h2, h3, h4⟩ := h
  cases hf : findPage s.fr pg with
  | none =>
    refine (part_Pin_no h1 h2 h3 h4 rfl ok.len hf).mono ?_
    rintro _ _ ⟨rfl, rfl⟩
    rw [Pt.pin, Pt.on_none hf]
    exact ⟨rfl, h', PFr.refl _⟩
  | some i =>
    obtain ⟨f, hi, hu, hpg⟩ := findPage_lt hf
    refine (part_Pin_yes h1 h2 h3 h4 rfl ok.len (fun f hf => (ok.pins f hf).1) hi hf).mono ?_
    rintro _ _ ⟨rfl, rfl⟩
    rw [Pt.pin, Pt.on_some hf hi]
    obtain ⟨k1, k2, k3⟩ := pinFr_keeps f
    have hm := List.mem_of_getElem? hi
    exact ⟨rfl, PartH.setF ok h1 h2 h3 h4 hi k1 k2 (by rw [k3]; exact ok.len f hm) (pinFr_pins (ok.pins f hm)) (fun e => by rw [k1, hu] at e; cases e), PFr.set h2 notP_F⟩
theorem ph_Unpin {H : Hp} {p : Nat} {s : Pt} (h : PartH H p s) {pg : Int} : HT prog 70 #[.pointer (some ⟨p, 0, none⟩), .int .i64 pg] H (fun v H' => v = .int .i64 (s.unpin pg).1 ∧ PartH H' p (s.unpin pg).2 ∧ PFr H H') := by
  have h' := h
  obtain ⟨ok, fb, tb, ot, h1, h2, h3, h4⟩ := h
  cases hf : findPage s.fr pg with
  | none =>
    refine (part_Unpin_no h1 h2 h3 h4 rfl ok.len hf).mono ?_
    rintro _ _ ⟨rfl, rfl⟩
    rw [Pt.unpin, Pt.on_none hf]
    exact ⟨rfl, h', PFr.refl _⟩
  | some i =>
    obtain ⟨f, hi, hu, hpg⟩ := findPage_lt hf
    refine (part_Unpin_yes h1 h2 h3 h4 rfl ok.len ok.pins hi hf).mono ?_
    rintro _ _ ⟨rfl, rfl⟩
    rw [Pt.unpin, Pt.on_some hf hi]
    obtain ⟨k1, k2, k3⟩ := unpinFr_keeps f
    have hm := List.mem_of_getElem? hi
    exact ⟨rfl, PartH.setF ok h1 h2 h3 h4 hi k1 k2 (by rw [k3]; exact ok.len f hm) (unpinFr_pins (ok.pins f hm)) (fun e => by rw [k1, hu] at e; cases e), PFr.set h2 notP_F⟩
theorem Pt.at {s : Pt} (ok : s.Ok) {i : Nat} {f : Fr} (hi : s.fr[i]? = some f) : flat frc s.fr = flat frc (s.fr.take i) ++ frc f ++ flat frc (s.fr.drop (i + 1)) ∧ (flat frc (s.fr.take i)).length = i * 37 :=
  ⟨flat_split hi, frA ok.len (Nat.le_of_lt (List.getElem?_eq_some_iff.1 hi).1)⟩
theorem fits0 {off n : Nat} (h : off + n ≤ 32) : fitsE 32 (off : Int) (n : Int) = 0 := by unfold fitsE; rw [if_neg (by simp), if_neg (by omega)]
theorem ph_Get {H : Hp} {p : Nat} {s : Pt} (h : PartH H p s) {pg : Int} {off n : Nat} (hfit : off + n ≤ 32) : HT prog 65 #[.pointer (some ⟨p, 0, none⟩), .int .i64 pg, .int .i64 (off : Int), .int .i64 (n : Int)] H
    (fun v H' => ∃ dv, v = .tuple #[dv, .int .i64 (s.get pg).1] ∧ dOkU H' dv (s.bytes pg off n) ∧ PartH H' p (s.get pg).2 ∧ PFr H H') := by
  have h' := h
  obtain ⟨ok, fb, tb, ot, h1, h2, h3, h4⟩ := h
  cases hf : findPage s.fr pg with
  | none =>
    refine (part_Get_no h1 h2 h3 h4 rfl ok.len hf).mono ?_
    rintro _ _ ⟨rfl, rfl⟩
    rw [Pt.get, Pt.on_none hf]
    exact ⟨_, rfl, .inl ⟨rfl, by simp [Pt.bytes, hf], by simp [Pt.bytes, hf]⟩, h', PFr.refl _⟩
  | some i =>
    obtain ⟨f, hi, hu, hpg⟩ := findPage_lt hf
    have hm := List.mem_of_getElem? hi
    obtain ⟨hs, hA⟩ := Pt.at ok hi
    have hpn := ok.pins f hm
    by_cases hp0 : f.pins = 0
    · refine (part_Get_err h1 h2 h3 h4 rfl ok.len hi hf (e := 6) fun H1 s1 => ?_).mono ?_
      · rw [← hA]
        exact Frame_Get_free (by rw [← hs]; exact s1 _ _ h2) hp0
      · rintro _ _ ⟨rfl, rfl⟩
        rw [Pt.get, Pt.on_some hf hi]
        simp only [getFr', if_pos hp0]
        refine ⟨_, rfl, .inl ⟨rfl, by simp [Pt.bytes, hf, hi, hp0], by simp [Pt.bytes, hf, hi, hp0]⟩, ?_, PFr.refl _⟩
        rw [set_same hi]; exact h'
    · refine (part_Get_good h1 h2 h3 h4 rfl ok.len hi hf (m := n) (D := ((f.b.drop off).take n).map byv) (X := row (flat frc (s.fr.set i { f with ref := true })) 129) fun H1 s1 => ?_).mono ?_
      · rw [← hA, flat_set hi]
        exact Frame_Get_ok (by rw [← hs]; exact s1 _ _ h2) (by omega) (ok.len f hm) hfit (by rw [← hs]; exact one_fr _)
      · rintro _ _ ⟨b', hb', rfl, rfl⟩
        rw [Pt.get, Pt.on_some hf hi]
        simp only [getFr', if_neg hp0]
        have hfb := Hp.ne_of h2 hb'
        have sN := Sub.set_new (o := row (((f.b.drop off).take n).map byv) 5) hb'
        have hlen : ((f.b.drop off).take n).length = n := by simp [ok.len f hm]; omega
        have hbt : s.bytes pg off n = (f.b.drop off).take n := by simp [Pt.bytes, hf, hi, hp0]
        refine ⟨_, rfl, ?_, PartH.setF ok (sN _ _ h1) (sN _ _ h2) (sN _ _ h3) h4 hi rfl rfl (ok.len f hm) hpn (fun e => by simp [hu] at e), PFr.trans (PFr.new hb') (PFr.set (sN _ _ h2) notP_F)⟩
        rw [hbt]
        refine .inr ⟨b', 0, n, _, by rw [hlen], by rw [Hp.set_ne _ _ hfb.symm]; exact Hp.set_same _ _ _, by simp, ?_, by omega⟩
        rw [List.drop_zero]; exact (List.take_of_length_le (by simp)).symm
theorem ph_Put {H : Hp} {p : Nat} {s : Pt} (h : PartH H p s) {pg : Int} {off : Nat} {dv : Value} {bs : List UInt8} (hd : dOk H dv bs) (hfit : off + bs.length ≤ 32) : HT prog 68 #[.pointer (some ⟨p, 0, none⟩), .int .i64 pg, .int .i64 (off : Int), dv] H
    (fun v H' => v = .int .i64 (s.put pg off bs).1 ∧ PartH H' p (s.put pg off bs).2 ∧ PFr H H') := by
  have h' := h
  obtain ⟨ok, fb, tb, ot, h1, h2, h3, h4⟩ := h
  obtain ⟨a, c, rfl⟩ := hd.len
  cases hf : findPage s.fr pg with
  | none =>
    refine (part_Put_no h1 h2 h3 h4 rfl ok.len rfl hf).mono ?_
    rintro _ _ ⟨rfl, rfl⟩
    rw [Pt.put, Pt.on_none hf]
    exact ⟨rfl, h', PFr.refl _⟩
  | some i =>
    obtain ⟨f, hi, hu, hpg⟩ := findPage_lt hf
    have hm := List.mem_of_getElem? hi
    obtain ⟨hs, hA⟩ := Pt.at ok hi
    have hpn := ok.pins f hm
    rw [Pt.put, Pt.on_some hf hi]
    by_cases hp0 : f.pins = 0
    · refine (part_Put_q h1 h2 h3 h4 rfl ok.len hi (v0 := .int .i64 6) (F := id) (fun _ s => s) rfl hf fun H1 s1 => ?_).mono ?_
      · rw [← hA]
        refine (Frame_Put_free (by rw [← hs]; exact s1 _ _ h2) hp0).mono ?_
        rintro _ _ ⟨rfl, rfl⟩; exact ⟨rfl, rfl⟩
      · rintro _ _ ⟨rfl, rfl⟩
        simp only [putFr', if_pos hp0]
        refine ⟨trivial, ?_, PFr.refl _⟩
        rw [set_same hi]; exact h'
    · refine (part_Put_q h1 h2 h3 h4 rfl ok.len hi (v0 := .int .i64 0) (F := fun H => H.set fb (row (flat frc (s.fr.set i { f with ref := true, dirty := true, b := spl f.b off bs })) 129)) (fun _ s => s.set _ _) rfl hf fun H1 s1 => ?_).mono ?_
      · rw [← hA, flat_set hi]
        refine (Frame_Put_ok (by rw [← hs]; exact s1 _ _ h2) (by omega) (ok.len f hm) ((hd.sub s1).src) hfit (by rw [← hs]; exact one_fr _)).mono ?_
        rintro _ _ ⟨rfl, rfl⟩; exact ⟨rfl, rfl⟩
      · rintro _ _ ⟨rfl, rfl⟩
        simp only [putFr', if_neg hp0]
        exact ⟨trivial, PartH.setF ok h1 h2 h3 h4 hi rfl rfl (by rw [spl_length (by rw [ok.len f hm]; exact hfit)]; exact ok.len f hm) hpn (fun e => by simp [hu] at e), PFr.set h2 notP_F⟩
/-! ## frames cleaned, emptied, filled -/
def Pt.with (s : Pt) (i : Nat) (g : Fr) : Pt := ⟨s.fr.set i g, s.hand⟩
theorem ph_Clean {H : Hp} {p : Nat} {s : Pt} (h : PartH H p s) {i : Nat} {f : Fr} (hi : s.fr[i]? = some f) : HT prog 56 #[.pointer (some ⟨p, 0, none⟩), .int .i64 (i : Int)] H
    (fun v H' => v = .int .i64 0 ∧ PartH H' p (s.with i { f with dirty := false }) ∧ PFr H H') := by
  obtain ⟨ok, fb, tb, ot, h1, h2, h3, h4⟩ := h
  refine (part_Clean h1 h2 h3 h4 rfl ok.len hi).mono ?_
  rintro _ _ ⟨rfl, rfl⟩
  have hm := List.mem_of_getElem? hi
  refine ⟨rfl, PartH.setF ok h1 h2 h3 h4 hi rfl rfl (ok.len f hm) (ok.pins f hm) (fun e => ?_), PFr.set h2 notP_F⟩
  have := ok.zero f hm e
  rw [this]; rfl
theorem Pt.Ok.zeroed {s : Pt} (h : s.Ok) (i : Nat) : (s.with i Fr.zero).Ok := by
  have hmem : ∀ x ∈ s.fr.set i Fr.zero, x ∈ s.fr ∨ x = Fr.zero := fun x hx => List.mem_or_eq_of_mem_set hx
  refine ⟨by simpa [Pt.with] using h.pos, by simpa [Pt.with] using h.most, by simpa [Pt.with] using h.hand, ?_, ?_, ?_, h.uniq.set (fun e => by cases e)⟩
  · intro x hx; rcases hmem x hx with h' | rfl <;> first | exact h.len x h' | exact by simp [Fr.zero]
  · intro x hx; rcases hmem x hx with h' | rfl <;> first | exact h.pins x h' | exact by simp [Fr.zero]
  · intro x hx hu; rcases hmem x hx with h' | rfl <;> first | exact h.zero x h' hu | exact rfl
theorem ph_Release {H : Hp} {p : Nat} {s : Pt} (h : PartH H p s) {i : Nat} {f : Fr} (hi : s.fr[i]? = some f) (hp : f.pins = 0) : HT prog 57 #[.pointer (some ⟨p, 0, none⟩), .int .i64 (i : Int)] H
    (fun v H' => v = .int .i64 0 ∧ PartH H' p (s.with i Fr.zero) ∧ PFr H H') := by
  obtain ⟨ok, fb, tb, ot, h1, h2, h3, h4⟩ := h
  refine (part_Release_all h1 h2 h3 h4 rfl ok.len ok.uniq hi hp).mono ?_
  rintro _ _ ⟨o', ho', rfl, rfl⟩
  have n1 : p ≠ fb := ne_row h1 h2 (by decide)
  have n2 : fb ≠ tb := ne_map h2 h3 h4
  have n3 : p ≠ tb := ne_map h1 h3 h4
  refine ⟨rfl, ⟨ok.zeroed i, fb, tb, o', ?_, Hp.set_same _ _ _, ?_, ho'⟩, PFr.trans (PFr.set h3 (notP_map h4)) (PFr.set (by rw [Hp.set_ne _ _ n2]; exact h2) notP_F)⟩
  · rw [Hp.set_ne _ _ n1, Hp.set_ne _ _ n3]; simpa [Pt.with] using h1
  · rw [Hp.set_ne _ _ n2.symm]; exact Hp.set_same _ _ _
theorem ph_Release_pinned {H : Hp} {p : Nat} {s : Pt} (h : PartH H p s) {i : Nat} {f : Fr} (hi : s.fr[i]? = some f) (hp : f.pins ≠ 0) : HT prog 57 #[.pointer (some ⟨p, 0, none⟩), .int .i64 (i : Int)] H (fun v H' => v = .int .i64 5 ∧ H = H') := by
  obtain ⟨ok, fb, tb, ot, h1, h2, h3, h4⟩ := h
  exact part_Release_pinned h1 h2 h3 h4 rfl ok.len hi hp
theorem ph_Load {H : Hp} {p : Nat} {s : Pt} (h : PartH H p s) {i : Nat} {f : Fr} (hi : s.fr[i]? = some f) (hz : f.used = false) {pg : Int} (hnf : findPage s.fr pg = none) {dv : Value} {d : List UInt8} (hd : d.length = 32) (hdv : dOkU H dv d) : HT prog 43 #[.pointer (some ⟨p, 0, none⟩), .int .i64 (i : Int), .int .i64 pg, dv] H
    (fun v H' => v = .int .i64 0 ∧ PartH H' p (s.with i ⟨true, false, false, 0, pg, d⟩) ∧ PFr H H') := by
  obtain ⟨ok, fb, tb, ot, h1, h2, h3, h4⟩ := h
  rcases hdv with ⟨_, h0, _⟩ | ⟨b, o, c, L, rfl, hH, hl, e, _⟩
  · rw [hd] at h0; cases h0
  rw [Nat.mul_one] at hl e
  rw [hd] at hl e ⊢
  refine (part_Load_ok h1 h2 h3 h4 rfl ok.len hi hz hnf hd hH (ne_row hH h2 (by decide)) hl e.symm).mono ?_
  rintro _ _ ⟨o', ho', rfl, rfl⟩
  have n1 : p ≠ fb := ne_row h1 h2 (by decide)
  have n2 : fb ≠ tb := ne_map h2 h3 h4
  have n3 : p ≠ tb := ne_map h1 h3 h4
  have hil := (List.getElem?_eq_some_iff.1 hi).1
  have hmem : ∀ x ∈ s.fr.set i ⟨true, false, false, 0, pg, d⟩, x ∈ s.fr ∨ x = ⟨true, false, false, 0, pg, d⟩ := fun x hx => List.mem_or_eq_of_mem_set hx
  refine ⟨rfl, ⟨?_, fb, tb, o', ?_, Hp.set_same _ _ _, ?_, ?_⟩, PFr.trans (PFr.set h3 (notP_map h4)) (PFr.set (by rw [Hp.set_ne _ _ n2]; exact h2) notP_F)⟩
  · refine ⟨by simpa [Pt.with] using ok.pos, by simpa [Pt.with] using ok.most, by simpa [Pt.with] using ok.hand, ?_, ?_, ?_, ok.uniq.set (fun _ => .inl hnf)⟩
    · intro x hx; rcases hmem x hx with h' | rfl <;> first | exact ok.len x h' | exact hd
    · intro x hx; rcases hmem x hx with h' | rfl <;> first | exact ok.pins x h' | exact by simp
    · intro x hx hu; rcases hmem x hx with h' | rfl <;> first | exact ok.zero x h' hu | exact by cases hu
  · rw [Hp.set_ne _ _ n1, Hp.set_ne _ _ n3]; simpa [Pt.with] using h1
  · rw [Hp.set_ne _ _ n2.symm]; exact Hp.set_same _ _ _
  · show MapI o' (tabF (s.fr.set i ⟨true, false, false, 0, pg, d⟩))
    rw [tabF_fill (g := ⟨true, false, false, 0, pg, d⟩) ok.uniq hil (fun k hk => by rw [hi] at hk; cases hk; exact hz) rfl hnf]
    exact ho'
/-! ## the frame that goes -/
def Pt.turn (s : Pt) : Option (Nat × Nat) × List Fl := turnFrom s.fr.length s.hand (2 * s.fr.length) 0 (s.fr.map flOf)
def Pt.victim (s : Pt) : Option Nat × Pt := (s.turn.1.map (·.1), ⟨List.zipWith putFl s.fr s.turn.2, match s.turn.1 with
  | some (v, _) => (v + 1) % s.fr.length
  | none => s.hand⟩)
theorem goesF_keeps (f : Fl) : (goesF f).2.used = f.used ∧ (goesF f).2.pins = f.pins ∧ (goesF f).2.dirty = f.dirty ∧ (f.used = false → (goesF f).2 = f) := by
  unfold goesF; split
  · exact ⟨rfl, rfl, rfl, fun _ => rfl⟩
  · split
    · exact ⟨rfl, rfl, rfl, fun e => absurd e (by assumption)⟩
    · exact ⟨rfl, rfl, rfl, fun _ => rfl⟩
theorem turnFrom_keeps (n hand : Nat) : ∀ (m k : Nat) (l : List Fl) (j : Nat) (f : Fl), l[j]? = some f → ∃ g, (turnFrom n hand m k l).2[j]? = some g ∧ g.used = f.used ∧ g.pins = f.pins ∧ g.dirty = f.dirty ∧ (f.used = false → g = f) := by
  intro m
  induction m with
  | zero => intro k l j f hf; exact ⟨f, hf, rfl, rfl, rfl, fun _ => rfl⟩
  | succ m ih =>
    intro k l j f hf
    have key : ∀ (i : Nat) (x : Fl), l[i]? = some x → ∃ g, (l.set i (goesF x).2)[j]? = some g ∧ g.used = f.used ∧ g.pins = f.pins ∧ g.dirty = f.dirty ∧ (f.used = false → g = f) := by
      intro i x hx
      have hi := (List.getElem?_eq_some_iff.1 hx).1
      by_cases e : i = j
      · subst e
        rw [hx] at hf; cases hf
        obtain ⟨a, b, c, d⟩ := goesF_keeps f
        exact ⟨(goesF f).2, by simp [hi], a, b, c, d⟩
      · exact ⟨f, by rw [List.getElem?_set_ne e]; exact hf, rfl, rfl, rfl, fun _ => rfl⟩
    simp only [turnFrom]
    split
    · exact ⟨f, hf, rfl, rfl, rfl, fun _ => rfl⟩
    · rename_i x hx
      obtain ⟨g, hg, a, b, c, d⟩ := key _ x hx
      split
      · exact ⟨g, hg, a, b, c, d⟩
      · obtain ⟨g', hg', a', b', c', d'⟩ := ih (k + 1) _ j g hg
        exact ⟨g', hg', a'.trans a, b'.trans b, c'.trans c, fun e => by rw [d' (by rw [a]; exact e), d e]⟩
theorem turn_len (s : Pt) : s.turn.2.length = s.fr.length := by unfold Pt.turn; rw [turnFrom_length]; simp
theorem victim_get {s : Pt} {j : Nat} {f : Fr} (h : s.fr[j]? = some f) : ∃ r, s.victim.2.fr[j]? = some { f with ref := r } ∧ (f.used = false → r = f.ref) := by
  obtain ⟨g, hg, a, b, c, d⟩ := turnFrom_keeps s.fr.length s.hand (2 * s.fr.length) 0 (s.fr.map flOf) j (flOf f) (by simp [h])
  refine ⟨g.ref, ?_, fun e => by rw [d e]; rfl⟩
  simp only [Pt.victim, List.getElem?_zipWith, h]
  have : s.turn.2[j]? = some g := hg
  rw [this]
  simp only [putFl, Option.some.injEq]
  obtain ⟨u, di, rf, pi⟩ := g
  simp only [flOf] at a b c
  subst a b c
  rfl
theorem victim_len (s : Pt) : s.victim.2.fr.length = s.fr.length := by simp [Pt.victim, turn_len]
theorem victim_back {s : Pt} {j : Nat} {g : Fr} (h : s.victim.2.fr[j]? = some g) : ∃ f r, s.fr[j]? = some f ∧ g = { f with ref := r } ∧ (f.used = false → r = f.ref) := by
  have hj : j < s.fr.length := by rw [← victim_len s]; exact (List.getElem?_eq_some_iff.1 h).1
  obtain ⟨f, hf⟩ : ∃ f, s.fr[j]? = some f := ⟨_, List.getElem?_eq_getElem hj⟩
  obtain ⟨r, hr, hz⟩ := victim_get hf
  rw [hr] at h; cases h
  exact ⟨f, r, hf, rfl, hz⟩
theorem victim_find (s : Pt) (pg : Int) : findPage s.victim.2.fr pg = findPage s.fr pg := by
  have key : ∀ (l l' : List Fr), l'.length = l.length → (∀ (j : Nat) (f : Fr), l[j]? = some f → ∃ g : Fr, l'[j]? = some g ∧ isPg pg g = isPg pg f) → l'.findIdx? (isPg pg) = l.findIdx? (isPg pg) := by
    intro l
    induction l with
    | nil => intro l' hl _; cases l' with
      | nil => rfl
      | cons _ _ => cases hl
    | cons a l ih =>
      intro l' hl h
      cases l' with
      | nil => cases hl
      | cons a' l' =>
        obtain ⟨g, hg, e⟩ := h 0 a rfl
        simp at hg; subst hg
        simp only [List.findIdx?_cons, e]
        rw [ih l' (by simpa using hl) (fun j f hf => by simpa using h (j + 1) f (by simpa using hf))]
  exact key s.fr s.victim.2.fr (victim_len s) (fun j f hf => by
    obtain ⟨r, hr, _⟩ := victim_get hf
    exact ⟨_, hr, rfl⟩)
theorem victim_tab (s : Pt) : tabF s.victim.2.fr = tabF s.fr := by funext pg; simp only [tabF]; rw [victim_find]
theorem turn_lt {s : Pt} (ok : s.Ok) {v q : Nat} (h : s.turn.1 = some (v, q)) : v < s.fr.length := (turnFrom_lt ok.pos _ _ _ _ _ h).1
theorem victim_ok {s : Pt} (ok : s.Ok) : s.victim.2.Ok := by
  refine ⟨by rw [victim_len]; exact ok.pos, by rw [victim_len]; exact ok.most, ?_, ?_, ?_, ?_, ?_⟩
  · rw [victim_len]
    show (match s.turn.1 with
      | some (v, _) => (v + 1) % s.fr.length
      | none => s.hand) < _
    split
    · exact Nat.mod_lt _ ok.pos
    · exact ok.hand
  · intro g hg
    obtain ⟨j, hj⟩ := List.mem_iff_getElem?.1 hg
    obtain ⟨f, r, hf, rfl, _⟩ := victim_back hj
    exact ok.len f (List.mem_of_getElem? hf)
  · intro g hg
    obtain ⟨j, hj⟩ := List.mem_iff_getElem?.1 hg
    obtain ⟨f, r, hf, rfl, _⟩ := victim_back hj
    exact ok.pins f (List.mem_of_getElem? hf)
  · intro g hg hu
    obtain ⟨j, hj⟩ := List.mem_iff_getElem?.1 hg
    obtain ⟨f, r, hf, rfl, hz⟩ := victim_back hj
    have := ok.zero f (List.mem_of_getElem? hf) hu
    rw [hz hu, ← this]
  · intro a b f g hf hg hfu hgu hp
    obtain ⟨f', r, hf', rfl, _⟩ := victim_back hf
    obtain ⟨g', r', hg', rfl, _⟩ := victim_back hg
    exact ok.uniq a b f' g' hf' hg' hfu hgu hp
theorem ph_Victim {H : Hp} {p : Nat} {s : Pt} (h : PartH H p s) : HT prog 80 #[.pointer (some ⟨p, 0, none⟩)] H
    (fun v H' => v = .tuple #[.int .i64 ((s.victim.1.getD 0 : Nat) : Int), .bool s.victim.1.isSome] ∧ PartH H' p s.victim.2 ∧ PFr H H') := by
  obtain ⟨ok, fb, tb, ot, h1, h2, h3, h4⟩ := h
  have n1 : p ≠ fb := ne_row h1 h2 (by decide)
  have n2 : fb ≠ tb := ne_map h2 h3 h4
  have n3 : p ≠ tb := ne_map h1 h3 h4
  have ok' := victim_ok ok
  have hlen := victim_len s
  have htab := victim_tab s
  have hm := ok.most
  have hh := ok.hand
  cases hq : s.turn.1 with
  | some x =>
    obtain ⟨vi, q⟩ := x
    refine (part_Victim_yes h1 h2 h3 h4 rfl ok.len ok.pos (by omega) (by omega) hq).mono ?_
    rintro _ _ ⟨rfl, rfl⟩
    have e1 : s.victim.1 = some vi := by simp [Pt.victim, hq]
    have e2 : s.victim.2.hand = (vi + 1) % s.fr.length := by simp [Pt.victim, hq]
    rw [e1]
    refine ⟨rfl, ⟨ok', fb, tb, ot, ?_, Hp.set_same _ _ _, ?_, by rw [htab]; exact h4⟩, PFr.trans (PFr.set h1 notP_P) (PFr.set (by rw [Hp.set_ne _ _ n1.symm]; exact h2) notP_F)⟩
    · rw [Hp.set_ne _ _ n1, hlen, e2]; exact Hp.set_same _ _ _
    · rw [Hp.set_ne _ _ n2.symm, Hp.set_ne _ _ n3.symm]; exact h3
  | none =>
    refine (part_Victim_no h1 h2 h3 h4 rfl ok.len ok.pos (by omega) (by omega) hq).mono ?_
    rintro _ _ ⟨rfl, rfl⟩
    have e1 : s.victim.1 = none := by simp [Pt.victim, hq]
    have e2 : s.victim.2.hand = s.hand := by simp [Pt.victim, hq]
    rw [e1]
    refine ⟨rfl, ⟨ok', fb, tb, ot, ?_, Hp.set_same _ _ _, ?_, by rw [htab]; exact h4⟩, PFr.trans (PFr.set h1 notP_P) (PFr.set (by rw [Hp.set_ne _ _ n1.symm]; exact h2) notP_F)⟩
    · rw [Hp.set_ne _ _ n1, hlen, e2]; exact Hp.set_same _ _ _
    · rw [Hp.set_ne _ _ n2.symm, Hp.set_ne _ _ n3.symm]; exact h3
def Pt.new (n : Nat) : Pt := ⟨List.replicate n Fr.zero, 0⟩
theorem new_ok {n : Nat} (h1 : 1 ≤ n) (h2 : n ≤ 64) : (Pt.new n).Ok := by
  have hm : ∀ f ∈ (Pt.new n).fr, f = Fr.zero := fun f hf => (List.mem_replicate.1 hf).2
  refine ⟨by simp [Pt.new]; omega, by simp [Pt.new]; omega, by simp [Pt.new]; omega, ?_, ?_, fun f hf _ => hm f hf, ?_⟩
  · intro f hf; rw [hm f hf]; simp [Fr.zero]
  · intro f hf; rw [hm f hf]; simp [Fr.zero]
  · intro a b f g hf _ hfu; rw [hm f (List.mem_of_getElem? hf)] at hfu; cases hfu
theorem ph_New {H : Hp} {n : Nat} (h1 : 1 ≤ n) (h2 : n ≤ 64) : HT prog 7 #[.int .i64 (n : Int)] H (fun v H' => ∃ p, v = .tuple #[.pointer (some ⟨p, 0, none⟩), .int .i64 0] ∧ PartH H' p (Pt.new n)) := by
  refine (part_New_ok h1 h2).mono ?_
  rintro _ _ ⟨p, fb, tb, ot, rfl, e1, e2, e3, e4, _⟩
  have ht : tabF (Pt.new n).fr = fun _ => none := by
    funext pg
    have : findPage (Pt.new n).fr pg = none := findPage_none_iff.2 (fun f hf => by rw [(List.mem_replicate.1 hf).2]; rfl)
    simp [tabF, this]
  exact ⟨p, rfl, new_ok h1 h2, fb, tb, ot, by simpa [Pt.new] using e1, e2, e3, by rw [ht]; exact e4⟩
end Go.Proofs.Try
