/- A part of the proofs over the tenants of a page cache: lemmas on what is known of the memory, and contracts of the Go functions. -/
import Derived.Test.YtckokpmljhhhcaaN7
set_option linter.unusedVariables false
set_option linter.unusedSimpArgs false
namespace Go.Proofs.Try
open Go Go.H
set_option linter.unusedSimpArgs false
set_option linter.unusedVariables false
set_option maxRecDepth 100000
set_option maxHeartbeats 2000000
def Ms.stop (s : Ms) : Ms := ⟨s.pt, 0, 0, [], 0, []⟩
def Ms.fin (s : Ms) (e : Int) (b : List UInt8) : Ms × Rs :=
  if e ≠ 0 then (s.stop, ⟨true, 9, false, [], [0, 0, 0, 0, 0, 1]⟩) else match s.todo with
  | [] => (s, Rs.fin 0)
  | x :: rest =>
    if x.kind = 2 ∧ x.k = 1 then match findPage s.pt.fr x.page with
      | none => (s, Rs.fin 0)
      | some i => match s.pt.fr[i]? with
        | none => (s, Rs.fin 0)
        | some f => if s.op = 1 then (⟨s.pt.with i Fr.zero, s.op, s.page, rest, s.to, s.got⟩, ⟨false, 0, false, [], [0, 0, 1, 0, 0, 0]⟩)
          else (⟨s.pt.with i { f with dirty := false }, s.op, s.page, rest, s.to, s.got⟩, ⟨false, 0, false, [], z6⟩)
    else if x.kind = 1 then
      if rest = [] then (⟨((s.pt.with s.to ⟨true, false, false, 0, s.page, s.got ++ b⟩).pin s.page).2, 0, 0, [], 0, []⟩, ⟨true, 0, false, [], z6⟩)
      else (⟨s.pt, s.op, s.page, rest, s.to, s.got ++ b⟩, ⟨false, 0, false, [], z6⟩)
    else if rest = [] then (s.stop, ⟨true, 0, false, [], z6⟩) else (⟨s.pt, s.op, s.page, rest, s.to, s.got⟩, ⟨false, 0, false, [], z6⟩)
/-- what holds between the calls -/
def MInv (s : Ms) : Prop :=
  (s.todo = [] ∧ s.got = []) ∨
  (s.op = 1 ∧ findPage s.pt.fr s.page = none ∧ ∃ f, s.pt.fr[s.to]? = some f ∧
    ((f.used = false ∧ ∃ k, k < 2 ∧ s.todo = (both 1 s.page).drop k ∧ s.got.length = 16 * k) ∨
     (f.used = true ∧ f.pins = 0 ∧ s.got = [] ∧ ∃ k, k < 2 ∧ s.todo = (both 2 f.page).drop k ++ both 1 s.page))) ∨
  (s.op ≠ 1 ∧ s.got = [] ∧ ∃ (l : List Int) (k : Nat), s.todo = (flushOf l).drop k ∧ k ≤ 2 * l.length ∧ ∀ pg ∈ l, ∃ i, findPage s.pt.fr pg = some i)
theorem stores_get : ∀ (l : List Int) (k : Nat), k < 2 * l.length → ∃ pg ∈ l, (storesOf l)[k]? = some ⟨2, pg, ((k % 2 : Nat) : Int)⟩ := by
  intro l
  induction l with
  | nil => intro k h; simp at h
  | cons a l ih =>
    intro k h
    have e : storesOf (a :: l) = ⟨2, a, 0⟩ :: ⟨2, a, 1⟩ :: storesOf l := rfl
    rw [e]
    rcases k with _ | _ | k
    · exact ⟨a, by simp, rfl⟩
    · exact ⟨a, by simp, rfl⟩
    · obtain ⟨pg, hm, hg⟩ := ih k (by simp only [List.length_cons] at h; omega)
      refine ⟨pg, by simp [hm], ?_⟩
      simp only [List.getElem?_cons_succ]
      rw [hg]; simp; omega
theorem stores_len (l : List Int) : (storesOf l).length = 2 * l.length := by
  have := flush_len l
  simp only [flushOf, List.length_append, List.length_cons, List.length_nil] at this
  omega
/-- the next step of a flush -/
theorem flush_head {l : List Int} {k : Nat} {x : Io} {rest : List Io} (h : (flushOf l).drop k = x :: rest) (hk : k ≤ 2 * l.length) :
    rest = (flushOf l).drop (k + 1) ∧ ((k < 2 * l.length ∧ rest ≠ [] ∧ ∃ pg ∈ l, x = ⟨2, pg, ((k % 2 : Nat) : Int)⟩) ∨ (k = 2 * l.length ∧ rest = [] ∧ x = ⟨3, 0, 0⟩)) := by
  have hl := flush_len l
  have hs := stores_len l
  have hx : (flushOf l)[k]? = some x := by
    have : ((flushOf l).drop k)[0]? = some x := by rw [h]; rfl
    simpa using this
  have hr : rest = (flushOf l).drop (k + 1) := by
    have : ((flushOf l).drop k).drop 1 = rest := by rw [h]; rfl
    rw [← this, List.drop_drop]
  refine ⟨hr, ?_⟩
  rcases Nat.lt_or_ge k (2 * l.length) with hlt | hge
  · left
    refine ⟨hlt, ?_, ?_⟩
    · rw [hr]
      intro e
      have := congrArg List.length e
      simp only [List.length_drop, List.length_nil] at this
      omega
    · obtain ⟨pg, hm, hg⟩ := stores_get l k hlt
      refine ⟨pg, hm, ?_⟩
      rw [flushOf, List.getElem?_append_left (by omega), hg] at hx
      exact (Option.some.inj hx).symm
  · right
    obtain rfl : k = 2 * l.length := by omega
    refine ⟨rfl, ?_, ?_⟩
    · rw [hr, List.drop_eq_nil_of_le (by omega)]
    · rw [flushOf, List.getElem?_append_right (by omega), hs, Nat.sub_self] at hx
      exact (Option.some.inj hx).symm
theorem fin_add (s : Ms) (e : Int) (b : List UInt8) : (s.fin e b).2.add.length = 6 := by
  unfold Ms.fin; repeat' split
  all_goals rfl
theorem machine_end {H : Hp} {m p : Nat} {s : Ms} {e : Int} {bv : Value} {b : List UInt8} (h : MachH H m p s) (hi : MInv s) (hne : s.todo ≠ []) (hb : e = 0 → dOkU H bv b ∧ ∀ x rest, s.todo = x :: rest → x.kind = 1 → b.length = 16) :
    HT prog 28 #[.pointer (some ⟨m, 0, none⟩), .int .i64 e, bv] H (fun v H' => v = .agg (resC (s.fin e b).2 (.slice none 0 0)).toArray ∧ (s.fin e b).2.data = [] ∧ MachH H' m p (s.fin e b).1) := by
  obtain ⟨hP, tv, gv, hm, htv, hgv, hgn⟩ := h
  obtain ⟨pt, op, page, todo, to, got⟩ := s
  simp only at *
  by_cases he : e ≠ 0
  · refine (End_err hm hP he).mono ?_
    rintro _ H' ⟨rfl, hm', hP'⟩
    have ee : Ms.fin ⟨pt, op, page, todo, to, got⟩ e b = (⟨pt, 0, 0, [], 0, []⟩, ⟨true, 9, false, [], [0, 0, 0, 0, 0, 1]⟩) := by simp [Ms.fin, he, Ms.stop]
    rw [ee]
    exact ⟨rfl, rfl, hP', _, _, hm', rdS.nil, OwnS.nil _ _ _, fun _ => rfl⟩
  obtain rfl : e = 0 := Classical.not_not.1 he
  obtain ⟨hbv, hb16⟩ := hb rfl
  obtain ⟨ba, bc, rfl⟩ := hbv.len
  cases todo with
  | nil => exact absurd rfl hne
  | cons x rest =>
    have hb17 : x.kind = 1 → b.length = 16 := fun hx => hb16 x rest rfl hx
    clear hb16
    rcases hi with ⟨h0, _⟩ | ⟨rfl, hnf, f, hf, hi⟩ | ⟨ho, rfl, l, k, htd, hk, hl⟩
    · cases h0
    · simp only at hnf hf hi
      rcases hi with ⟨hu, k, hk, htd, hgl⟩ | ⟨hu, hpn, rfl, k, hk, htd⟩
      · have : k = 0 ∨ k = 1 := by omega
        rcases this with rfl | rfl
        · have e1 : x = ⟨1, page, 0⟩ ∧ rest = [⟨1, page, 1⟩] := by simpa [both, bothTo, List.range_succ] using htd
          obtain ⟨rfl, rfl⟩ := e1
          refine (End_load hm hP htv hgv hbv (by omega) (hb17 rfl) rfl (by simp)).mono ?_
          rintro _ H' ⟨rfl, tv', gv', hm', htv', hgv', hgn', hP'⟩
          have ee : Ms.fin ⟨pt, 1, page, [⟨1, page, 0⟩, ⟨1, page, 1⟩], to, got⟩ 0 b = (⟨pt, 1, page, [⟨1, page, 1⟩], to, got ++ b⟩, ⟨false, 0, false, [], z6⟩) := by simp [Ms.fin]
          rw [ee]
          refine ⟨rfl, rfl, hP', tv', gv', hm', htv', hgv', fun e => ?_⟩
          have : got = [] := (List.append_eq_nil_iff.1 e).1
          exact hgn' e (hgn this)
        · have e1 : x = ⟨1, page, 1⟩ ∧ rest = [] := by simpa [both, bothTo, List.range_succ] using htd
          obtain ⟨rfl, rfl⟩ := e1
          refine (End_final hm hP htv hgv hbv (by omega) (hb17 rfl) rfl rfl rfl hf hu hnf (by rw [List.length_append, hgl, hb17 rfl])).mono ?_
          rintro _ H' ⟨rfl, hm', hP'⟩
          have ee : Ms.fin ⟨pt, 1, page, [⟨1, page, 1⟩], to, got⟩ 0 b = (⟨((pt.with to ⟨true, false, false, 0, page, got ++ b⟩).pin page).2, 0, 0, [], 0, []⟩, ⟨true, 0, false, [], z6⟩) := by simp [Ms.fin]
          rw [ee]
          exact ⟨rfl, rfl, hP', _, _, hm', rdS.nil, OwnS.nil _ _ _, fun _ => rfl⟩
      · have hfd := hP.1.uniq.find hf hu
        have : k = 0 ∨ k = 1 := by omega
        rcases this with rfl | rfl
        · have e1 : x = ⟨2, f.page, 0⟩ ∧ rest = ⟨2, f.page, 1⟩ :: both 1 page := by simpa [both, bothTo, List.range_succ] using htd
          obtain ⟨rfl, rfl⟩ := e1
          refine (End_other (bs := b) hm hP htv hgv (by show (2 : Int) ≠ 1; decide) (by simp) (by simp)).mono ?_
          rintro _ H' ⟨rfl, tv', gv', hm', htv', hgv', hgn', hP'⟩
          have ee : Ms.fin ⟨pt, 1, page, ⟨2, f.page, 0⟩ :: ⟨2, f.page, 1⟩ :: both 1 page, to, []⟩ 0 b = (⟨pt, 1, page, ⟨2, f.page, 1⟩ :: both 1 page, to, []⟩, ⟨false, 0, false, [], z6⟩) := by simp [Ms.fin]
          rw [ee]
          exact ⟨rfl, rfl, hP', tv', gv', hm', htv', hgv', fun e => hgn' e (hgn rfl)⟩
        · have e1 : x = ⟨2, f.page, 1⟩ ∧ rest = both 1 page := by simpa [both, bothTo, List.range_succ] using htd
          obtain ⟨rfl, rfl⟩ := e1
          refine (End_stored_yes (bs := b) hm hP htv hgv rfl rfl hfd hf rfl hpn (by simp [both, bothTo])).mono ?_
          rintro _ H' ⟨rfl, tv', gv', hm', htv', hgv', hgn', hP'⟩
          have ee : Ms.fin ⟨pt, 1, page, ⟨2, f.page, 1⟩ :: both 1 page, to, []⟩ 0 b = (⟨pt.with to Fr.zero, 1, page, both 1 page, to, []⟩, ⟨false, 0, false, [], [0, 0, 1, 0, 0, 0]⟩) := by simp [Ms.fin, hfd, hf]
          rw [ee]
          exact ⟨rfl, rfl, hP', tv', gv', hm', htv', hgv', fun e => hgn' e (hgn rfl)⟩
    · simp only at htd hl ho
      obtain ⟨_, ⟨hlt, hr, pg, hpg, rfl⟩ | ⟨rfl, rfl, rfl⟩⟩ := flush_head htd.symm hk
      · have hrl : 0 < rest.length := List.length_pos_iff.2 hr
        by_cases hk1 : k % 2 = 1
        · obtain ⟨i, hfi⟩ := hl pg hpg
          obtain ⟨f, hf, _⟩ := findPage_lt hfi
          refine (End_stored_no (bs := b) hm hP htv hgv rfl (by simp [hk1]) hfi hf ho hrl).mono ?_
          rintro _ H' ⟨rfl, tv', gv', hm', htv', hgv', hgn', hP'⟩
          have ee : Ms.fin ⟨pt, op, page, ⟨2, pg, ((k % 2 : Nat) : Int)⟩ :: rest, to, []⟩ 0 b = (⟨pt.with i { f with dirty := false }, op, page, rest, to, []⟩, ⟨false, 0, false, [], z6⟩) := by simp [Ms.fin, hk1, hfi, hf, ho]
          rw [ee]
          exact ⟨rfl, rfl, hP', tv', gv', hm', htv', hgv', fun e => hgn' e (hgn rfl)⟩
        · have hk0 : k % 2 = 0 := by omega
          refine (End_other (bs := b) hm hP htv hgv (by show (2 : Int) ≠ 1; decide) (by simp [hk0]) hrl).mono ?_
          rintro _ H' ⟨rfl, tv', gv', hm', htv', hgv', hgn', hP'⟩
          have ee : Ms.fin ⟨pt, op, page, ⟨2, pg, ((k % 2 : Nat) : Int)⟩ :: rest, to, []⟩ 0 b = (⟨pt, op, page, rest, to, []⟩, ⟨false, 0, false, [], z6⟩) := by simp [Ms.fin, hk0, hr]
          rw [ee]
          exact ⟨rfl, rfl, hP', tv', gv', hm', htv', hgv', fun e => hgn' e (hgn rfl)⟩
      · refine (End_last (bs := b) hm hP htv hgv (by show (3 : Int) ≠ 1; decide) (by simp) rfl ho).mono ?_
        rintro _ H' ⟨rfl, hm', hP'⟩
        have ee : Ms.fin ⟨pt, op, page, [⟨3, 0, 0⟩], to, []⟩ 0 b = (⟨pt, 0, 0, [], 0, []⟩, ⟨true, 0, false, [], z6⟩) := by simp [Ms.fin, Ms.stop]
        rw [ee]
        exact ⟨rfl, rfl, hP', _, _, hm', rdS.nil, OwnS.nil _ _ _, fun _ => rfl⟩
/-! ## what holds stays -/
theorem MInv.idle {s : Ms} (h1 : s.todo = []) (h2 : s.got = []) : MInv s := .inl ⟨h1, h2⟩
theorem dirtyPg_found {s : Pt} (ok : s.Ok) {pg : Int} : ∀ x ∈ dirtyPg s.fr pg, ∃ i, findPage s.fr x = some i := by
  intro x hx
  simp only [dirtyPg, List.mem_map, List.mem_filter] at hx
  obtain ⟨f, ⟨hf, hd⟩, rfl⟩ := hx
  obtain ⟨i, hi⟩ := List.mem_iff_getElem?.1 hf
  have hu : f.used = true := by
    cases hu : f.used with
    | true => rfl
    | false =>
      have := ok.zero f hf hu
      rw [this] at hd
      simp [Fr.zero] at hd
  exact ⟨i, ok.uniq.find hi hu⟩
theorem find_zero {s : Pt} (ok : s.Ok) {i : Nat} {f : Fr} (hf : s.fr[i]? = some f) {pg : Int} (h : findPage s.fr pg = none) : findPage (s.fr.set i Fr.zero) pg = none := by
  have ht := congrFun (tabF_zero ok.uniq hf) pg
  have h3 : tabF s.fr pg = none := by simp [tabF, h]
  split at ht
  · simp only [upd] at ht
    rw [h3] at ht
    simp only [tabF, ite_self] at ht
    simpa using ht
  · rw [h3] at ht
    simpa [tabF] using ht
theorem begin_inv {s : Ms} {r : Rv} (ok : s.pt.Ok) (ht : s.todo = []) (hg : s.got = []) : MInv (s.begin r).1 := by
  obtain ⟨pt, sop, spg, todo, to, got⟩ := s
  obtain ⟨op, page, off, len, data⟩ := r
  simp only at ht hg ok
  subst ht hg
  by_cases h1 : op = 1
  · subst h1
    cases hf : findPage pt.fr page with
    | some i =>
      simp only [Ms.begin, if_true, hf]
      split <;> exact .inl ⟨rfl, rfl⟩
    | none =>
      cases hv : pt.victim.1 with
      | none =>
        simp only [Ms.begin, if_true, hf, hv]
        exact .inl ⟨rfl, rfl⟩
      | some i =>
        obtain ⟨f, hfi, hpn⟩ := victim_free ok hv
        have hil : i < pt.victim.2.fr.length := (List.getElem?_eq_some_iff.1 hfi).1
        have h0 : findPage pt.victim.2.fr page = none := by rw [victim_find]; exact hf
        cases hud : (f.used && !f.dirty) with
        | true =>
          have e : Ms.begin ⟨pt, sop, spg, [], to, []⟩ ⟨1, page, off, len, data⟩ = (⟨pt.victim.2.with i Fr.zero, 1, page, fetchOf page f.dirty f.page, i, []⟩, ⟨false, 0, false, [], [0, 1, 1, 0, 0, 0]⟩) := by
            simp only [Ms.begin, hf, hv, hfi, hud, if_true]
          rw [e]
          simp only [Bool.and_eq_true, Bool.not_eq_true'] at hud
          exact .inr (.inl ⟨rfl, find_zero (victim_ok ok) hfi h0, Fr.zero, by simp [Pt.with, hil], .inl ⟨rfl, 0, by omega, by simp [fetchOf, hud.2], rfl⟩⟩)
        | false =>
          have e : Ms.begin ⟨pt, sop, spg, [], to, []⟩ ⟨1, page, off, len, data⟩ = (⟨pt.victim.2, 1, page, fetchOf page f.dirty f.page, i, []⟩, ⟨false, 0, false, [], [0, 1, 0, 0, 0, 0]⟩) := by
            simp only [Ms.begin, hf, hv, hfi, hud, if_true, Bool.false_eq_true, if_false]
          rw [e]
          refine .inr (.inl ⟨rfl, h0, f, hfi, ?_⟩)
          cases hu : f.used with
          | false =>
            left
            have := (victim_ok ok).zero f (List.mem_of_getElem? hfi) hu
            exact ⟨rfl, 0, by omega, by simp [fetchOf, this, Fr.zero], rfl⟩
          | true =>
            right
            have hd : f.dirty = true := by simpa [hu] using hud
            exact ⟨rfl, hpn, rfl, 0, by omega, by simp [fetchOf, hd]⟩
  · simp only [Ms.begin, if_neg h1]
    by_cases h5 : op = 5
    · subst h5
      simp
      exact .inr (.inr ⟨h1, rfl, dirtyPg pt.fr page, 0, rfl, by omega, dirtyPg_found ok⟩)
    · by_cases h6 : op = 6
      · subst h6
        simp
        exact .inr (.inr ⟨h1, rfl, dirtyPg pt.fr (-1), 0, rfl, by omega, dirtyPg_found ok⟩)
      · simp only [if_neg h5, if_neg h6]
        repeat' split
        all_goals exact .inl ⟨rfl, rfl⟩
theorem fin_inv {s : Ms} {e : Int} {b : List UInt8} (ok : s.pt.Ok) (h : MInv s) (hb : e = 0 → ∀ x rest, s.todo = x :: rest → x.kind = 1 → b.length = 16) : MInv (s.fin e b).1 := by
  obtain ⟨pt, op, page, todo, to, got⟩ := s
  simp only at ok hb
  by_cases he : e ≠ 0
  · simp only [Ms.fin, ne_eq, he, not_false_eq_true, if_true]; exact .inl ⟨rfl, rfl⟩
  obtain rfl : e = 0 := Classical.not_not.1 he
  have hb := hb rfl
  rcases h with ⟨h1, h2⟩ | ⟨ho, hnf, f, hf, hi⟩ | ⟨ho, hg, l, k, htd, hk, hl⟩
  · simp only at h1 h2; subst h1 h2
    exact .inl ⟨rfl, rfl⟩
  · simp only at ho hnf hf hi; subst ho
    rcases hi with ⟨hu, k, hk, htd, hgl⟩ | ⟨hu, hpn, rfl, k, hk, htd⟩
    · have : k = 0 ∨ k = 1 := by omega
      rcases this with rfl | rfl
      · have e1 : todo = [⟨1, page, 0⟩, ⟨1, page, 1⟩] := by simpa [both, bothTo, List.range_succ] using htd
        subst e1
        have h16 := hb _ _ rfl rfl
        have ee : Ms.fin ⟨pt, 1, page, [⟨1, page, 0⟩, ⟨1, page, 1⟩], to, got⟩ 0 b = (⟨pt, 1, page, [⟨1, page, 1⟩], to, got ++ b⟩, ⟨false, 0, false, [], z6⟩) := by simp [Ms.fin]
        rw [ee]
        exact .inr (.inl ⟨rfl, hnf, f, hf, .inl ⟨hu, 1, by omega, by simp [both, bothTo, List.range_succ], by simp [hgl, h16]⟩⟩)
      · have e1 : todo = [⟨1, page, 1⟩] := by simpa [both, bothTo, List.range_succ] using htd
        subst e1
        have ee : Ms.fin ⟨pt, 1, page, [⟨1, page, 1⟩], to, got⟩ 0 b = (⟨((pt.with to ⟨true, false, false, 0, page, got ++ b⟩).pin page).2, 0, 0, [], 0, []⟩, ⟨true, 0, false, [], z6⟩) := by simp [Ms.fin]
        rw [ee]
        exact .inl ⟨rfl, rfl⟩
    · have hfd := ok.uniq.find hf hu
      have : k = 0 ∨ k = 1 := by omega
      rcases this with rfl | rfl
      · have e1 : todo = ⟨2, f.page, 0⟩ :: ⟨2, f.page, 1⟩ :: both 1 page := by simpa [both, bothTo, List.range_succ] using htd
        subst e1
        have ee : Ms.fin ⟨pt, 1, page, ⟨2, f.page, 0⟩ :: ⟨2, f.page, 1⟩ :: both 1 page, to, []⟩ 0 b = (⟨pt, 1, page, ⟨2, f.page, 1⟩ :: both 1 page, to, []⟩, ⟨false, 0, false, [], z6⟩) := by simp [Ms.fin]
        rw [ee]
        exact .inr (.inl ⟨rfl, hnf, f, hf, .inr ⟨hu, hpn, rfl, 1, by omega, by simp [both, bothTo, List.range_succ]⟩⟩)
      · have e1 : todo = ⟨2, f.page, 1⟩ :: both 1 page := by simpa [both, bothTo, List.range_succ] using htd
        subst e1
        have ee : Ms.fin ⟨pt, 1, page, ⟨2, f.page, 1⟩ :: both 1 page, to, []⟩ 0 b = (⟨pt.with to Fr.zero, 1, page, both 1 page, to, []⟩, ⟨false, 0, false, [], [0, 0, 1, 0, 0, 0]⟩) := by simp [Ms.fin, hfd, hf]
        rw [ee]
        have hil := (List.getElem?_eq_some_iff.1 hf).1
        exact .inr (.inl ⟨rfl, find_zero ok hf hnf, Fr.zero, by simp [Pt.with, hil], .inl ⟨rfl, 0, by omega, rfl, rfl⟩⟩)
  · simp only at ho hg htd hl; subst hg
    cases htd2 : todo with
    | nil =>
      subst htd2
      exact .inl ⟨rfl, rfl⟩
    | cons x rest =>
      subst htd2
      obtain ⟨hr0, ⟨hlt, hr, pg, hpg, rfl⟩ | ⟨rfl, rfl, rfl⟩⟩ := flush_head htd.symm hk
      · by_cases hk1 : k % 2 = 1
        · obtain ⟨i, hfi⟩ := hl pg hpg
          obtain ⟨f, hf, _⟩ := findPage_lt hfi
          have ee : Ms.fin ⟨pt, op, page, ⟨2, pg, ((k % 2 : Nat) : Int)⟩ :: rest, to, []⟩ 0 b = (⟨pt.with i { f with dirty := false }, op, page, rest, to, []⟩, ⟨false, 0, false, [], z6⟩) := by simp [Ms.fin, hk1, hfi, hf, ho]
          rw [ee]
          refine .inr (.inr ⟨ho, rfl, l, k + 1, hr0, by omega, fun q hq => ?_⟩)
          obtain ⟨j, hj⟩ := hl q hq
          exact ⟨j, by rw [← hj]; exact findPage_set_same (g := { f with dirty := false }) hf rfl rfl q⟩
        · have hk0 : k % 2 = 0 := by omega
          have ee : Ms.fin ⟨pt, op, page, ⟨2, pg, ((k % 2 : Nat) : Int)⟩ :: rest, to, []⟩ 0 b = (⟨pt, op, page, rest, to, []⟩, ⟨false, 0, false, [], z6⟩) := by simp [Ms.fin, hk0, hr]
          rw [ee]
          exact .inr (.inr ⟨ho, rfl, l, k + 1, hr0, by omega, hl⟩)
      · have ee : Ms.fin ⟨pt, op, page, [⟨3, 0, 0⟩], to, []⟩ 0 b = (⟨pt, 0, 0, [], 0, []⟩, ⟨true, 0, false, [], z6⟩) := by simp [Ms.fin, Ms.stop]
        rw [ee]
        exact .inl ⟨rfl, rfl⟩
end Go.Proofs.Try
