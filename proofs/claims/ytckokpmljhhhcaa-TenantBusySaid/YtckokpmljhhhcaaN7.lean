/- A part of the proofs over the tenants of a page cache: lemmas on what is known of the memory, and contracts of the Go functions. -/
import Derived.Test.YtckokpmljhhhcaaN6
set_option linter.unusedVariables false
set_option linter.unusedSimpArgs false
namespace Go.Proofs.Try
open Go Go.H
set_option linter.unusedSimpArgs false
set_option linter.unusedVariables false
set_option maxRecDepth 100000
set_option maxHeartbeats 2000000
/-- a request, as plain data -/
structure Rv where
  op : Int
  page : Int
  off : Nat
  len : Nat
  data : List UInt8
structure Rv.Ok (r : Rv) : Prop where
  lo : 1 ≤ r.op
  hi : r.op ≤ 8
  fit : r.off + r.len ≤ 32
  fitd : r.off + r.data.length ≤ 32
def rvc (r : Rv) (dv : Value) : List Value := [.int .i64 r.op, .int .i64 r.page, .int .i64 (r.off : Int), .int .i64 (r.len : Int), dv]
def Ms.begin (s : Ms) (r : Rv) : Ms × Rs :=
  if r.op = 1 then match findPage s.pt.fr r.page with
    | some _ => if (s.pt.pin r.page).1 ≠ 0 then (⟨(s.pt.pin r.page).2, r.op, r.page, s.todo, s.to, s.got⟩, Rs.fin (s.pt.pin r.page).1) else (⟨(s.pt.pin r.page).2, r.op, r.page, s.todo, s.to, s.got⟩, ⟨true, 0, true, [], [1, 0, 0, 0, 0, 0]⟩)
    | none => match s.pt.victim.1 with
      | none => (⟨s.pt.victim.2, r.op, r.page, s.todo, s.to, s.got⟩, ⟨true, 7, false, [], [0, 1, 0, 0, 0, 0]⟩)
      | some i => match s.pt.victim.2.fr[i]? with
        | none => (s, Rs.fin 0)
        | some f => if (f.used && !f.dirty) = true then (⟨s.pt.victim.2.with i Fr.zero, r.op, r.page, fetchOf r.page f.dirty f.page, i, s.got⟩, ⟨false, 0, false, [], [0, 1, 1, 0, 0, 0]⟩)
          else (⟨s.pt.victim.2, r.op, r.page, fetchOf r.page f.dirty f.page, i, s.got⟩, ⟨false, 0, false, [], [0, 1, 0, 0, 0, 0]⟩)
  else if r.op = 2 then
    if (s.pt.get r.page).1 ≠ 0 then (⟨(s.pt.get r.page).2, r.op, r.page, s.todo, s.to, s.got⟩, Rs.fin (s.pt.get r.page).1) else (⟨(s.pt.get r.page).2, r.op, r.page, s.todo, s.to, s.got⟩, ⟨true, 0, false, s.pt.bytes r.page r.off r.len, [0, 0, 0, 1, 0, 0]⟩)
  else if r.op = 3 then
    if (s.pt.put r.page r.off r.data).1 ≠ 0 then (⟨(s.pt.put r.page r.off r.data).2, r.op, r.page, s.todo, s.to, s.got⟩, Rs.fin (s.pt.put r.page r.off r.data).1) else (⟨(s.pt.put r.page r.off r.data).2, r.op, r.page, s.todo, s.to, s.got⟩, ⟨true, 0, false, [], [0, 0, 0, 0, 1, 0]⟩)
  else if r.op = 4 then (⟨(s.pt.unpin r.page).2, r.op, r.page, s.todo, s.to, s.got⟩, Rs.fin (s.pt.unpin r.page).1)
  else if r.op = 5 then (⟨s.pt, r.op, r.page, flushOf (dirtyPg s.pt.fr r.page), s.to, s.got⟩, ⟨false, 0, false, [], z6⟩)
  else if r.op = 6 then (⟨s.pt, r.op, r.page, flushOf (dirtyPg s.pt.fr (-1)), s.to, s.got⟩, ⟨false, 0, false, [], z6⟩)
  else if r.op = 7 then match findPage s.pt.fr r.page with
    | none => (⟨s.pt, r.op, r.page, s.todo, s.to, s.got⟩, Rs.fin 0)
    | some i => match s.pt.fr[i]? with
      | none => (s, Rs.fin 0)
      | some f => if f.pins = 0 then (⟨s.pt.with i Fr.zero, r.op, r.page, s.todo, s.to, s.got⟩, Rs.fin 0) else (⟨s.pt, r.op, r.page, s.todo, s.to, s.got⟩, Rs.fin 5)
  else (⟨s.pt, r.op, r.page, s.todo, s.to, s.got⟩, Rs.fin 0)
/-- bytes stay -/
def UFr (H H' : Hp) : Prop := ∀ b L, H b = some (row L 5) → H' b = some (row L 5)
def isU : Obj → Bool
  | .cells _ T z => T == 5 && z == (0, 0)
  | _ => false
theorem isU_row {L : List Value} {T : TypeId} : isU (row L T) = (T == 5) := by simp [isU, row]
def noU (H : Hp) : Hp := H.filt fun o => !isU o
theorem noU_sub (H : Hp) : Sub (noU H) H := Hp.filt_sub _ _
theorem noU_get {H : Hp} {b : Nat} {L : List Value} {T : TypeId} (h : H b = some (row L T)) (n : T ≠ 5) : (noU H) b = some (row L T) := Hp.filt_get h (by rw [isU_row]; simpa using n)
theorem noU_map {H : Hp} {b : Nat} {o : Obj} {f : Int → Option Value} (h : H b = some o) (hm : MapI o f) : (noU H) b = some o := by
  obtain ⟨es, ck, rfl, _⟩ := hm.ex
  exact Hp.filt_get h rfl
theorem noU_none {H : Hp} {b : Nat} {L : List Value} (h : H b = some (row L 5)) : (noU H) b = none := Hp.filt_none h (by rw [isU_row]; rfl)
theorem PartH.noU {H : Hp} {p : Nat} {s : Pt} (h : PartH H p s) : PartH (noU H) p s := by
  obtain ⟨ok, fb, tb, ot, h1, h2, h3, h4⟩ := h
  exact ⟨ok, fb, tb, ot, noU_get h1 (by decide), noU_get h2 (by decide), noU_map h3 h4, h4⟩
def MRes (m p : Nat) (x : Ms × Rs) (v : Value) (H' : Hp) : Prop := ∃ dv, v = .agg (resC x.2 dv).toArray ∧ dOkU H' dv x.2.data ∧ MachH H' m p x.1
theorem resC_ok {r : Rs} {dv : Value} {a : Option Addr} {n c : Nat} (h : r.add.length = 6) (hd : dv = .slice a n c) : (resC r dv).length = 18 ∧ ∀ x ∈ resC r dv, x.oneCell' = true := by
  subst hd
  refine ⟨by simp [resC, cnc, h, z6], fun x hx => ?_⟩
  simp only [resC, List.mem_cons, List.mem_append] at hx
  rcases hx with rfl | rfl | rfl | rfl | rfl | rfl | hx | hx <;> first | rfl | exact one_cnc _ x hx
theorem begin_add (s : Ms) (r : Rv) : (s.begin r).2.add.length = 6 := by
  unfold Ms.begin; repeat' split
  all_goals rfl
theorem MRes.ok {m p : Nat} {x : Ms × Rs} {v : Value} {H' : Hp} (h : MRes m p x v H') (hx : x.2.add.length = 6) : ∃ vs : List Value, v = .agg vs.toArray ∧ vs.length = 18 ∧ ∀ x ∈ vs, x.oneCell' = true := by
  obtain ⟨dv, rfl, hd, _⟩ := h
  obtain ⟨a, c, e⟩ := hd.len
  obtain ⟨h1, h2⟩ := resC_ok hx e
  exact ⟨_, rfl, h1, h2⟩
/-- the frame that goes is not pinned -/
theorem turnFrom_free (n hand : Nat) : ∀ (m k : Nat) (l : List Fl) (v q : Nat), (turnFrom n hand m k l).1 = some (v, q) → ∃ f, (turnFrom n hand m k l).2[v]? = some f ∧ (f.used = false ∨ f.pins = 0) := by
  intro m
  induction m with
  | zero => intro k l v q h; cases h
  | succ m ih =>
    intro k l v q h
    simp only [turnFrom] at h ⊢
    cases hl : l[(hand + k) % n]? with
    | none => simp only [hl] at h; cases h
    | some f =>
      simp only [hl] at h ⊢
      have hi := (List.getElem?_eq_some_iff.1 hl).1
      by_cases hg : (goesF f).1 = true
      · rw [if_pos hg] at h ⊢
        simp only [Option.some.injEq, Prod.mk.injEq] at h
        obtain ⟨rfl, rfl⟩ := h
        refine ⟨(goesF f).2, by simp [hi], ?_⟩
        obtain ⟨a, b, _⟩ := goesF_keeps f
        rw [a, b]
        unfold goesF at hg
        split at hg
        · exact .inl (by assumption)
        · split at hg
          · exact .inr (by assumption)
          · cases hg
      · rw [if_neg hg] at h ⊢
        exact ih _ _ _ _ h
theorem victim_free {s : Pt} (ok : s.Ok) {i : Nat} (h : s.victim.1 = some i) : ∃ f, s.victim.2.fr[i]? = some f ∧ f.pins = 0 := by
  simp only [Pt.victim, Option.map_eq_some_iff] at h
  obtain ⟨⟨v, q⟩, hq, rfl⟩ := h
  obtain ⟨g, hg, hf⟩ := turnFrom_free _ _ _ _ _ _ _ hq
  have hv := turn_lt ok hq
  obtain ⟨f, hfr⟩ : ∃ f, s.fr[v]? = some f := ⟨_, List.getElem?_eq_getElem hv⟩
  refine ⟨putFl f g, ?_, ?_⟩
  · simp only [Pt.victim, List.getElem?_zipWith, hfr]
    have : s.turn.2[v]? = some g := hg
    rw [this]
  · obtain ⟨g', hg', a, b, _⟩ := turnFrom_keeps s.fr.length s.hand (2 * s.fr.length) 0 (s.fr.map flOf) v (flOf f) (by simp [hfr])
    rw [hg] at hg'; cases hg'
    show g.pins = 0
    rcases hf with h0 | h0
    · rw [a] at h0
      have := ok.zero f (List.mem_of_getElem? hfr) h0
      rw [b, this]; rfl
    · exact h0
theorem machine_begin {H : Hp} {m p : Nat} {s : Ms} {r : Rv} {dv : Value} (h : MachH H m p s) (ht : s.todo = []) (hg : s.got = []) (hr : r.Ok) (hd : dOkU H dv r.data) :
    HT prog 37 #[.pointer (some ⟨m, 0, none⟩), .agg (rvc r dv).toArray] H (fun v H' => MRes m p (s.begin r) v H' ∧ UFr H H') := by
  obtain ⟨pt, sop, spg, todo, to, got⟩ := s
  obtain ⟨op, page, off, len, data⟩ := r
  obtain ⟨lo, hi, fit, fitd⟩ := hr
  obtain ⟨hP, tv, gv, hm, htv, hgv, hgn⟩ := h
  simp only at *
  subst ht hg
  obtain rfl := hgn rfl
  obtain ⟨da, dc, rfl⟩ := hd.len
  have hQ : ∀ x : Ms × Rs, x.2.add.length = 6 → ∀ v H', (MRes m p x v H' ∧ UFr H H') → ∃ vs : List Value, v = .agg vs.toArray ∧ vs.length = 18 ∧ ∀ x ∈ vs, x.oneCell' = true := fun x hx v H' h => h.1.ok hx
  have hadd := begin_add ⟨pt, sop, spg, [], to, []⟩ ⟨op, page, off, len, data⟩
  have lift : ∀ {H2 : Hp}, Sub (H.set m (row [.pointer (some ⟨p, 0, none⟩), .int .i64 op, .int .i64 page, tv, .int .i64 (to : Int), .slice none 0 0] 86)) H2 → H2 m = some (row [.pointer (some ⟨p, 0, none⟩), .int .i64 op, .int .i64 page, tv, .int .i64 (to : Int), .slice none 0 0] 86) ∧ PartH H2 p pt ∧ dOkU H2 (.slice da data.length dc) data ∧ rdS H2 tv 0 [] 106 3 ∧ UFr H H2 := fun s2 =>
    ⟨s2 _ _ (Hp.set_same _ _ _), (PartH.upd hP hm npOf).sub s2, rdS.sub (rdS.upd hd hm (by decide)) s2, rdS.sub (rdS.upd htv hm (by decide)) s2, fun b L hb => s2 _ _ (by rw [Hp.set_ne _ _ (ne_row hb hm (by decide))]; exact hb)⟩
  have mk : ∀ {H2 H' : Hp} {pt' : Pt}, H2 m = some (row [.pointer (some ⟨p, 0, none⟩), .int .i64 op, .int .i64 page, tv, .int .i64 (to : Int), .slice none 0 0] 86) → rdS H2 tv 0 [] 106 3 → PFr H2 H' → PartH H' p pt' → MachH H' m p ⟨pt', op, page, [], to, []⟩ := fun hm2 hrd f hP' =>
    ⟨hP', tv, _, f.keep hm2, rdS.fr hrd f, OwnS.nil _ _ _, fun _ => rfl⟩
  have hop : op = 1 ∨ op = 2 ∨ op = 3 ∨ op = 4 ∨ op = 5 ∨ op = 6 ∨ op = 7 ∨ op = 8 := by omega
  rcases hop with rfl | rfl | rfl | rfl | rfl | rfl | rfl | rfl
  · refine Begin_q (g := 63) hm (fun bx => opsF_1 m bx) (fun bx H2 s2 hbx => ?_) (hQ _ hadd)
    obtain ⟨hm2, hP2, hd2, hr2, u2⟩ := lift s2
    simp only [nf]
    cases hf : findPage pt.fr page with
    | some i =>
      by_cases he : (pt.pin page).1 = 0
      · refine (fetch_hit_ok hm2 hP2 hf he).mono ?_
        rintro _ H' ⟨rfl, hP', f⟩
        have e : Ms.begin ⟨pt, sop, spg, [], to, []⟩ ⟨1, page, off, len, data⟩ = (⟨(pt.pin page).2, 1, page, [], to, []⟩, ⟨true, 0, true, [], [1, 0, 0, 0, 0, 0]⟩) := by simp [Ms.begin, hf, he]
        rw [e]
        exact ⟨⟨_, rfl, dOkU.nil, mk hm2 hr2 f hP'⟩, fun b L hb => f.keep (u2 b L hb)⟩
      · refine (fetch_hit_no hm2 hP2 hf he).mono ?_
        rintro _ H' ⟨rfl, hP', f⟩
        have e : Ms.begin ⟨pt, sop, spg, [], to, []⟩ ⟨1, page, off, len, data⟩ = (⟨(pt.pin page).2, 1, page, [], to, []⟩, Rs.fin (pt.pin page).1) := by simp [Ms.begin, hf, he]
        rw [e]
        exact ⟨⟨_, rfl, dOkU.nil, mk hm2 hr2 f hP'⟩, fun b L hb => f.keep (u2 b L hb)⟩
    | none =>
      cases hv : pt.victim.1 with
      | none =>
        refine (fetch_none hm2 hP2 hf hv).mono ?_
        rintro _ H' ⟨rfl, hP', f⟩
        have e : Ms.begin ⟨pt, sop, spg, [], to, []⟩ ⟨1, page, off, len, data⟩ = (⟨pt.victim.2, 1, page, [], to, []⟩, ⟨true, 7, false, [], [0, 1, 0, 0, 0, 0]⟩) := by simp [Ms.begin, hf, hv]
        rw [e]
        exact ⟨⟨_, rfl, dOkU.nil, mk hm2 hr2 f hP'⟩, fun b L hb => f.keep (u2 b L hb)⟩
      | some i =>
        obtain ⟨f, hfi, hpn⟩ := victim_free hP.1 hv
        cases hud : (f.used && !f.dirty) with
        | true =>
          refine (HT.frame (noU_sub H2) (fetch_clean (noU_get hm2 (by decide)) hP2.noU hf hv hfi hud hpn)).mono ?_
          rintro _ H' ⟨Hx, ⟨rfl, tv', hm', hr', hP'⟩, sx, fx⟩
          have e : Ms.begin ⟨pt, sop, spg, [], to, []⟩ ⟨1, page, off, len, data⟩ = (⟨pt.victim.2.with i Fr.zero, 1, page, fetchOf page f.dirty f.page, i, []⟩, ⟨false, 0, false, [], [0, 1, 1, 0, 0, 0]⟩) := by
            simp only [Ms.begin, hf, hv, hfi, hud, if_true]
          rw [e]
          exact ⟨⟨_, rfl, dOkU.nil, hP'.sub sx, tv', _, sx _ _ hm', hr'.sub sx, OwnS.nil _ _ _, fun _ => rfl⟩, fun b L hb => (fx b _ (noU_none (u2 b L hb)) (u2 b L hb)).2⟩
        | false =>
          refine (HT.frame (noU_sub H2) (fetch_other (noU_get hm2 (by decide)) hP2.noU hf hv hfi hud)).mono ?_
          rintro _ H' ⟨Hx, ⟨rfl, tv', hm', hr', hP'⟩, sx, fx⟩
          have e : Ms.begin ⟨pt, sop, spg, [], to, []⟩ ⟨1, page, off, len, data⟩ = (⟨pt.victim.2, 1, page, fetchOf page f.dirty f.page, i, []⟩, ⟨false, 0, false, [], [0, 1, 0, 0, 0, 0]⟩) := by
            simp only [Ms.begin, hf, hv, hfi, hud, if_true, Bool.false_eq_true, if_false]
          rw [e]
          exact ⟨⟨_, rfl, dOkU.nil, hP'.sub sx, tv', _, sx _ _ hm', hr'.sub sx, OwnS.nil _ _ _, fun _ => rfl⟩, fun b L hb => (fx b _ (noU_none (u2 b L hb)) (u2 b L hb)).2⟩
  · refine Begin_q (g := 64) (fs := #[]) (cs := fun bx => #[.pointer (some ⟨bx, 0, none⟩)]) hm (fun bx => opsF_2 m bx) (fun bx H2 s2 hbx => ?_) (hQ _ hadd)
    obtain ⟨hm2, hP2, hd2, hr2, u2⟩ := lift s2
    simp only [nf]
    by_cases he : (pt.get page).1 = 0
    · refine (ops_read_ok hm2 hP2 hbx fit he).mono ?_
      rintro _ H' ⟨dv', rfl, hdv, hP', f⟩
      have e : Ms.begin ⟨pt, sop, spg, [], to, []⟩ ⟨2, page, off, len, data⟩ = (⟨(pt.get page).2, 2, page, [], to, []⟩, ⟨true, 0, false, pt.bytes page off len, [0, 0, 0, 1, 0, 0]⟩) := by simp [Ms.begin, he]
      rw [e]
      exact ⟨⟨_, rfl, hdv, mk hm2 hr2 f hP'⟩, fun b L hb => f.keep (u2 b L hb)⟩
    · refine (ops_read_no hm2 hP2 hbx fit he).mono ?_
      rintro _ H' ⟨rfl, hP', f⟩
      have e : Ms.begin ⟨pt, sop, spg, [], to, []⟩ ⟨2, page, off, len, data⟩ = (⟨(pt.get page).2, 2, page, [], to, []⟩, Rs.fin (pt.get page).1) := by simp [Ms.begin, he]
      rw [e]
      exact ⟨⟨_, rfl, dOkU.nil, mk hm2 hr2 f hP'⟩, fun b L hb => f.keep (u2 b L hb)⟩
  · refine Begin_q (g := 67) (fs := #[]) (cs := fun bx => #[.pointer (some ⟨bx, 0, none⟩)]) hm (fun bx => opsF_3 m bx) (fun bx H2 s2 hbx => ?_) (hQ _ hadd)
    obtain ⟨hm2, hP2, hd2, hr2, u2⟩ := lift s2
    simp only [nf]
    by_cases he : (pt.put page off data).1 = 0
    · refine (ops_write_ok hm2 hP2 hbx hd2 fitd he).mono ?_
      rintro _ H' ⟨rfl, hP', f⟩
      have e : Ms.begin ⟨pt, sop, spg, [], to, []⟩ ⟨3, page, off, len, data⟩ = (⟨(pt.put page off data).2, 3, page, [], to, []⟩, ⟨true, 0, false, [], [0, 0, 0, 0, 1, 0]⟩) := by simp [Ms.begin, he]
      rw [e]
      exact ⟨⟨_, rfl, dOkU.nil, mk hm2 hr2 f hP'⟩, fun b L hb => f.keep (u2 b L hb)⟩
    · refine (ops_write_no hm2 hP2 hbx hd2 fitd he).mono ?_
      rintro _ H' ⟨rfl, hP', f⟩
      have e : Ms.begin ⟨pt, sop, spg, [], to, []⟩ ⟨3, page, off, len, data⟩ = (⟨(pt.put page off data).2, 3, page, [], to, []⟩, Rs.fin (pt.put page off data).1) := by simp [Ms.begin, he]
      rw [e]
      exact ⟨⟨_, rfl, dOkU.nil, mk hm2 hr2 f hP'⟩, fun b L hb => f.keep (u2 b L hb)⟩
  · refine Begin_q (g := 69) (fs := #[]) (cs := fun bx => #[.pointer (some ⟨bx, 0, none⟩)]) hm (fun bx => opsF_4 m bx) (fun bx H2 s2 hbx => ?_) (hQ _ hadd)
    obtain ⟨hm2, hP2, hd2, hr2, u2⟩ := lift s2
    simp only [nf]
    refine (ops_unpin hm2 hP2 hbx).mono ?_
    rintro _ H' ⟨rfl, hP', f⟩
    exact ⟨⟨_, rfl, dOkU.nil, mk hm2 hr2 f hP'⟩, fun b L hb => f.keep (u2 b L hb)⟩
  · refine Begin_q (g := 71) (fs := #[]) (cs := fun bx => #[.pointer (some ⟨bx, 0, none⟩)]) hm (fun bx => opsF_5 m bx) (fun bx H2 s2 hbx => ?_) (hQ _ hadd)
    obtain ⟨hm2, hP2, hd2, hr2, u2⟩ := lift s2
    simp only [nf]
    refine (HT.frame (noU_sub H2) (ops_flush (noU_get hm2 (by decide)) hP2.noU (noU_get hbx (by decide)))).mono ?_
    rintro _ H' ⟨Hx, ⟨rfl, tv', hm', hr', hP'⟩, sx, fx⟩
    exact ⟨⟨_, rfl, dOkU.nil, hP'.sub sx, tv', _, sx _ _ hm', hr'.sub sx, OwnS.nil _ _ _, fun _ => rfl⟩, fun b L hb => (fx b _ (noU_none (u2 b L hb)) (u2 b L hb)).2⟩
  · refine Begin_q (g := 73) (fs := #[]) (cs := fun bx => #[.pointer (some ⟨bx, 0, none⟩)]) hm (fun bx => opsF_6 m bx) (fun bx H2 s2 hbx => ?_) (hQ _ hadd)
    obtain ⟨hm2, hP2, hd2, hr2, u2⟩ := lift s2
    simp only [nf]
    refine (HT.frame (noU_sub H2) (ops_flushall (noU_get hm2 (by decide)) hP2.noU (noU_get hbx (by decide)))).mono ?_
    rintro _ H' ⟨Hx, ⟨rfl, tv', hm', hr', hP'⟩, sx, fx⟩
    exact ⟨⟨_, rfl, dOkU.nil, hP'.sub sx, tv', _, sx _ _ hm', hr'.sub sx, OwnS.nil _ _ _, fun _ => rfl⟩, fun b L hb => (fx b _ (noU_none (u2 b L hb)) (u2 b L hb)).2⟩
  · refine Begin_q (g := 74) hm (fun bx => opsF_7 m bx) (fun bx H2 s2 hbx => ?_) (hQ _ hadd)
    obtain ⟨hm2, hP2, hd2, hr2, u2⟩ := lift s2
    simp only [nf]
    cases hf : findPage pt.fr page with
    | none =>
      refine (discard_none hm2 hP2 hf).mono ?_
      rintro _ H' ⟨rfl, rfl⟩
      have e : Ms.begin ⟨pt, sop, spg, [], to, []⟩ ⟨7, page, off, len, data⟩ = (⟨pt, 7, page, [], to, []⟩, Rs.fin 0) := by simp [Ms.begin, hf]
      rw [e]
      exact ⟨⟨_, rfl, dOkU.nil, mk hm2 hr2 (PFr.refl _) hP2⟩, u2⟩
    | some i =>
      obtain ⟨f, hfi, _⟩ := findPage_lt hf
      by_cases hp0 : f.pins = 0
      · refine (discard_ok hm2 hP2 hf hfi hp0).mono ?_
        rintro _ H' ⟨rfl, hP', ff⟩
        have e : Ms.begin ⟨pt, sop, spg, [], to, []⟩ ⟨7, page, off, len, data⟩ = (⟨pt.with i Fr.zero, 7, page, [], to, []⟩, Rs.fin 0) := by simp [Ms.begin, hf, hfi, hp0]
        rw [e]
        exact ⟨⟨_, rfl, dOkU.nil, mk hm2 hr2 ff hP'⟩, fun b L hb => ff.keep (u2 b L hb)⟩
      · refine (discard_pinned hm2 hP2 hf hfi hp0).mono ?_
        rintro _ H' ⟨rfl, rfl⟩
        have e : Ms.begin ⟨pt, sop, spg, [], to, []⟩ ⟨7, page, off, len, data⟩ = (⟨pt, 7, page, [], to, []⟩, Rs.fin 5) := by simp [Ms.begin, hf, hfi, hp0]
        rw [e]
        exact ⟨⟨_, rfl, dOkU.nil, mk hm2 hr2 (PFr.refl _) hP2⟩, u2⟩
  · refine Begin_q (g := 75) (fs := #[]) (cs := fun bx => #[]) hm (fun bx => opsF_8 m bx) (fun bx H2 s2 hbx => ?_) (hQ _ hadd)
    obtain ⟨hm2, hP2, hd2, hr2, u2⟩ := lift s2
    simp only [nf]
    refine ops_stats.mono ?_
    rintro _ H' ⟨rfl, rfl⟩
    exact ⟨⟨_, rfl, dOkU.nil, mk hm2 hr2 (PFr.refl _) hP2⟩, u2⟩
end Go.Proofs.Try
