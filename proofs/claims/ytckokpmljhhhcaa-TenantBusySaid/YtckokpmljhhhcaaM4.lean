/- A part of the proofs over the tenants of a page cache: lemmas on what is known of the memory, and contracts of the Go functions. -/
import Derived.Test.YtckokpmljhhhcaaM3
set_option linter.unusedVariables false
set_option linter.unusedSimpArgs false
namespace Go.Proofs.Try
open Go Go.H
set_option linter.unusedSimpArgs false
set_option linter.unusedVariables false
set_option maxRecDepth 100000
set_option maxHeartbeats 2000000
structure Ts where
  m : Ms
  t : Tq
/-- the bytes alone -/
def onU (H : Hp) : Hp := H.filt isU
theorem onU_sub (H : Hp) : Sub (onU H) H := Hp.filt_sub _ _
theorem onU_get {H : Hp} {b : Nat} {L : List Value} (h : H b = some (row L 5)) : (onU H) b = some (row L 5) := Hp.filt_get h (by rw [isU_row]; rfl)
theorem onU_row {H : Hp} {b : Nat} {o : Obj} (h : (onU H) b = some o) : ∃ L, o = row L 5 ∧ H b = some (row L 5) := by
  obtain ⟨h1, h2⟩ := Hp.filt_of h
  cases o with
  | cells c T z =>
    simp only [isU, Bool.and_eq_true, beq_iff_eq] at h2
    obtain ⟨rfl, rfl⟩ := h2
    exact ⟨c.toList, by simp [row], by rw [h1]; simp [row]⟩
  | _ => cases h2
theorem dOkU.on {H : Hp} {v : Value} {bs : List UInt8} (h : dOkU H v bs) : dOkU (onU H) v bs := by
  rcases h with h | ⟨b, o, c, L, h1, h2, h3⟩
  · exact .inl h
  · exact .inr ⟨b, o, c, L, h1, onU_get h2, h3⟩
theorem MachH.noU {H : Hp} {m p : Nat} {s : Ms} (h : MachH H m p s) (hg : s.got = []) : MachH (noU H) m p s := by
  obtain ⟨h1, tv, gv, h2, h3, h4, h5⟩ := h
  refine ⟨h1.noU, tv, gv, noU_get h2 (by decide), ?_, ?_, h5⟩
  · rcases h3 with h | ⟨b, o, c, L, e1, e2, e3⟩
    · exact .inl h
    · exact .inr ⟨b, o, c, L, e1, noU_get e2 (by decide), e3⟩
  · rw [h5 hg, hg]; exact OwnS.nil _ _ _
/-- a tenant's memory: its machine's and the rest, apart -/
structure TPart (G Hm R : Hp) (t m p : Nat) (s : Ts) : Prop where
  sm : Sub Hm G
  sr : Sub R G
  dj : Disj Hm R
  mach : MachH Hm m p s.m
  ten : TenQ R t m p s.t
theorem TPart.sub {G G' Hm R : Hp} {t m p : Nat} {s : Ts} (h : TPart G Hm R t m p s) (k : Sub G G') : TPart G' Hm R t m p s := ⟨h.sm.trans k, h.sr.trans k, h.dj, h.mach, h.ten⟩
def TenH (H : Hp) (t : Nat) (s : Ts) : Prop := ∃ m p Hm R, TPart H Hm R t m p s
theorem TenH.sub {H H' : Hp} {t : Nat} {s : Ts} (h : TenH H t s) (k : Sub H H') : TenH H' t s := by
  obtain ⟨m, p, Hm, R, h⟩ := h
  exact ⟨m, p, Hm, R, h.sub k⟩
/-- what a call leaves alone -/
def Fram (Hm R G Hm' R' G' : Hp) : Prop := ∀ b x, Hm b = none → R b = none → G b = some x → G' b = some x ∧ Hm' b = none ∧ R' b = none
theorem fr_sub {H R G H' G' : Hp} (sr : Sub R G) (d : Disj H R) (fr : ∀ b x, H b = none → G b = some x → H' b = none ∧ G' b = some x) : Sub R G' ∧ Disj H' R := by
  refine ⟨fun b x hx => (fr b x (d.get hx) (sr b x hx)).2, fun b hb => ?_⟩
  cases e : R b with
  | none => exact absurd e hb
  | some x => exact (fr b x (d.get e) (sr b x e)).1
theorem ten_begin {G Hm R : Hp} {t m p : Nat} {s : Ts} {r : Rv} {dv : Value} (h : TPart G Hm R t m p s) (ht : s.m.todo = []) (hg : s.m.got = []) (hr : r.Ok) (hd : dOkU R dv r.data) (hg2 : (s.m.begin r).1.got = []) :
    HT prog 37 #[.pointer (some ⟨m, 0, none⟩), .agg (rvc r dv).toArray] G (fun v G' => ∃ dv' Hm' R', v = .agg (resC (s.m.begin r).2 dv').toArray ∧ dOkU R' dv' (s.m.begin r).2.data ∧ TPart G' Hm' R' t m p ⟨(s.m.begin r).1, s.t⟩ ∧ Fram Hm R G Hm' R' G') := by
  obtain ⟨sm, sr, dj, hM, hT⟩ := h
  have d1 : Disj Hm (onU R) := dj.sub (.refl _) (onU_sub R)
  have d2 : Disj (Hm.un (onU R)) (noU R) := Disj.un_l (dj.sub (.refl _) (noU_sub R)) (Hp.filt_disj isU R).symm
  refine HT.mono (HT.frame (Sub.un sm ((onU_sub R).trans sr)) (machine_begin (H := Hm.un (onU R)) (hM.sub (Sub.un_l _ _)) ht hg hr (hd.on.sub (Sub.un_r d1)))) ?_
  rintro v G' ⟨H', ⟨⟨dv', rfl, hdv', hM'⟩, u⟩, s', fr⟩
  obtain ⟨sn, d3⟩ := fr_sub ((noU_sub R).trans sr) d2 fr
  have d4 : Disj (onU H') (noU R) := d3.sub (onU_sub H') (.refl _)
  refine ⟨dv', noU H', (onU H').un (noU R), rfl, hdv'.on.sub (Sub.un_l _ _), ⟨(noU_sub H').trans s', Sub.un ((onU_sub H').trans s') sn, ?_, hM'.noU hg2, hT.sub ?_⟩, ?_⟩
  · exact Disj.un_r (Hp.filt_disj isU H') (d3.sub (noU_sub H') (.refl _))
  · intro b o hb
    have := Hp.filt_un isU R b o hb
    simp only [Hp.un] at this ⊢
    cases e : (R.filt isU) b with
    | some x =>
      rw [e] at this
      simp only [Option.some.injEq] at this; subst this
      obtain ⟨L, rfl, _⟩ := onU_row e
      have h2 : (Hm.un (onU R)) b = some (row L 5) := Sub.un_r d1 _ _ e
      rw [onU_get (u b L h2)]
    | none =>
      rw [e] at this
      have h3 : noU R b = some o := this
      have h4 : onU H' b = none := d4.get h3
      rw [h4]; exact h3
  · intro b x hb hrb hx
    have h1 : (Hm.un (onU R)) b = none := by simp [Hp.un, hb, (onU_sub R).unk hrb]
    obtain ⟨e1, e2⟩ := fr b x h1 hx
    exact ⟨e2, (noU_sub H').unk e1, by simp [Hp.un, (onU_sub H').unk e1, (noU_sub R).unk hrb]⟩
theorem tell_q {R : Hp} {t m p : Nat} {s : Tq} {x : Rs} {dv : Value} {tick : Int} (h : TenQ R t m p s) (ha : cnAll x.add) (hd : dOkU R dv x.data) (hq : x.done = true → s.q ≠ []) (hol : s.out.length ≤ 1000000) :
    HT prog 27 #[.pointer (some ⟨t, 0, none⟩), .agg (resC x dv).toArray, .int .i64 tick] R (fun v H' => v = .tuple #[] ∧ TenQ H' t m p (s.tell x tick)) := by
  obtain ⟨q, ov, ht, hqq, ho, hc⟩ := h
  obtain ⟨pages, ids, dep, sq, cn, out⟩ := s
  obtain ⟨done, errno, hit, data, add⟩ := x
  simp only at *
  have hL : ∀ c ∈ [cn, add], cnAll c := by
    intro c hcc
    simp only [List.mem_cons, List.not_mem_nil, or_false] at hcc
    rcases hcc with rfl | rfl
    · exact hc
    · exact ha
  have hs := sumAll_all _ hL
  obtain ⟨c0, c1, c2, c3, c4, c5, rfl⟩ := six_of hc.1
  obtain ⟨a0, a1, a2, a3, a4, a5, rfl⟩ := six_of ha.1
  obtain ⟨d0, d1, d2, d3, d4, d5, hde⟩ := six_of hs.1
  obtain ⟨da, dc, rfl⟩ := hd.len
  cases done with
  | false =>
    refine (tell_more ht hc ha hde ⟨_, _, _, rfl⟩).mono ?_
    rintro _ _ ⟨rfl, rfl⟩
    refine ⟨rfl, q, ov, ?_, ?_, ?_, ?_⟩
    · simp only [Tq.tell, if_true, hde]; exact Hp.set_same _ _ _
    · exact hqq.updT ht (by decide) (by decide) (by decide)
    · exact ho.updT ht (by decide) (by decide)
    · exact hs
  | true =>
    cases sq with
    | nil => exact absurd rfl (hq rfl)
    | cons j rest =>
      by_cases hop : j.r.op = 8
      · refine (tell_stats ht hc ha hde hd hqq ho hol hop).mono ?_
        rintro _ H' ⟨ov', rfl, h1, h2, h3⟩
        refine ⟨rfl, q, ov', ?_, h2, ?_, hs⟩
        · simp only [Tq.tell, hde]; exact h1
        · simp only [Tq.tell, hde, hop, if_true]; exact h3
      · refine (tell_done ht hc ha hde hd hqq ho hol hop).mono ?_
        rintro _ H' ⟨ov', rfl, h1, h2, h3⟩
        refine ⟨rfl, q, ov', ?_, h2, ?_, hs⟩
        · simp only [Tq.tell, hde]; exact h1
        · simp only [Tq.tell, hde, if_neg hop]; exact h3
theorem ten_tell {G Hm R : Hp} {t m p : Nat} {s : Ts} {x : Rs} {dv : Value} {tick : Int} (h : TPart G Hm R t m p s) (ha : cnAll x.add) (hd : dOkU R dv x.data) (hq : x.done = true → s.t.q ≠ []) (hol : s.t.out.length ≤ 1000000) :
    HT prog 27 #[.pointer (some ⟨t, 0, none⟩), .agg (resC x dv).toArray, .int .i64 tick] G (fun v G' => ∃ R', v = .tuple #[] ∧ TPart G' Hm R' t m p ⟨s.m, s.t.tell x tick⟩ ∧ Fram Hm R G Hm R' G') := by
  obtain ⟨sm, sr, dj, hM, hT⟩ := h
  refine HT.mono (HT.frame sr (tell_q hT ha hd hq hol)) ?_
  rintro v G' ⟨R', ⟨rfl, hT'⟩, s', fr⟩
  obtain ⟨sn, d3⟩ := fr_sub sm dj.symm fr
  exact ⟨R', rfl, ⟨sn, s', d3.symm, hM, hT'⟩, fun b x hb hrb hx => ⟨(fr b x hrb hx).2, hb, (fr b x hrb hx).1⟩⟩
theorem ten_end {G Hm R Hb : Hp} {t m p : Nat} {s : Ts} {e : Int} {bv : Value} {b : List UInt8} (h : TPart G Hm R t m p s) (hi : MInv s.m) (hne : s.m.todo ≠ []) (sb : Sub Hb G) (db : Disj Hm Hb) (db' : Disj Hb R) (hb : e = 0 → dOkU Hb bv b ∧ ∀ x rest, s.m.todo = x :: rest → x.kind = 1 → b.length = 16) :
    HT prog 28 #[.pointer (some ⟨m, 0, none⟩), .int .i64 e, bv] G (fun v G' => ∃ Hm', v = .agg (resC (s.m.fin e b).2 (.slice none 0 0)).toArray ∧ (s.m.fin e b).2.data = [] ∧ TPart G' Hm' R t m p ⟨(s.m.fin e b).1, s.t⟩ ∧ ∀ c x, Hm c = none → R c = none → Hb c = none → G c = some x → G' c = some x ∧ Hm' c = none) := by
  obtain ⟨sm, sr, dj, hM, hT⟩ := h
  refine HT.mono (HT.frame (Sub.un sm sb) (machine_end (H := Hm.un Hb) (hM.sub (Sub.un_l _ _)) hi hne (fun h0 => ⟨(hb h0).1.sub (Sub.un_r db), (hb h0).2⟩))) ?_
  rintro v G' ⟨H', ⟨rfl, hda, hM'⟩, s', fr⟩
  obtain ⟨sn, d3⟩ := fr_sub sr (Disj.un_l dj db') fr
  exact ⟨H', rfl, hda, ⟨s', sn, d3, hM', hT⟩, fun c x h1 h2 h3 hx => ⟨(fr c x (by simp [Hp.un, h1, h3]) hx).2, (fr c x (by simp [Hp.un, h1, h3]) hx).1⟩⟩
theorem mh_Busy {H : Hp} {m p : Nat} {s : Ms} (h : MachH H m p s) : HT prog 13 #[.pointer (some ⟨m, 0, none⟩)] H (fun v H' => v = .bool (decide (0 < s.todo.length)) ∧ H = H') := by
  obtain ⟨h1, tv, gv, h2, h3, h4, h5⟩ := h
  obtain ⟨a, c, e⟩ := h3.slice
  exact machine_Busy h2 e
theorem qh_First_all {R H : Hp} {q dep : Nat} {l : List Jm} (h : QueueH R q dep l) (s : Sub R H) : HT prog 36 #[.pointer (some ⟨q, 0, none⟩)] H (fun v H' => ∃ jb : Jb, v = .tuple #[.agg (jc jb).toArray, .bool (!l.isEmpty)] ∧ jb.r.ok ∧ (∀ j rest, l = j :: rest → ∃ dv, jb = jbv j dv ∧ dOkU R dv j.r.data) ∧ H = H') := by
  obtain ⟨rb, a, ring, h1, h2, h3, h4, h5, h6, h7, h8⟩ := h
  cases l with
  | nil =>
    refine (fifo_First_no (s _ _ h1) (s _ _ h2) h3 h4 h5 h6 h7 rfl).mono ?_
    rintro _ _ ⟨rfl, rfl⟩
    exact ⟨Jb.zero, rfl, rfl, fun j rest e => (by cases e), rfl⟩
  | cons j l =>
    obtain ⟨k, dv, e1, e2, e3⟩ := h8 0 (by simp)
    simp only [List.getElem?_cons_zero, Option.some.injEq] at e1
    subst e1
    rw [Nat.add_zero, Nat.mod_eq_of_lt h4] at e2
    refine (fifo_First_ok (s _ _ h1) (s _ _ h2) h3 h4 h5 h6 h7 (by simp) e2).mono ?_
    rintro _ _ ⟨rfl, rfl⟩
    exact ⟨jbv j dv, rfl, jbv_ok e3, fun j' rest e => by cases e; exact ⟨dv, rfl, e3⟩, rfl⟩
end Go.Proofs.Try
