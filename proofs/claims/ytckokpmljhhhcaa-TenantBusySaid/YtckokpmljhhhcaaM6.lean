/- A part of the proofs over the tenants of a page cache: lemmas on what is known of the memory, and contracts of the Go functions. -/
import Derived.Test.YtckokpmljhhhcaaM5
set_option linter.unusedVariables false
set_option linter.unusedSimpArgs false
namespace Go.Proofs.Try
open Go Go.H
set_option linter.unusedSimpArgs false
set_option linter.unusedVariables false
set_option maxRecDepth 100000
set_option maxHeartbeats 2000000
def chk (pages op page off len : Int) (bs : List UInt8) : Int := checkE pages ⟨op, page, off, len, .slice none 0 0⟩ bs
theorem chk_eq (pages op page off len : Int) (dv : Value) (bs : List UInt8) : checkE pages ⟨op, page, off, len, dv⟩ bs = chk pages op page off len bs := by
  unfold chk checkE sameR namedD namedR
  simp only
  split <;> rfl
theorem req_Check_all {H : Hp} {op page off len pages : Int} {dv : Value} {bs : List UInt8} (hd : dOk H dv bs) : HT prog 23 #[.agg #[.int .i64 op, .int .i64 page, .int .i64 off, .int .i64 len, dv], .int .i64 pages] H (fun v H' => v = .int .i64 (chk pages op page off len bs) ∧ H = H') := by
  obtain ⟨a, c, rfl⟩ := hd.len
  by_cases ho : op < 1 ∨ 9 ≤ op
  · have e : chk pages op page off len bs = 2 := by
      unfold chk checkE; rw [if_pos]; rcases ho with h | h; exact .inl h; exact .inr (.inl h)
    rw [e]
    exact req_Check_no hd ho
  · rw [← chk_eq pages op page off len (.slice a bs.length c) bs]
    by_cases hk : op = 6 ∨ op = 8
    · exact req_Check_a hd hk (by omega) (by omega)
    · exact req_Check_b hd (by omega) (by omega) (by omega)
theorem chk_ok {pages op page off len : Int} {bs : List UInt8} (h : chk pages op page off len bs = 0) : 1 ≤ op ∧ op ≤ 8 ∧ 0 ≤ off ∧ 0 ≤ len ∧ off + len ≤ 32 ∧ off + bs.length ≤ 32 := by
  unfold chk checkE at h
  split at h
  · cases h
  · rename_i h1
    split at h
    · cases h
    · split at h
      · cases h
      · rename_i h3
        simp only [not_or] at h1 h3
        omega
def rvOf (op page off len : Int) (bs : List UInt8) : Rv := ⟨op, page, off.toNat, len.toNat, bs⟩
theorem rvOf_ok {pages op page off len : Int} {bs : List UInt8} (h : chk pages op page off len bs = 0) : (rvOf op page off len bs).Ok := by
  obtain ⟨h1, h2, h3, h4, h5, h6⟩ := chk_ok h
  refine ⟨h1, h2, ?_, ?_⟩ <;> simp only [rvOf] <;> omega
theorem ten_run {G Hm R : Hp} {t m p : Nat} {s : Ts} {tick : Int} (h : TPart G Hm R t m p s) (hi : TInv s) (hol : s.t.out.length + s.t.q.length ≤ 1000000) :
    HT prog 26 #[.pointer (some ⟨t, 0, none⟩), .int .i64 tick] G (fun v G' => ∃ Hm' R', v = .tuple #[] ∧ TPart G' Hm' R' t m p (s.run (s.t.q.length + 1) tick) ∧ TInv (s.run (s.t.q.length + 1) tick) ∧ Fram Hm R G Hm' R' G') := by
  have h' : TPart (Hm.un R) Hm R t m p s := ⟨Sub.un_l _ _, Sub.un_r h.dj, h.dj, h.mach, h.ten⟩
  refine HT.mono (HT.frame (Sub.un h.sm h.sr) (ten_run_in h' hi hol)) ?_
  rintro v G' ⟨H', ⟨Hm', R', rfl, hP, hI⟩, s', fr⟩
  refine ⟨Hm', R', rfl, hP.sub s', hI, fun b x h1 h2 hx => ?_⟩
  obtain ⟨e1, e2⟩ := fr b x (by simp [Hp.un, h1, h2]) hx
  exact ⟨e2, hP.sm.unk e1, hP.sr.unk e1⟩
def Ts.over (s : Ts) (e : Int) (b : List UInt8) (tick : Int) : Ts := Ts.run ((s.t.tell (s.m.fin e b).2 tick).q.length + 1) ⟨(s.m.fin e b).1, s.t.tell (s.m.fin e b).2 tick⟩ tick
theorem over_inv {s : Ts} {e : Int} {b : List UInt8} {tick : Int} (ok : s.m.pt.Ok) (h : TInv s) (hne : s.m.todo ≠ []) (hb : e = 0 → ∀ x rest, s.m.todo = x :: rest → x.kind = 1 → b.length = 16) : TInv ⟨(s.m.fin e b).1, s.t.tell (s.m.fin e b).2 tick⟩ := by
  refine ⟨fin_inv ok h.inv hb, fun hbz => ?_, fun i hi => h.jobs i (tell_mem _ _ _ i hi)⟩
  have hd := (fin_done h.inv hne).2 hbz
  rw [tell_more_q _ _ _ hd]; exact h.busy hne
/-- a request that is accepted -/
def Ts.acc (s : Ts) (r : Rv) (tick : Int) : Ts := Ts.run (s.t.q.length + 2) ⟨s.m, ⟨s.t.pages, s.t.ids + 1, s.t.dep, s.t.q ++ [⟨s.t.ids + 1, r⟩], s.t.cn, s.t.out⟩⟩ tick
theorem ten_put {G Hm R : Hp} {t q dep : Nat} {l : List Jm} {ov : Value} {out : List Rm} {L : List Value} {j : Jm} {dv : Value} (sm : Sub Hm G) (sr : Sub R G) (dj : Disj Hm R) (ht : R t = some (row L 61)) (hq : QueueH R q dep l) (ho : OutH R ov out) (hf : l.length < dep) (hd : dOkU R dv j.r.data) :
    HT prog 24 #[.pointer (some ⟨q, 0, none⟩), .agg (jc (jbv j dv)).toArray] G (fun v G' => ∃ R', v = .int .i64 0 ∧ Sub Hm G' ∧ Sub R' G' ∧ Disj Hm R' ∧ R' t = some (row L 61) ∧ QueueH R' q dep (l ++ [j]) ∧ OutH R' ov out ∧ Fram Hm R G Hm R' G') := by
  refine HT.mono (HT.frame sr (qh_Put hq hf hd)) ?_
  rintro v G' ⟨R', ⟨rfl, hq', f⟩, s', fr⟩
  obtain ⟨sn, d3⟩ := fr_sub sm dj.symm fr
  exact ⟨R', rfl, sn, s', d3.symm, f.keep ht (by decide) (by decide), hq', ho.q f, fun b x hb hrb hx => ⟨(fr b x hrb hx).2, hb, (fr b x hrb hx).1⟩⟩
theorem ten_Over {G Hm R : Hp} {t m p : Nat} {s : Ts} {tick : Int} (h : TPart G Hm R t m p s) {Hb : Hp} {e : Int} {bv : Value} {b : List UInt8} (hI : TInv s) (hne : s.m.todo ≠ []) (sb : Sub Hb G) (db : Disj Hm Hb) (db2 : Disj Hb R) (hb : e = 0 → dOkU Hb bv b ∧ ∀ x rest, s.m.todo = x :: rest → x.kind = 1 → b.length = 16) (hol : s.t.out.length + s.t.q.length ≤ 1000000) :
    HT prog 14 #[.pointer (some ⟨t, 0, none⟩), .int .i64 e, bv, .int .i64 tick] G (fun v G' => ∃ Hm' R', v = .tuple #[] ∧ TPart G' Hm' R' t m p (s.over e b tick) ∧ TInv (s.over e b tick) ∧ ∀ c x, Hm c = none → R c = none → Hb c = none → G c = some x → G' c = some x ∧ Hm' c = none ∧ R' c = none) := by
 obtain ⟨q, ov, ht, hqq, hout, hcn⟩ := h.ten
 have htG := h.sr _ _ ht
 have hI2 := over_inv (tick := tick) h.mach.1.1 hI hne (fun h0 => (hb h0).2)
 have hql := tell_q_len s.t (s.m.fin e b).2 tick
 refine ht_of_body (args := [.pointer (some ⟨t, 0, none⟩), .int .i64 e, bv, .int .i64 tick]) func14 rfl ?_
 simp only [ntmps14, List.length_cons, List.length_nil, Nat.reduceAdd, Nat.reduceSub, List.replicate_succ, List.replicate_zero, List.cons_append, List.nil_append]
 refine sR ?_
 refine oM ?_
 refine oM ?_
 refine oN rfl ?_
 refine oF rfl ?_
 refine hops_cons rfl (hop_load rfl (by (repeat' first | assumption | exact hS | exact Hp.one_get _ _ | refine hT (by first | assumption | exact Ne.symm ‹_›) ?_)) (by first | rfl | assumption | exact mid_get0 rfl | exact mid_get rfl | (simp; done)) ?_)
 try simp only [nfa, Nat.reduceAdd]
 refine oM ?_
 refine oM ?_
 refine hops_cons rfl (hop_call ?_)
 simp only [nfa, Nat.reduceAdd]
 refine HT.mono (ten_end h hI.inv hne sb db db2 hb) ?_
 rintro _ G1 ⟨Hm1, rfl, hda, hP1, fr1⟩
 try simp only [nf, nf2]
 refine oM ?_
 refine hops_cons rfl (hop_call ?_)
 simp only [nfa, Nat.reduceAdd]
 refine HT.mono (ten_tell (x := (s.m.fin e b).2) (dv := .slice none 0 0) hP1 (fin_cn _ _ _) (by rw [hda]; exact dOkU.nil) (fun _ => hI.busy hne) (by show s.t.out.length ≤ 1000000; omega)) ?_
 rintro _ G2 ⟨R2, rfl, hP2, fr2⟩
 try simp only [nf, nf2]
 refine hops_nil ?_
 try simp only [nfa, Nat.reduceAdd]
 refine hc_region ?_
 refine oM ?_
 refine oM ?_
 refine hops_cons rfl (hop_call ?_)
 simp only [nfa, Nat.reduceAdd]
 refine HT.mono (ten_run hP2 hI2 (by rw [hql]; exact hol)) ?_
 rintro _ G3 ⟨Hm3, R3, rfl, hP3, hI3, fr3⟩
 try simp only [nf, nf2]
 refine hops_nil ?_
 try simp only [nfa, Nat.reduceAdd]
 apply hend_none_sub rfl ?es ?eR
 case es => exact Sub.refl _
 case eR =>
  refine ⟨Hm3, R3, rfl, hP3, hI3, fun c x h1 h2 h3 hx => ?_⟩
  obtain ⟨e1, e2⟩ := fr1 c x h1 h2 h3 hx
  obtain ⟨e3, e4, e5⟩ := fr2 c x e2 h2 e1
  exact fr3 c x e4 e5 e3
theorem ten_Submit_bad {G Hm R : Hp} {t m p : Nat} {s : Ts} {tick : Int} (h : TPart G Hm R t m p s) {op page off len : Int} {dv : Value} {bs : List UInt8} (hd : dOk G dv bs) (hc : chk s.t.pages op page off len bs ≠ 0) :
    HT prog 12 #[.pointer (some ⟨t, 0, none⟩), .agg #[.int .i64 op, .int .i64 page, .int .i64 off, .int .i64 len, dv], .int .i64 tick] G (fun v G' => v = .tuple #[.int .i64 0, .int .i64 (chk s.t.pages op page off len bs)] ∧ G = G') := by
 obtain ⟨q, ov, ht, hqq, hout, hcn⟩ := h.ten
 have htG := h.sr _ _ ht
 obtain ⟨da, dc, rfl⟩ := hd.len
 refine ht_of_body (args := [.pointer (some ⟨t, 0, none⟩), .agg #[.int .i64 op, .int .i64 page, .int .i64 off, .int .i64 len, .slice da bs.length dc], .int .i64 tick]) func12 rfl ?_
 simp only [ntmps12, List.length_cons, List.length_nil, Nat.reduceAdd, Nat.reduceSub, List.replicate_succ, List.replicate_zero, List.cons_append, List.nil_append]
 refine sR ?_
 refine hops_cons rfl (hop_box rfl rfl ?_)
 intro b1 hb1
 have hb1' := hb1
 try simp only [Hp.set_none, Hp.del_none] at hb1'
 have hb1_n : G b1 = none := by first | exact hb1' | exact hb1'.2 | exact hb1'.2.2 | exact hb1'.2.2.2 | exact hb1'.2.2.2.2 | exact hb1'.2.2.2.2.2 | exact hb1'.2.2.2.2.2.2
 have hb1_t : b1 ≠ t := (Hp.ne_of htG hb1_n).symm
 clear hb1'
 try simp only [nfa, Nat.reduceAdd]
 refine oA ?_
 refine oA ?_
 try simp only [nfa, Nat.reduceAdd]
 refine hops_nil ?_
 try simp only [nfa, Nat.reduceAdd]
 refine hc_seq ?_
 refine hc_seq ?_
 refine hc_draw0 follows (by intros; simp [hng, hthen, hblock, hend]) ?_
 refine dT 0 rfl (by decide +kernel) rfl (by first | ((repeat' first | assumption | exact Sub.refl _ | refine Sub.over ?_ ‹_› _); done) | (intro _ _ h; simp only [Hp.set] at h ⊢; grind)) (hop_loadA rfl (by (repeat' first | assumption | exact hS | exact Hp.one_get _ _ | refine hT (by first | assumption | exact Ne.symm ‹_›) ?_)) (by first | assumption | omega | (simp; done) | (simp; omega) | (simp [frc] <;> omega)) ?_)
 try simp only [nfa, Nat.reduceAdd]
 refine dT 1 rfl (by decide +kernel) rfl (by first | ((repeat' first | assumption | exact Sub.refl _ | refine Sub.over ?_ ‹_› _); done) | (intro _ _ h; simp only [Hp.set] at h ⊢; grind)) (hop_move ?_)
 try simp only [nfa, Nat.reduceAdd]
 refine dT 2 rfl (by decide +kernel) rfl (by first | ((repeat' first | assumption | exact Sub.refl _ | refine Sub.over ?_ ‹_› _); done) | (intro _ _ h; simp only [Hp.set] at h ⊢; grind)) (hop_nilCheck rfl ?_)
 try simp only [nfa, Nat.reduceAdd]
 refine dT 3 rfl (by decide +kernel) rfl (by first | ((repeat' first | assumption | exact Sub.refl _ | refine Sub.over ?_ ‹_› _); done) | (intro _ _ h; simp only [Hp.set] at h ⊢; grind)) (hop_fieldAddr rfl ?_)
 try simp only [nfa, Nat.reduceAdd]
 refine dT 4 rfl (by decide +kernel) rfl (by first | ((repeat' first | assumption | exact Sub.refl _ | refine Sub.over ?_ ‹_› _); done) | (intro _ _ h; simp only [Hp.set] at h ⊢; grind)) (hop_load rfl (by (repeat' first | assumption | exact hS | exact Hp.one_get _ _ | refine hT (by first | assumption | exact Ne.symm ‹_›) ?_)) (by first | rfl | assumption | exact mid_get0 rfl | exact mid_get rfl | (simp; done)) ?_)
 try simp only [nfa, Nat.reduceAdd]
 refine hD_do 5 rfl (by decide +kernel) rfl (hop_call ?_)
 simp only [nfa, Nat.reduceAdd]
 refine HT.mono (req_Check_all (hd.sub (by first | ((repeat' first | assumption | exact Sub.refl _ | refine Sub.over ?_ ‹_› _); done) | (intro _ _ h; simp only [Hp.set] at h ⊢; grind)))) ?_
 rintro _ _ ⟨rfl, rfl⟩
 try simp only [nf, nf2]
 refine ⟨.inr (by first | ((repeat' first | assumption | exact Sub.refl _ | refine Sub.over ?_ ‹_› _); done) | (intro _ _ h; simp only [Hp.set] at h ⊢; grind)), ?_⟩
 try simp only [nfa, Nat.reduceAdd]
 refine dT 6 rfl (by decide +kernel) rfl (by first | ((repeat' first | assumption | exact Sub.refl _ | refine Sub.over ?_ ‹_› _); done) | (intro _ _ h; simp only [Hp.set] at h ⊢; grind)) (hop_assign ?_)
 try simp only [nfa, Nat.reduceAdd]
 refine hD_done (by decide +kernel) ?_
 try simp only [nfa, Nat.reduceAdd]
 refine sR ?_
 refine oM ?_
 try simp only [nfa, Nat.reduceAdd]
 refine hops_cons rfl (hop_bin rfl rfl rfl ?_)
 try simp only [nfa, Nat.reduceAdd]
 refine hops_nil ?_
 try simp only [nfa, Nat.reduceAdd]
 refine hc_T rfl (by first | rfl | assumption | (simp; done) | (simp; omega) | (simp [*]; done)) ?_
 refine sR ?_
 refine oM ?_
 refine oA ?_
 refine oA ?_
 try simp only [nfa, Nat.reduceAdd]
 refine hops_nil ?_
 try simp only [nfa, Nat.reduceAdd]
 refine hc_ret ?_
 try simp only [hng, hthen, hblock]
 apply hend_2 rfl ?es RV.tmp RV.tmp ?eR
 case eR =>
  first | exact ⟨rfl, rfl⟩ | (refine ⟨?_, rfl⟩; simp)
 case es => first | ((repeat' first | assumption | exact Sub.refl _ | refine Sub.over ?_ ‹_› _); done) | (intro _ _ h; simp only [Hp.set] at h ⊢; grind)
theorem Sub.trans' {A B C D : Hp} (s1 : Sub C D) (sr : Sub A B) (s : Sub B C) : Sub A D := sr.trans (s.trans s1)
theorem ten_Submit_full {G Hm R : Hp} {t m p : Nat} {s : Ts} {tick : Int} (h : TPart G Hm R t m p s) {op page off len : Int} {dv : Value} {bs : List UInt8} (hd : dOk G dv bs) (hc : chk s.t.pages op page off len bs = 0) (hfull : s.t.q.length = s.t.dep) (hids : 0 ≤ s.t.ids ∧ s.t.ids ≤ 1000000000) :
    HT prog 12 #[.pointer (some ⟨t, 0, none⟩), .agg #[.int .i64 op, .int .i64 page, .int .i64 off, .int .i64 len, dv], .int .i64 tick] G (fun v G' => v = .tuple #[.int .i64 0, .int .i64 8] ∧ Sub G G') := by
 obtain ⟨q, ov, ht, hqq, hout, hcn⟩ := h.ten
 have htG := h.sr _ _ ht
 obtain ⟨da, dc, rfl⟩ := hd.len
 have hchk := chk_ok hc
 have hid := hids
 refine ht_of_body (args := [.pointer (some ⟨t, 0, none⟩), .agg #[.int .i64 op, .int .i64 page, .int .i64 off, .int .i64 len, .slice da bs.length dc], .int .i64 tick]) func12 rfl ?_
 simp only [ntmps12, List.length_cons, List.length_nil, Nat.reduceAdd, Nat.reduceSub, List.replicate_succ, List.replicate_zero, List.cons_append, List.nil_append]
 refine sR ?_
 refine hops_cons rfl (hop_box rfl rfl ?_)
 intro b1 hb1
 have hb1' := hb1
 try simp only [Hp.set_none, Hp.del_none] at hb1'
 have hb1_n : G b1 = none := by first | exact hb1' | exact hb1'.2 | exact hb1'.2.2 | exact hb1'.2.2.2 | exact hb1'.2.2.2.2 | exact hb1'.2.2.2.2.2 | exact hb1'.2.2.2.2.2.2
 have hb1_t : b1 ≠ t := (Hp.ne_of htG hb1_n).symm
 clear hb1'
 try simp only [nfa, Nat.reduceAdd]
 refine oA ?_
 refine oA ?_
 try simp only [nfa, Nat.reduceAdd]
 refine hops_nil ?_
 try simp only [nfa, Nat.reduceAdd]
 refine hc_seq ?_
 refine hc_seq ?_
 refine hc_draw0 follows (by intros; simp [hng, hthen, hblock, hend]) ?_
 refine dT 0 rfl (by decide +kernel) rfl (by first | ((repeat' first | assumption | exact Sub.refl _ | refine Sub.over ?_ ‹_› _); done) | (intro _ _ h; simp only [Hp.set] at h ⊢; grind)) (hop_loadA rfl (by (repeat' first | assumption | exact hS | exact Hp.one_get _ _ | refine hT (by first | assumption | exact Ne.symm ‹_›) ?_)) (by first | assumption | omega | (simp; done) | (simp; omega) | (simp [frc] <;> omega)) ?_)
 try simp only [nfa, Nat.reduceAdd]
 refine dT 1 rfl (by decide +kernel) rfl (by first | ((repeat' first | assumption | exact Sub.refl _ | refine Sub.over ?_ ‹_› _); done) | (intro _ _ h; simp only [Hp.set] at h ⊢; grind)) (hop_move ?_)
 try simp only [nfa, Nat.reduceAdd]
 refine dT 2 rfl (by decide +kernel) rfl (by first | ((repeat' first | assumption | exact Sub.refl _ | refine Sub.over ?_ ‹_› _); done) | (intro _ _ h; simp only [Hp.set] at h ⊢; grind)) (hop_nilCheck rfl ?_)
 try simp only [nfa, Nat.reduceAdd]
 refine dT 3 rfl (by decide +kernel) rfl (by first | ((repeat' first | assumption | exact Sub.refl _ | refine Sub.over ?_ ‹_› _); done) | (intro _ _ h; simp only [Hp.set] at h ⊢; grind)) (hop_fieldAddr rfl ?_)
 try simp only [nfa, Nat.reduceAdd]
 refine dT 4 rfl (by decide +kernel) rfl (by first | ((repeat' first | assumption | exact Sub.refl _ | refine Sub.over ?_ ‹_› _); done) | (intro _ _ h; simp only [Hp.set] at h ⊢; grind)) (hop_load rfl (by (repeat' first | assumption | exact hS | exact Hp.one_get _ _ | refine hT (by first | assumption | exact Ne.symm ‹_›) ?_)) (by first | rfl | assumption | exact mid_get0 rfl | exact mid_get rfl | (simp; done)) ?_)
 try simp only [nfa, Nat.reduceAdd]
 refine hD_do 5 rfl (by decide +kernel) rfl (hop_call ?_)
 simp only [nfa, Nat.reduceAdd]
 refine HT.mono (req_Check_all (hd.sub (by first | ((repeat' first | assumption | exact Sub.refl _ | refine Sub.over ?_ ‹_› _); done) | (intro _ _ h; simp only [Hp.set] at h ⊢; grind)))) ?_
 rintro _ _ ⟨rfl, rfl⟩
 try simp only [nf, nf2]
 refine ⟨.inr (by first | ((repeat' first | assumption | exact Sub.refl _ | refine Sub.over ?_ ‹_› _); done) | (intro _ _ h; simp only [Hp.set] at h ⊢; grind)), ?_⟩
 try simp only [nfa, Nat.reduceAdd]
 refine dT 6 rfl (by decide +kernel) rfl (by first | ((repeat' first | assumption | exact Sub.refl _ | refine Sub.over ?_ ‹_› _); done) | (intro _ _ h; simp only [Hp.set] at h ⊢; grind)) (hop_assign ?_)
 try simp only [nfa, Nat.reduceAdd]
 refine hD_done (by decide +kernel) ?_
 try simp only [nfa, Nat.reduceAdd]
 refine sR ?_
 refine oM ?_
 try simp only [nfa, Nat.reduceAdd]
 refine hops_cons rfl (hop_bin rfl rfl rfl ?_)
 try simp only [nfa, Nat.reduceAdd]
 refine hops_nil ?_
 try simp only [nfa, Nat.reduceAdd]
 refine hc_F rfl (by first | rfl | assumption | (simp; done) | (simp; omega) | (simp [*]; done)) ?_
 refine hc_skip ?_
 try simp only [nfa, Nat.reduceAdd]
 refine hc_seq ?_
 refine hc_seq ?_
 refine hc_draw ((Hp.one b1 (row [.int .i64 op, .int .i64 page, .int .i64 off, .int .i64 len, .slice da bs.length dc] 41)).set t (row (tRow m p q s.t.pages s.t.ids s.t.cn ov) 61)) follows (by intros; simp [hng, hthen, hblock, hend]) ?_
 refine dT 0 rfl (by decide +kernel) rfl (Sub.emp_set (Sub.one (by (repeat' first | assumption | exact hS | exact Hp.one_get _ _ | refine hT (by first | assumption | exact Ne.symm ‹_›) ?_))) (by (repeat' first | assumption | exact hS | exact Hp.one_get _ _ | refine hT (by first | assumption | exact Ne.symm ‹_›) ?_))) (hop_move ?_)
 try simp only [nfa, Nat.reduceAdd]
 refine dT 1 rfl (by decide +kernel) rfl (Sub.emp_set (Sub.one (by (repeat' first | assumption | exact hS | exact Hp.one_get _ _ | refine hT (by first | assumption | exact Ne.symm ‹_›) ?_))) (by (repeat' first | assumption | exact hS | exact Hp.one_get _ _ | refine hT (by first | assumption | exact Ne.symm ‹_›) ?_))) (hop_nilCheck rfl ?_)
 try simp only [nfa, Nat.reduceAdd]
 refine dT 2 rfl (by decide +kernel) rfl (Sub.emp_set (Sub.one (by (repeat' first | assumption | exact hS | exact Hp.one_get _ _ | refine hT (by first | assumption | exact Ne.symm ‹_›) ?_))) (by (repeat' first | assumption | exact hS | exact Hp.one_get _ _ | refine hT (by first | assumption | exact Ne.symm ‹_›) ?_))) (hop_fieldAddr rfl ?_)
 try simp only [nfa, Nat.reduceAdd]
 refine dT 3 rfl (by decide +kernel) rfl (Sub.emp_set (Sub.one (by (repeat' first | assumption | exact hS | exact Hp.one_get _ _ | refine hT (by first | assumption | exact Ne.symm ‹_›) ?_))) (by (repeat' first | assumption | exact hS | exact Hp.one_get _ _ | refine hT (by first | assumption | exact Ne.symm ‹_›) ?_))) (hop_load rfl (by (repeat' first | assumption | exact hS | exact Hp.one_get _ _ | refine hT (by first | assumption | exact Ne.symm ‹_›) ?_)) (by first | rfl | assumption | exact mid_get0 rfl | exact mid_get rfl | (simp; done)) ?_)
 try simp only [nfa, Nat.reduceAdd]
 refine dT 4 rfl (by decide +kernel) rfl (Sub.emp_set (Sub.one (by (repeat' first | assumption | exact hS | exact Hp.one_get _ _ | refine hT (by first | assumption | exact Ne.symm ‹_›) ?_))) (by (repeat' first | assumption | exact hS | exact Hp.one_get _ _ | refine hT (by first | assumption | exact Ne.symm ‹_›) ?_))) (hop_move ?_)
 try simp only [nfa, Nat.reduceAdd]
 refine dT 5 rfl (by decide +kernel) rfl (Sub.emp_set (Sub.one (by (repeat' first | assumption | exact hS | exact Hp.one_get _ _ | refine hT (by first | assumption | exact Ne.symm ‹_›) ?_))) (by (repeat' first | assumption | exact hS | exact Hp.one_get _ _ | refine hT (by first | assumption | exact Ne.symm ‹_›) ?_))) (hop_nilCheck rfl ?_)
 try simp only [nfa, Nat.reduceAdd]
 refine dT 6 rfl (by decide +kernel) rfl (Sub.emp_set (Sub.one (by (repeat' first | assumption | exact hS | exact Hp.one_get _ _ | refine hT (by first | assumption | exact Ne.symm ‹_›) ?_))) (by (repeat' first | assumption | exact hS | exact Hp.one_get _ _ | refine hT (by first | assumption | exact Ne.symm ‹_›) ?_))) (hop_fieldAddr rfl ?_)
 try simp only [nfa, Nat.reduceAdd]
 refine dT 7 rfl (by decide +kernel) rfl (Sub.emp_set (Sub.one (by (repeat' first | assumption | exact hS | exact Hp.one_get _ _ | refine hT (by first | assumption | exact Ne.symm ‹_›) ?_))) (by (repeat' first | assumption | exact hS | exact Hp.one_get _ _ | refine hT (by first | assumption | exact Ne.symm ‹_›) ?_))) (hop_load rfl (by (repeat' first | assumption | exact hS | exact Hp.one_get _ _ | refine hT (by first | assumption | exact Ne.symm ‹_›) ?_)) (by first | rfl | assumption | exact mid_get0 rfl | exact mid_get rfl | (simp; done)) ?_)
 try simp only [nfa, Nat.reduceAdd]
 refine dT 8 rfl (by decide +kernel) rfl (Sub.emp_set (Sub.one (by (repeat' first | assumption | exact hS | exact Hp.one_get _ _ | refine hT (by first | assumption | exact Ne.symm ‹_›) ?_))) (by (repeat' first | assumption | exact hS | exact Hp.one_get _ _ | refine hT (by first | assumption | exact Ne.symm ‹_›) ?_))) (hop_add rfl rfl (by omega) ?_)
 try simp only [nfa, Nat.reduceAdd]
 refine dT 9 rfl (by decide +kernel) rfl (Sub.emp_set (Sub.one (by (repeat' first | assumption | exact hS | exact Hp.one_get _ _ | refine hT (by first | assumption | exact Ne.symm ‹_›) ?_))) (by (repeat' first | assumption | exact hS | exact Hp.one_get _ _ | refine hT (by first | assumption | exact Ne.symm ‹_›) ?_))) (hop_loadA rfl (by (repeat' first | assumption | exact hS | exact Hp.one_get _ _ | refine hT (by first | assumption | exact Ne.symm ‹_›) ?_)) (by first | assumption | omega | (simp; done) | (simp; omega) | (simp [frc] <;> omega)) ?_)
 try simp only [nfa, Nat.reduceAdd]
 refine hD_do 10 rfl (by decide +kernel) rfl (hop_call ?_)
 simp only [nfa, Nat.reduceAdd]
 refine HT.mono (req_Clone (hd.sub (by first | ((repeat' first | assumption | exact Sub.refl _ | refine Sub.over ?_ ‹_› _); done) | (intro _ _ h; simp only [Hp.set] at h ⊢; grind))) (by omega)) ?_
 rintro _ G1 ⟨dv2, Hn, rfl, hdn, sn, dn, s1⟩
 obtain ⟨na, nc, rfl⟩ := hdn.len
 try simp only [nf, nf2]
 have G1_b1 := s1 b1 _ (by (repeat' first | assumption | exact hS | exact Hp.one_get _ _ | refine hT (by first | assumption | exact Ne.symm ‹_›) ?_))
 have G1_t := s1 t _ (by (repeat' first | assumption | exact hS | exact Hp.one_get _ _ | refine hT (by first | assumption | exact Ne.symm ‹_›) ?_))
 refine ⟨.inr (Sub.emp_set (Sub.one (by (repeat' first | assumption | exact hS | exact Hp.one_get _ _ | refine hT (by first | assumption | exact Ne.symm ‹_›) ?_))) (by (repeat' first | assumption | exact hS | exact Hp.one_get _ _ | refine hT (by first | assumption | exact Ne.symm ‹_›) ?_))), ?_⟩
 try simp only [nfa, Nat.reduceAdd]
 refine dT 11 rfl (by decide +kernel) rfl (Sub.emp_set (Sub.one (by (repeat' first | assumption | exact hS | exact Hp.one_get _ _ | refine hT (by first | assumption | exact Ne.symm ‹_›) ?_))) (by (repeat' first | assumption | exact hS | exact Hp.one_get _ _ | refine hT (by first | assumption | exact Ne.symm ‹_›) ?_))) (hop_build (L := [.int .i64 (s.t.ids + 1), .int .i64 op, .int .i64 page, .int .i64 off, .int .i64 len, .slice na bs.length nc]) (by simp only [fillL, wr, Value.cells, List.map_cons, List.map_nil, nf, nf2]; rfl) ?_)
 try simp only [nfa, Nat.reduceAdd]
 refine hD_do 12 rfl (by decide +kernel) rfl (hop_call ?_)
 simp only [nfa, Nat.reduceAdd]
 refine HT.mono (qh_Put_full (hqq.sub (Sub.trans' s1 h.sr (by first | ((repeat' first | assumption | exact Sub.refl _ | refine Sub.over ?_ ‹_› _); done) | (intro _ _ h; simp only [Hp.set] at h ⊢; grind)))) hfull (j := ⟨s.t.ids + 1, ⟨op, page, off, len, .slice na bs.length nc⟩⟩)) ?_
 rintro _ _ ⟨rfl, rfl⟩
 try simp only [nf, nf2]
 refine ⟨.inr (Sub.emp_set (Sub.one (by (repeat' first | assumption | exact hS | exact Hp.one_get _ _ | refine hT (by first | assumption | exact Ne.symm ‹_›) ?_))) (by (repeat' first | assumption | exact hS | exact Hp.one_get _ _ | refine hT (by first | assumption | exact Ne.symm ‹_›) ?_))), ?_⟩
 try simp only [nfa, Nat.reduceAdd]
 refine dT 13 rfl (by decide +kernel) rfl (Sub.emp_set (Sub.one (by (repeat' first | assumption | exact hS | exact Hp.one_get _ _ | refine hT (by first | assumption | exact Ne.symm ‹_›) ?_))) (by (repeat' first | assumption | exact hS | exact Hp.one_get _ _ | refine hT (by first | assumption | exact Ne.symm ‹_›) ?_))) (hop_assign ?_)
 try simp only [nfa, Nat.reduceAdd]
 refine hD_done (by decide +kernel) ?_
 try simp only [nfa, Nat.reduceAdd]
 refine sR ?_
 refine oM ?_
 try simp only [nfa, Nat.reduceAdd]
 refine hops_cons rfl (hop_bin rfl rfl rfl ?_)
 try simp only [nfa, Nat.reduceAdd]
 refine hops_nil ?_
 try simp only [nfa, Nat.reduceAdd]
 refine hc_T rfl (by first | rfl | assumption | (simp; done) | (simp; omega) | (simp [*]; done)) ?_
 refine sR ?_
 refine oM ?_
 refine oA ?_
 refine oA ?_
 try simp only [nfa, Nat.reduceAdd]
 refine hops_nil ?_
 try simp only [nfa, Nat.reduceAdd]
 refine hc_ret ?_
 try simp only [hng, hthen, hblock]
 apply hend_2 rfl ?es RV.tmp RV.tmp ?eR
 case es => exact Sub.refl _
 case eR =>
  exact ⟨rfl, Sub.trans (by first | ((repeat' first | assumption | exact Sub.refl _ | refine Sub.over ?_ ‹_› _); done) | (intro _ _ h; simp only [Hp.set] at h ⊢; grind)) s1⟩
theorem ten_Submit_ok {G Hm R : Hp} {t m p : Nat} {s : Ts} {tick : Int} (h : TPart G Hm R t m p s) {op page off len : Int} {dv : Value} {bs : List UInt8} (hd : dOk G dv bs) (hI : TInv s) (hc : chk s.t.pages op page off len bs = 0) (hlt : s.t.q.length < s.t.dep) (hids : 0 ≤ s.t.ids ∧ s.t.ids ≤ 1000000000) (hol : s.t.out.length + s.t.q.length + 1 ≤ 1000000) :
    HT prog 12 #[.pointer (some ⟨t, 0, none⟩), .agg #[.int .i64 op, .int .i64 page, .int .i64 off, .int .i64 len, dv], .int .i64 tick] G (fun v G' => ∃ Hm' R', v = .tuple #[.int .i64 (s.t.ids + 1), .int .i64 0] ∧ TPart G' Hm' R' t m p (s.acc (rvOf op page off len bs) tick) ∧ TInv (s.acc (rvOf op page off len bs) tick) ∧ Fram Hm R G Hm' R' G') := by
 obtain ⟨q, ov, ht, hqq, hout, hcn⟩ := h.ten
 have htG := h.sr _ _ ht
 obtain ⟨da, dc, rfl⟩ := hd.len
 have hchk := chk_ok hc
 have hid := hids
 refine ht_of_body (args := [.pointer (some ⟨t, 0, none⟩), .agg #[.int .i64 op, .int .i64 page, .int .i64 off, .int .i64 len, .slice da bs.length dc], .int .i64 tick]) func12 rfl ?_
 simp only [ntmps12, List.length_cons, List.length_nil, Nat.reduceAdd, Nat.reduceSub, List.replicate_succ, List.replicate_zero, List.cons_append, List.nil_append]
 refine sR ?_
 refine hops_cons rfl (hop_box rfl rfl ?_)
 intro b1 hb1
 have hb1' := hb1
 try simp only [Hp.set_none, Hp.del_none] at hb1'
 have hb1_n : G b1 = none := by first | exact hb1' | exact hb1'.2 | exact hb1'.2.2 | exact hb1'.2.2.2 | exact hb1'.2.2.2.2 | exact hb1'.2.2.2.2.2 | exact hb1'.2.2.2.2.2.2
 have hb1_t : b1 ≠ t := (Hp.ne_of htG hb1_n).symm
 clear hb1'
 try simp only [nfa, Nat.reduceAdd]
 refine oA ?_
 refine oA ?_
 try simp only [nfa, Nat.reduceAdd]
 refine hops_nil ?_
 try simp only [nfa, Nat.reduceAdd]
 refine hc_seq ?_
 refine hc_seq ?_
 refine hc_draw0 follows (by intros; simp [hng, hthen, hblock, hend]) ?_
 refine dT 0 rfl (by decide +kernel) rfl (by first | ((repeat' first | assumption | exact Sub.refl _ | refine Sub.over ?_ ‹_› _); done) | (intro _ _ h; simp only [Hp.set] at h ⊢; grind)) (hop_loadA rfl (by (repeat' first | assumption | exact hS | exact Hp.one_get _ _ | refine hT (by first | assumption | exact Ne.symm ‹_›) ?_)) (by first | assumption | omega | (simp; done) | (simp; omega) | (simp [frc] <;> omega)) ?_)
 try simp only [nfa, Nat.reduceAdd]
 refine dT 1 rfl (by decide +kernel) rfl (by first | ((repeat' first | assumption | exact Sub.refl _ | refine Sub.over ?_ ‹_› _); done) | (intro _ _ h; simp only [Hp.set] at h ⊢; grind)) (hop_move ?_)
 try simp only [nfa, Nat.reduceAdd]
 refine dT 2 rfl (by decide +kernel) rfl (by first | ((repeat' first | assumption | exact Sub.refl _ | refine Sub.over ?_ ‹_› _); done) | (intro _ _ h; simp only [Hp.set] at h ⊢; grind)) (hop_nilCheck rfl ?_)
 try simp only [nfa, Nat.reduceAdd]
 refine dT 3 rfl (by decide +kernel) rfl (by first | ((repeat' first | assumption | exact Sub.refl _ | refine Sub.over ?_ ‹_› _); done) | (intro _ _ h; simp only [Hp.set] at h ⊢; grind)) (hop_fieldAddr rfl ?_)
 try simp only [nfa, Nat.reduceAdd]
 refine dT 4 rfl (by decide +kernel) rfl (by first | ((repeat' first | assumption | exact Sub.refl _ | refine Sub.over ?_ ‹_› _); done) | (intro _ _ h; simp only [Hp.set] at h ⊢; grind)) (hop_load rfl (by (repeat' first | assumption | exact hS | exact Hp.one_get _ _ | refine hT (by first | assumption | exact Ne.symm ‹_›) ?_)) (by first | rfl | assumption | exact mid_get0 rfl | exact mid_get rfl | (simp; done)) ?_)
 try simp only [nfa, Nat.reduceAdd]
 refine hD_do 5 rfl (by decide +kernel) rfl (hop_call ?_)
 simp only [nfa, Nat.reduceAdd]
 refine HT.mono (req_Check_all (hd.sub (by first | ((repeat' first | assumption | exact Sub.refl _ | refine Sub.over ?_ ‹_› _); done) | (intro _ _ h; simp only [Hp.set] at h ⊢; grind)))) ?_
 rintro _ _ ⟨rfl, rfl⟩
 try simp only [nf, nf2]
 refine ⟨.inr (by first | ((repeat' first | assumption | exact Sub.refl _ | refine Sub.over ?_ ‹_› _); done) | (intro _ _ h; simp only [Hp.set] at h ⊢; grind)), ?_⟩
 try simp only [nfa, Nat.reduceAdd]
 refine dT 6 rfl (by decide +kernel) rfl (by first | ((repeat' first | assumption | exact Sub.refl _ | refine Sub.over ?_ ‹_› _); done) | (intro _ _ h; simp only [Hp.set] at h ⊢; grind)) (hop_assign ?_)
 try simp only [nfa, Nat.reduceAdd]
 refine hD_done (by decide +kernel) ?_
 try simp only [nfa, Nat.reduceAdd]
 refine sR ?_
 refine oM ?_
 try simp only [nfa, Nat.reduceAdd]
 refine hops_cons rfl (hop_bin rfl rfl rfl ?_)
 try simp only [nfa, Nat.reduceAdd]
 refine hops_nil ?_
 try simp only [nfa, Nat.reduceAdd]
 refine hc_F rfl (by first | rfl | assumption | (simp; done) | (simp; omega) | (simp [*]; done)) ?_
 refine hc_skip ?_
 try simp only [nfa, Nat.reduceAdd]
 refine hc_seq ?_
 refine hc_seq ?_
 refine hc_draw ((Hp.one b1 (row [.int .i64 op, .int .i64 page, .int .i64 off, .int .i64 len, .slice da bs.length dc] 41)).set t (row (tRow m p q s.t.pages s.t.ids s.t.cn ov) 61)) follows (by intros; simp [hng, hthen, hblock, hend]) ?_
 refine dT 0 rfl (by decide +kernel) rfl (Sub.emp_set (Sub.one (by (repeat' first | assumption | exact hS | exact Hp.one_get _ _ | refine hT (by first | assumption | exact Ne.symm ‹_›) ?_))) (by (repeat' first | assumption | exact hS | exact Hp.one_get _ _ | refine hT (by first | assumption | exact Ne.symm ‹_›) ?_))) (hop_move ?_)
 try simp only [nfa, Nat.reduceAdd]
 refine dT 1 rfl (by decide +kernel) rfl (Sub.emp_set (Sub.one (by (repeat' first | assumption | exact hS | exact Hp.one_get _ _ | refine hT (by first | assumption | exact Ne.symm ‹_›) ?_))) (by (repeat' first | assumption | exact hS | exact Hp.one_get _ _ | refine hT (by first | assumption | exact Ne.symm ‹_›) ?_))) (hop_nilCheck rfl ?_)
 try simp only [nfa, Nat.reduceAdd]
 refine dT 2 rfl (by decide +kernel) rfl (Sub.emp_set (Sub.one (by (repeat' first | assumption | exact hS | exact Hp.one_get _ _ | refine hT (by first | assumption | exact Ne.symm ‹_›) ?_))) (by (repeat' first | assumption | exact hS | exact Hp.one_get _ _ | refine hT (by first | assumption | exact Ne.symm ‹_›) ?_))) (hop_fieldAddr rfl ?_)
 try simp only [nfa, Nat.reduceAdd]
 refine dT 3 rfl (by decide +kernel) rfl (Sub.emp_set (Sub.one (by (repeat' first | assumption | exact hS | exact Hp.one_get _ _ | refine hT (by first | assumption | exact Ne.symm ‹_›) ?_))) (by (repeat' first | assumption | exact hS | exact Hp.one_get _ _ | refine hT (by first | assumption | exact Ne.symm ‹_›) ?_))) (hop_load rfl (by (repeat' first | assumption | exact hS | exact Hp.one_get _ _ | refine hT (by first | assumption | exact Ne.symm ‹_›) ?_)) (by first | rfl | assumption | exact mid_get0 rfl | exact mid_get rfl | (simp; done)) ?_)
 try simp only [nfa, Nat.reduceAdd]
 refine dT 4 rfl (by decide +kernel) rfl (Sub.emp_set (Sub.one (by (repeat' first | assumption | exact hS | exact Hp.one_get _ _ | refine hT (by first | assumption | exact Ne.symm ‹_›) ?_))) (by (repeat' first | assumption | exact hS | exact Hp.one_get _ _ | refine hT (by first | assumption | exact Ne.symm ‹_›) ?_))) (hop_move ?_)
 try simp only [nfa, Nat.reduceAdd]
 refine dT 5 rfl (by decide +kernel) rfl (Sub.emp_set (Sub.one (by (repeat' first | assumption | exact hS | exact Hp.one_get _ _ | refine hT (by first | assumption | exact Ne.symm ‹_›) ?_))) (by (repeat' first | assumption | exact hS | exact Hp.one_get _ _ | refine hT (by first | assumption | exact Ne.symm ‹_›) ?_))) (hop_nilCheck rfl ?_)
 try simp only [nfa, Nat.reduceAdd]
 refine dT 6 rfl (by decide +kernel) rfl (Sub.emp_set (Sub.one (by (repeat' first | assumption | exact hS | exact Hp.one_get _ _ | refine hT (by first | assumption | exact Ne.symm ‹_›) ?_))) (by (repeat' first | assumption | exact hS | exact Hp.one_get _ _ | refine hT (by first | assumption | exact Ne.symm ‹_›) ?_))) (hop_fieldAddr rfl ?_)
 try simp only [nfa, Nat.reduceAdd]
 refine dT 7 rfl (by decide +kernel) rfl (Sub.emp_set (Sub.one (by (repeat' first | assumption | exact hS | exact Hp.one_get _ _ | refine hT (by first | assumption | exact Ne.symm ‹_›) ?_))) (by (repeat' first | assumption | exact hS | exact Hp.one_get _ _ | refine hT (by first | assumption | exact Ne.symm ‹_›) ?_))) (hop_load rfl (by (repeat' first | assumption | exact hS | exact Hp.one_get _ _ | refine hT (by first | assumption | exact Ne.symm ‹_›) ?_)) (by first | rfl | assumption | exact mid_get0 rfl | exact mid_get rfl | (simp; done)) ?_)
 try simp only [nfa, Nat.reduceAdd]
 refine dT 8 rfl (by decide +kernel) rfl (Sub.emp_set (Sub.one (by (repeat' first | assumption | exact hS | exact Hp.one_get _ _ | refine hT (by first | assumption | exact Ne.symm ‹_›) ?_))) (by (repeat' first | assumption | exact hS | exact Hp.one_get _ _ | refine hT (by first | assumption | exact Ne.symm ‹_›) ?_))) (hop_add rfl rfl (by omega) ?_)
 try simp only [nfa, Nat.reduceAdd]
 refine dT 9 rfl (by decide +kernel) rfl (Sub.emp_set (Sub.one (by (repeat' first | assumption | exact hS | exact Hp.one_get _ _ | refine hT (by first | assumption | exact Ne.symm ‹_›) ?_))) (by (repeat' first | assumption | exact hS | exact Hp.one_get _ _ | refine hT (by first | assumption | exact Ne.symm ‹_›) ?_))) (hop_loadA rfl (by (repeat' first | assumption | exact hS | exact Hp.one_get _ _ | refine hT (by first | assumption | exact Ne.symm ‹_›) ?_)) (by first | assumption | omega | (simp; done) | (simp; omega) | (simp [frc] <;> omega)) ?_)
 try simp only [nfa, Nat.reduceAdd]
 refine hD_do 10 rfl (by decide +kernel) rfl (hop_call ?_)
 simp only [nfa, Nat.reduceAdd]
 refine HT.mono (req_Clone (hd.sub (by first | ((repeat' first | assumption | exact Sub.refl _ | refine Sub.over ?_ ‹_› _); done) | (intro _ _ h; simp only [Hp.set] at h ⊢; grind))) (by omega)) ?_
 rintro _ G1 ⟨dv2, Hn, rfl, hdn, sn, dn, s1⟩
 obtain ⟨na, nc, rfl⟩ := hdn.len
 try simp only [nf, nf2]
 have G1_b1 := s1 b1 _ (by (repeat' first | assumption | exact hS | exact Hp.one_get _ _ | refine hT (by first | assumption | exact Ne.symm ‹_›) ?_))
 have G1_t := s1 t _ (by (repeat' first | assumption | exact hS | exact Hp.one_get _ _ | refine hT (by first | assumption | exact Ne.symm ‹_›) ?_))
 refine ⟨.inr (Sub.emp_set (Sub.one (by (repeat' first | assumption | exact hS | exact Hp.one_get _ _ | refine hT (by first | assumption | exact Ne.symm ‹_›) ?_))) (by (repeat' first | assumption | exact hS | exact Hp.one_get _ _ | refine hT (by first | assumption | exact Ne.symm ‹_›) ?_))), ?_⟩
 try simp only [nfa, Nat.reduceAdd]
 refine dT 11 rfl (by decide +kernel) rfl (Sub.emp_set (Sub.one (by (repeat' first | assumption | exact hS | exact Hp.one_get _ _ | refine hT (by first | assumption | exact Ne.symm ‹_›) ?_))) (by (repeat' first | assumption | exact hS | exact Hp.one_get _ _ | refine hT (by first | assumption | exact Ne.symm ‹_›) ?_))) (hop_build (L := [.int .i64 (s.t.ids + 1), .int .i64 op, .int .i64 page, .int .i64 off, .int .i64 len, .slice na bs.length nc]) (by simp only [fillL, wr, Value.cells, List.map_cons, List.map_nil, nf, nf2]; rfl) ?_)
 try simp only [nfa, Nat.reduceAdd]
 refine hD_do 12 rfl (by decide +kernel) rfl (hop_call ?_)
 simp only [nfa, Nat.reduceAdd]
 have dnH : Disj Hn G := dn.sub (.refl _) (by first | ((repeat' first | assumption | exact Sub.refl _ | refine Sub.over ?_ ‹_› _); done) | (intro _ _ h; simp only [Hp.set] at h ⊢; grind))
 have dmr : Disj Hm (R.un Hn) := Disj.un_r h.dj (dnH.sub (.refl _) h.sm).symm
 have drn : Disj R Hn := (dnH.sub (.refl _) h.sr).symm
 have sG : Sub G G1 := Sub.trans (by first | ((repeat' first | assumption | exact Sub.refl _ | refine Sub.over ?_ ‹_› _); done) | (intro _ _ h; simp only [Hp.set] at h ⊢; grind)) s1
 have eo : (off.toNat : Int) = off := by omega
 have el : (len.toNat : Int) = len := by omega
 refine HT.mono (ten_put (j := ⟨s.t.ids + 1, rvOf op page off len bs⟩) (dv := .slice na bs.length nc) (h.sm.trans sG) (Sub.un (h.sr.trans sG) sn) dmr (Sub.un_l _ _ _ _ ht) (hqq.sub (Sub.un_l _ _)) (hout.sub (Sub.un_l _ _)) hlt (hdn.sub (Sub.un_r drn)) |> fun hh => by rw [show jc (jbv ⟨s.t.ids + 1, rvOf op page off len bs⟩ (.slice na bs.length nc)) = [.int .i64 (s.t.ids + 1), .int .i64 op, .int .i64 page, .int .i64 off, .int .i64 len, .slice na bs.length nc] by simp [jc, rqc, jbv, rvOf, eo, el]] at hh; exact hh) ?_
 rintro _ G2 ⟨R2, rfl, sm2, sr2, dj2, ht2, hq2, ho2, fr2⟩
 have G2_t := sr2 _ _ ht2
 have nun : ∀ {b}, G b = none → G1 b ≠ none → Hn b = none → (R.un Hn) b = none := fun h1 _ h3 => by simp [Hp.un, h.sr.unk h1, h3]
 have nb1 : Hn b1 = none := dn.get (Hp.set_same _ _ _)
 have G2_b1 := (fr2 b1 _ (h.sm.unk hb1_n) (by simp [Hp.un, h.sr.unk hb1_n, nb1]) G1_b1).1
 try simp only [nf, nf2]
 refine ⟨.inr (Sub.emp_set (Sub.one (by (repeat' first | assumption | exact hS | exact Hp.one_get _ _ | refine hT (by first | assumption | exact Ne.symm ‹_›) ?_))) (by (repeat' first | assumption | exact hS | exact Hp.one_get _ _ | refine hT (by first | assumption | exact Ne.symm ‹_›) ?_))), ?_⟩
 try simp only [nfa, Nat.reduceAdd]
 refine dT 13 rfl (by decide +kernel) rfl (Sub.emp_set (Sub.one (by (repeat' first | assumption | exact hS | exact Hp.one_get _ _ | refine hT (by first | assumption | exact Ne.symm ‹_›) ?_))) (by (repeat' first | assumption | exact hS | exact Hp.one_get _ _ | refine hT (by first | assumption | exact Ne.symm ‹_›) ?_))) (hop_assign ?_)
 try simp only [nfa, Nat.reduceAdd]
 refine hD_done (by decide +kernel) ?_
 try simp only [nfa, Nat.reduceAdd]
 refine sR ?_
 refine oM ?_
 try simp only [nfa, Nat.reduceAdd]
 refine hops_cons rfl (hop_bin rfl rfl rfl ?_)
 try simp only [nfa, Nat.reduceAdd]
 refine hops_nil ?_
 try simp only [nfa, Nat.reduceAdd]
 refine hc_F rfl (by first | rfl | assumption | (simp; done) | (simp; omega) | (simp [*]; done)) ?_
 refine hc_skip ?_
 try simp only [nfa, Nat.reduceAdd]
 refine sR ?_
 refine oM ?_
 refine oN rfl ?_
 refine oF rfl ?_
 refine hops_cons rfl (hop_load rfl (by (repeat' first | assumption | exact hS | exact Hp.one_get _ _ | refine hT (by first | assumption | exact Ne.symm ‹_›) ?_)) (by first | rfl | assumption | exact mid_get0 rfl | exact mid_get rfl | (simp; done)) ?_)
 try simp only [nfa, Nat.reduceAdd]
 refine hops_cons rfl (hop_add rfl rfl (by omega) ?_)
 try simp only [nfa, Nat.reduceAdd]
 refine oN rfl ?_
 refine oF rfl ?_
 try simp only [nfa, Nat.reduceAdd]
 refine hops_cons rfl (hop_store rfl rfl rfl (by (repeat' first | assumption | exact hS | exact Hp.one_get _ _ | refine hT (by first | assumption | exact Ne.symm ‹_›) ?_)) (by simp [tRow]) ?_)
 try simp only [nfa, Nat.reduceAdd]
 refine hops_nil ?_
 try simp only [nfa, Nat.reduceAdd]
 refine sR ?_
 refine oM ?_
 refine oN rfl ?_
 refine oF rfl ?_
 refine hops_cons rfl (hop_load rfl (by (repeat' first | assumption | exact hS | exact Hp.one_get _ _ | refine hT (by first | assumption | exact Ne.symm ‹_›) ?_)) (by first | rfl | assumption | exact mid_get0 rfl | exact mid_get rfl | (simp; done)) ?_)
 try simp only [nfa, Nat.reduceAdd]
 refine oA ?_
 try simp only [nfa, Nat.reduceAdd]
 refine hops_nil ?_
 try simp only [nfa, Nat.reduceAdd]
 refine sR ?_
 refine oM ?_
 refine oM ?_
 refine hops_cons rfl (hop_call ?_)
 simp only [nfa, Nat.reduceAdd]
 have hP2 : TPart (G2.set t (row (tRow m p q s.t.pages (s.t.ids + 1) s.t.cn ov) 61)) Hm (R2.set t (row (tRow m p q s.t.pages (s.t.ids + 1) s.t.cn ov) 61)) t m p ⟨s.m, ⟨s.t.pages, s.t.ids + 1, s.t.dep, s.t.q ++ [⟨s.t.ids + 1, rvOf op page off len bs⟩], s.t.cn, s.t.out⟩⟩ := ⟨Sub.over sm2 (dj2.get ht2) _, sr2.set _ _, dj2.set_r (dj2.get ht2) _, h.mach, q, ov, Hp.set_same _ _ _, hq2.updT ht2 (by decide) (by decide) (by decide), ho2.updT ht2 (by decide) (by decide), hcn⟩
 have hI2 : TInv ⟨s.m, ⟨s.t.pages, s.t.ids + 1, s.t.dep, s.t.q ++ [⟨s.t.ids + 1, rvOf op page off len bs⟩], s.t.cn, s.t.out⟩⟩ := ⟨hI.inv, fun _ => by simp, fun j hj => by
   rcases List.mem_append.1 hj with h1 | h1
   · exact hI.jobs j h1
   · simp only [List.mem_cons, List.not_mem_nil, or_false] at h1; subst h1; exact rvOf_ok hc⟩
 refine HT.mono (ten_run hP2 hI2 (by simp; omega)) ?_
 rintro _ G3 ⟨Hm3, R3, rfl, hP3, hI3, fr3⟩
 try simp only [nf, nf2]
 refine hops_nil ?_
 try simp only [nfa, Nat.reduceAdd]
 refine sR ?_
 refine oM ?_
 refine oA ?_
 refine oA ?_
 try simp only [nfa, Nat.reduceAdd]
 refine hops_nil ?_
 try simp only [nfa, Nat.reduceAdd]
 refine hc_ret ?_
 try simp only [hng, hthen, hblock]
 apply hend_2 rfl ?es RV.tmp RV.tmp ?eR
 case es => exact Sub.refl _
 case eR =>
  have eacc : Ts.run ((s.t.q ++ [(⟨s.t.ids + 1, rvOf op page off len bs⟩ : Jm)]).length + 1) ⟨s.m, ⟨s.t.pages, s.t.ids + 1, s.t.dep, s.t.q ++ [⟨s.t.ids + 1, rvOf op page off len bs⟩], s.t.cn, s.t.out⟩⟩ tick = s.acc (rvOf op page off len bs) tick := by simp [Ts.acc]
  rw [eacc] at hP3 hI3
  refine ⟨Hm3, R3, rfl, hP3, hI3, fun c x h1 h2 hx => ?_⟩
  have hct : c ≠ t := by intro e; subst e; rw [ht] at h2; cases h2
  have e0 := sG _ _ hx
  have e1 : (R.un Hn) c = none := by simp [Hp.un, h2, dnH.get hx]
  obtain ⟨e3, e4, e5⟩ := fr2 c x h1 e1 e0
  exact fr3 c x e4 (by rw [Hp.set_ne _ _ hct]; exact e5) (by rw [Hp.set_ne _ _ hct]; exact e3)
end Go.Proofs.Try
