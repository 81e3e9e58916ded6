/- A part of the proofs over the tenants of a page cache: lemmas on what is known of the memory, and contracts of the Go functions. -/
import Derived.Test.YtckokpmljhhhcaaM6
import Derived.Test.YtckokpmljhhhcaaTe
set_option linter.unusedVariables false
set_option linter.unusedSimpArgs false
namespace Go.Proofs.Try
open Go Go.H
set_option linter.unusedSimpArgs false
set_option linter.unusedVariables false
set_option maxRecDepth 100000
set_option maxHeartbeats 2000000
theorem tenant_Out {H : Hp} {t m p q : Nat} {pages ids : Int} {c0 c1 c2 c3 c4 c5 : Nat} {ov : Value} (ht : H t = some (row [.pointer (some ⟨m, 0, none⟩), .pointer (some ⟨p, 0, none⟩), .pointer (some ⟨q, 0, none⟩), .int .i64 pages, .int .i64 ids, .int .u64 (c0 : Int), .int .u64 (c1 : Int), .int .u64 (c2 : Int), .int .u64 (c3 : Int), .int .u64 (c4 : Int), .int .u64 (c5 : Int), ov] 61)) :
    HT prog 15 #[.pointer (some ⟨t, 0, none⟩)] H (fun v H' => v = ov ∧ H' = H.set t (row [.pointer (some ⟨m, 0, none⟩), .pointer (some ⟨p, 0, none⟩), .pointer (some ⟨q, 0, none⟩), .int .i64 pages, .int .i64 ids, .int .u64 (c0 : Int), .int .u64 (c1 : Int), .int .u64 (c2 : Int), .int .u64 (c3 : Int), .int .u64 (c4 : Int), .int .u64 (c5 : Int), .slice none 0 0] 61)) := by
 refine ht_of_body (args := [.pointer (some ⟨t, 0, none⟩)]) func15 rfl ?_
 simp only [ntmps15, List.length_cons, List.length_nil, Nat.reduceAdd, Nat.reduceSub, List.replicate_succ, List.replicate_zero, List.cons_append, List.nil_append]
 refine sR ?_
 refine oA ?_
 try simp only [nfa, Nat.reduceAdd]
 refine hops_nil ?_
 try simp only [nfa, Nat.reduceAdd]
 refine sR ?_
 refine oM ?_
 refine oN rfl ?_
 refine oF rfl ?_
 refine hops_cons rfl (hop_load rfl (by (repeat' first | assumption | exact hS | exact Hp.one_get _ _ | refine hT (by first | assumption | exact Ne.symm ‹_›) ?_)) (by first | rfl | assumption | exact mid_get0 rfl | exact mid_get rfl | (simp; done)) ?_)
 try simp only [nfa, Nat.reduceAdd]
 refine oA ?_
 try simp only [nfa, Nat.reduceAdd]
 refine hops_nil ?_
 try simp only [nfa, Nat.reduceAdd]
 refine sR ?_
 refine oM ?_
 refine oN rfl ?_
 refine oF rfl ?_
 refine hops_cons rfl (hop_store rfl rfl (by first | rfl | assumption) (by (repeat' first | assumption | exact hS | exact Hp.one_get _ _ | refine hT (by first | assumption | exact Ne.symm ‹_›) ?_)) (by first | assumption | omega | (simp; done) | (simp; omega) | (simp [frc] <;> omega)) ?_)
 try simp only [nfa, Nat.reduceAdd]
 refine hops_nil ?_
 try simp only [nfa, Nat.reduceAdd]
 refine sR ?_
 refine oM ?_
 refine oA ?_
 try simp only [nfa, Nat.reduceAdd]
 refine hops_nil ?_
 try simp only [nfa, Nat.reduceAdd]
 refine hc_ret ?_
 try simp only [hng, hthen, hblock]
 apply hend_1 rfl ?es RV.tmp ?eR
 case eR =>
  first | exact ⟨rfl, rfl⟩ | (refine ⟨?_, rfl⟩; simp)
 case es => first | ((repeat' first | assumption | exact Sub.refl _ | refine Sub.over ?_ ‹_› _); done) | (intro _ _ h; simp only [Hp.set] at h ⊢; grind)
theorem tenant_Count {H : Hp} {t m p q : Nat} {pages ids : Int} {c0 c1 c2 c3 c4 c5 : Nat} {ov : Value} (ht : H t = some (row [.pointer (some ⟨m, 0, none⟩), .pointer (some ⟨p, 0, none⟩), .pointer (some ⟨q, 0, none⟩), .int .i64 pages, .int .i64 ids, .int .u64 (c0 : Int), .int .u64 (c1 : Int), .int .u64 (c2 : Int), .int .u64 (c3 : Int), .int .u64 (c4 : Int), .int .u64 (c5 : Int), ov] 61)) :
    HT prog 16 #[.pointer (some ⟨t, 0, none⟩)] H (fun v H' => v = .agg #[.int .u64 (c0 : Int), .int .u64 (c1 : Int), .int .u64 (c2 : Int), .int .u64 (c3 : Int), .int .u64 (c4 : Int), .int .u64 (c5 : Int)] ∧ H = H') := by
 refine ht_of_body (args := [.pointer (some ⟨t, 0, none⟩)]) func16 rfl ?_
 simp only [ntmps16, List.length_cons, List.length_nil, Nat.reduceAdd, Nat.reduceSub, List.replicate_succ, List.replicate_zero, List.cons_append, List.nil_append]
 refine sR ?_
 refine hops_cons rfl (hop_alloc (zl := [.int .u64 0, .int .u64 0, .int .u64 0, .int .u64 0, .int .u64 0, .int .u64 0]) rfl ?_)
 intro b1 hb1
 have hb1' := hb1
 try simp only [Hp.set_none, Hp.del_none] at hb1'
 have hb1_n : H b1 = none := by first | exact hb1' | exact hb1'.2 | exact hb1'.2.2 | exact hb1'.2.2.2 | exact hb1'.2.2.2.2 | exact hb1'.2.2.2.2.2 | exact hb1'.2.2.2.2.2.2
 have hb1_t : b1 ≠ t := (Hp.ne_of ht hb1_n).symm
 clear hb1'
 try simp only [nfa, Nat.reduceAdd]
 refine hops_nil ?_
 try simp only [nfa, Nat.reduceAdd]
 refine sR ?_
 refine oM ?_
 refine oN rfl ?_
 refine oF rfl ?_
 refine hops_cons rfl (hop_loadA rfl (by (repeat' first | assumption | exact hS | exact Hp.one_get _ _ | refine hT (by first | assumption | exact Ne.symm ‹_›) ?_)) (by first | assumption | omega | (simp; done) | (simp; omega) | (simp [frc] <;> omega)) ?_)
 try simp only [nfa, Nat.reduceAdd]
 refine hops_cons rfl (hop_storeA rfl rfl (by rfl) (by first | assumption | (repeat' first | (intro _ h; cases h; done) | refine List.forall_mem_cons.2 ⟨by first | rfl | assumption, ?_⟩) | (simp [Value.oneCell']; done) | (simp [Value.oneCell', *]; done)) (by (repeat' first | assumption | exact hS | exact Hp.one_get _ _ | refine hT (by first | assumption | exact Ne.symm ‹_›) ?_)) (by first | assumption | omega | (simp; done) | (simp; omega) | (simp [frc] <;> omega)) (by decide) ?_)
 try simp only [nfa, Nat.reduceAdd]
 refine hops_nil ?_
 try simp only [nfa, Nat.reduceAdd]
 refine hc_ret ?_
 try simp only [hng, hthen, hblock]
 apply hend_1 rfl ?es (RV.cellW rfl (by (repeat' first | assumption | exact hS | exact Hp.one_get _ _ | refine hT (by first | assumption | exact Ne.symm ‹_›) ?_)) (by simp)) ?eR
 case eR =>
  first | exact ⟨rfl, rfl⟩ | (refine ⟨?_, rfl⟩; simp)
 case es => first | ((repeat' first | assumption | exact Sub.refl _ | refine Sub.over ?_ ‹_› _); done) | (intro _ _ h; simp only [Hp.set] at h ⊢; grind)
theorem ten_Out {G Hm R : Hp} {t m p : Nat} {s : Ts} (h : TPart G Hm R t m p s) : HT prog 15 #[.pointer (some ⟨t, 0, none⟩)] G (fun v G' => ∃ R', OutH R' v s.t.out ∧ TPart G' Hm R' t m p ⟨s.m, ⟨s.t.pages, s.t.ids, s.t.dep, s.t.q, s.t.cn, []⟩⟩ ∧ Fram Hm R G Hm R' G') := by
  obtain ⟨sm, sr, dj, hM, q, ov, ht, hq, ho, hc⟩ := h
  obtain ⟨sM, ⟨pages, ids, dep, sq, cn, out⟩⟩ := s
  simp only at *
  obtain ⟨c0, c1, c2, c3, c4, c5, rfl⟩ := six_of hc.1
  refine (tenant_Out (sr _ _ ht)).mono ?_
  rintro _ _ ⟨rfl, rfl⟩
  refine ⟨_, ho.updT (o := row (tRow m p q pages ids [c0, c1, c2, c3, c4, c5] (.slice none 0 0)) 61) ht (by decide) (by decide), ⟨Sub.over sm (dj.get ht) _, sr.set _ _, dj.set_r (dj.get ht) _, hM, q, .slice none 0 0, Hp.set_same _ _ _, hq.updT ht (by decide) (by decide) (by decide), OutH.nil, hc⟩, fun b x h1 h2 hx => ?_⟩
  have hbt : b ≠ t := by intro e; subst e; rw [ht] at h2; cases h2
  exact ⟨by rw [Hp.set_ne _ _ hbt]; exact hx, h1, by rw [Hp.set_ne _ _ hbt]; exact h2⟩
theorem ten_Count {G Hm R : Hp} {t m p : Nat} {s : Ts} (h : TPart G Hm R t m p s) : HT prog 16 #[.pointer (some ⟨t, 0, none⟩)] G (fun v G' => v = .agg (cnc s.t.cn).toArray ∧ G = G') := by
  obtain ⟨sm, sr, dj, hM, q, ov, ht, hq, ho, hc⟩ := h
  obtain ⟨sM, ⟨pages, ids, dep, sq, cn, out⟩⟩ := s
  simp only at *
  obtain ⟨c0, c1, c2, c3, c4, c5, rfl⟩ := six_of hc.1
  exact tenant_Count (sr _ _ ht)
theorem ten_Waits {G Hm R : Hp} {t m p : Nat} {s : Ts} (h : TPart G Hm R t m p s) :
    HT prog 17 #[.pointer (some ⟨t, 0, none⟩)] G (fun v G' => v = .int .i64 (s.t.q.length : Int) ∧ G = G') := by
 obtain ⟨q, ov, ht, hqq, hout, hcn⟩ := h.ten
 have htG := h.sr _ _ ht
 refine ht_of_body (args := [.pointer (some ⟨t, 0, none⟩)]) func17 rfl ?_
 simp only [ntmps17, List.length_cons, List.length_nil, Nat.reduceAdd, Nat.reduceSub, List.replicate_succ, List.replicate_zero, List.cons_append, List.nil_append]
 refine sR ?_
 refine oA ?_
 try simp only [nfa, Nat.reduceAdd]
 refine hops_nil ?_
 try simp only [nfa, Nat.reduceAdd]
 refine sR ?_
 refine oM ?_
 refine oN rfl ?_
 refine oF rfl ?_
 refine hops_cons rfl (hop_load rfl (by (repeat' first | assumption | exact hS | exact Hp.one_get _ _ | refine hT (by first | assumption | exact Ne.symm ‹_›) ?_)) (by first | rfl | assumption | exact mid_get0 rfl | exact mid_get rfl | (simp; done)) ?_)
 try simp only [nfa, Nat.reduceAdd]
 refine hops_cons rfl (hop_call ?_)
 simp only [nfa, Nat.reduceAdd]
 refine HT.mono (qh_Len (hqq.sub h.sr)) ?_
 rintro _ _ ⟨rfl, rfl⟩
 try simp only [nfa, Nat.reduceAdd]
 refine oA ?_
 try simp only [nfa, Nat.reduceAdd]
 refine hops_nil ?_
 try simp only [nfa, Nat.reduceAdd]
 refine hc_ret ?_
 try simp only [hng, hthen, hblock]
 apply hend_1 rfl ?es RV.tmp ?eR
 case eR =>
  first | exact ⟨rfl, rfl⟩ | (refine ⟨?_, rfl⟩; simp)
 case es => first | ((repeat' first | assumption | exact Sub.refl _ | refine Sub.over ?_ ‹_› _); done) | (intro _ _ h; simp only [Hp.set] at h ⊢; grind)
theorem tenant_New_bad {H : Hp} {p : Nat} {d pages : Int} (h : d < 1 ∨ 8 < d ∨ pages < 1 ∨ 64 < pages) :
    HT prog 8 #[.pointer (some ⟨p, 0, none⟩), .int .i64 d, .int .i64 pages] H (fun v H' => v = .tuple #[.pointer none, .int .i64 1] ∧ H = H') := by
 have hb : (((decide (d < 1) || decide (d > 8)) || decide (pages < 1)) || decide (pages > 64)) = true := by simp; omega
 refine ht_of_body (args := [.pointer (some ⟨p, 0, none⟩), .int .i64 d, .int .i64 pages]) func8 rfl ?_
 simp only [ntmps8, List.length_cons, List.length_nil, Nat.reduceAdd, Nat.reduceSub, List.replicate_succ, List.replicate_zero, List.cons_append, List.nil_append]
 refine sR ?_
 refine oA ?_
 refine oA ?_
 try simp only [nfa, Nat.reduceAdd]
 refine hops_nil ?_
 try simp only [nfa, Nat.reduceAdd]
 refine hc_seq ?_
 refine sR ?_
 refine oM ?_
 try simp only [nfa, Nat.reduceAdd]
 refine hops_cons rfl (hop_bin rfl rfl rfl ?_)
 try simp only [nfa, Nat.reduceAdd]
 refine oM ?_
 try simp only [nfa, Nat.reduceAdd]
 first
  | refine hops_off' rfl rfl (by rfl) ?_
  | refine hops_un rfl rfl ?_
  | (refine hops_on' rfl rfl (by rfl) (hop_move ?_))
  | (refine hops_gp (v := ?vg1) rfl rfl (fun hgp => ?hv1) ?hh1; case hv1 => ((try simp only [hgp, if_true, ev, List.getD_cons_zero, List.getD_cons_succ]); refine hop_move ?_; rfl))
 try simp only [nfa, Nat.reduceAdd]
 first
  | refine hops_off' rfl rfl (by rfl) ?_
  | refine hops_un rfl rfl ?_
  | (refine hops_on' rfl rfl (by rfl) (hop_bin rfl rfl rfl ?_))
  | (refine hops_gp (v := ?vg2) rfl rfl (fun hgp => ?hv2) ?hh2; case hv2 => ((try simp only [hgp, if_true, ev, List.getD_cons_zero, List.getD_cons_succ]); refine hop_bin rfl rfl rfl ?_; rfl))
 try simp only [nfa, Nat.reduceAdd]
 refine hops_cons rfl (hop_pick rfl ?_)
 try simp only [nfa, Nat.reduceAdd]
 refine oM ?_
 try simp only [nfa, Nat.reduceAdd]
 first
  | refine hops_off' rfl rfl (by rfl) ?_
  | refine hops_un rfl rfl ?_
  | (refine hops_on' rfl rfl (by rfl) (hop_move ?_))
  | (refine hops_gp (v := ?vg3) rfl rfl (fun hgp => ?hv3) ?hh3; case hv3 => ((try simp only [hgp, if_true, ev, List.getD_cons_zero, List.getD_cons_succ]); refine hop_move ?_; rfl))
 try simp only [nfa, Nat.reduceAdd]
 first
  | refine hops_off' rfl rfl (by rfl) ?_
  | refine hops_un rfl rfl ?_
  | (refine hops_on' rfl rfl (by rfl) (hop_bin rfl rfl rfl ?_))
  | (refine hops_gp (v := ?vg4) rfl rfl (fun hgp => ?hv4) ?hh4; case hv4 => ((try simp only [hgp, if_true, ev, List.getD_cons_zero, List.getD_cons_succ]); refine hop_bin rfl rfl rfl ?_; rfl))
 try simp only [nfa, Nat.reduceAdd]
 refine hops_cons rfl (hop_pick rfl ?_)
 try simp only [nfa, Nat.reduceAdd]
 refine oM ?_
 try simp only [nfa, Nat.reduceAdd]
 first
  | refine hops_off' rfl rfl (by rfl) ?_
  | refine hops_un rfl rfl ?_
  | (refine hops_on' rfl rfl (by rfl) (hop_move ?_))
  | (refine hops_gp (v := ?vg5) rfl rfl (fun hgp => ?hv5) ?hh5; case hv5 => ((try simp only [hgp, if_true, ev, List.getD_cons_zero, List.getD_cons_succ]); refine hop_move ?_; rfl))
 try simp only [nfa, Nat.reduceAdd]
 first
  | refine hops_off' rfl rfl (by rfl) ?_
  | refine hops_un rfl rfl ?_
  | (refine hops_on' rfl rfl (by rfl) (hop_bin rfl rfl rfl ?_))
  | (refine hops_gp (v := ?vg6) rfl rfl (fun hgp => ?hv6) ?hh6; case hv6 => ((try simp only [hgp, if_true, ev, List.getD_cons_zero, List.getD_cons_succ]); refine hop_bin rfl rfl rfl ?_; rfl))
 try simp only [nfa, Nat.reduceAdd]
 refine hops_cons rfl (hop_pick rfl ?_)
 try simp only [nfa, Nat.reduceAdd]
 refine hops_nil ?_
 try simp only [nfa, Nat.reduceAdd]
 refine hc_T rfl (by first | rfl | assumption | (simp; done) | (simp; omega) | (simp [*]; done)) ?_
 refine sR ?_
 refine oA ?_
 refine oA ?_
 try simp only [nfa, Nat.reduceAdd]
 refine hops_nil ?_
 try simp only [nfa, Nat.reduceAdd]
 refine hc_ret ?_
 try simp only [hng, hthen, hblock]
 apply hend_2 rfl ?es RV.tmp RV.tmp ?eR
 case eR =>
  first | exact ⟨rfl, rfl⟩ | (refine ⟨?_, rfl⟩; simp)
 case es => first | ((repeat' first | assumption | exact Sub.refl _ | refine Sub.over ?_ ‹_› _); done) | (intro _ _ h; simp only [Hp.set] at h ⊢; grind)
def Ts.new (pt : Pt) (pages : Int) (d : Nat) : Ts := ⟨⟨pt, 0, 0, [], 0, []⟩, ⟨pages, 0, d, [], z6, []⟩⟩
theorem new_inv (pt : Pt) (pages : Int) (d : Nat) : TInv (Ts.new pt pages d) := ⟨.inl ⟨rfl, rfl⟩, fun h => absurd rfl h, fun j hj => by cases hj⟩
theorem tenant_New {H : Hp} {p d : Nat} {pages : Int} {pt : Pt} (hP : PartH H p pt) (h1 : 1 ≤ d) (h2 : d ≤ 8) (h3 : 1 ≤ pages) (h4 : pages ≤ 64) :
    HT prog 8 #[.pointer (some ⟨p, 0, none⟩), .int .i64 (d : Int), .int .i64 pages] H (fun v H' => ∃ t m Hm R, v = .tuple #[.pointer (some ⟨t, 0, none⟩), .int .i64 0] ∧ TPart H' Hm R t m p (Ts.new pt pages d)) := by
 have hb : (((decide ((d : Int) < 1) || decide ((d : Int) > 8)) || decide (pages < 1)) || decide (pages > 64)) = false := by simp; omega
 refine ht_of_body (args := [.pointer (some ⟨p, 0, none⟩), .int .i64 (d : Int), .int .i64 pages]) func8 rfl ?_
 simp only [ntmps8, List.length_cons, List.length_nil, Nat.reduceAdd, Nat.reduceSub, List.replicate_succ, List.replicate_zero, List.cons_append, List.nil_append]
 refine sR ?_
 refine oA ?_
 refine oA ?_
 try simp only [nfa, Nat.reduceAdd]
 refine hops_nil ?_
 try simp only [nfa, Nat.reduceAdd]
 refine hc_seq ?_
 refine sR ?_
 refine oM ?_
 try simp only [nfa, Nat.reduceAdd]
 refine hops_cons rfl (hop_bin rfl rfl rfl ?_)
 try simp only [nfa, Nat.reduceAdd]
 refine oM ?_
 try simp only [nfa, Nat.reduceAdd]
 first
  | refine hops_off' rfl rfl (by rfl) ?_
  | refine hops_un rfl rfl ?_
  | (refine hops_on' rfl rfl (by rfl) (hop_move ?_))
  | (refine hops_gp (v := ?vg1) rfl rfl (fun hgp => ?hv1) ?hh1; case hv1 => ((try simp only [hgp, if_true, ev, List.getD_cons_zero, List.getD_cons_succ]); refine hop_move ?_; rfl))
 try simp only [nfa, Nat.reduceAdd]
 first
  | refine hops_off' rfl rfl (by rfl) ?_
  | refine hops_un rfl rfl ?_
  | (refine hops_on' rfl rfl (by rfl) (hop_bin rfl rfl rfl ?_))
  | (refine hops_gp (v := ?vg2) rfl rfl (fun hgp => ?hv2) ?hh2; case hv2 => ((try simp only [hgp, if_true, ev, List.getD_cons_zero, List.getD_cons_succ]); refine hop_bin rfl rfl rfl ?_; rfl))
 try simp only [nfa, Nat.reduceAdd]
 refine hops_cons rfl (hop_pick rfl ?_)
 try simp only [nfa, Nat.reduceAdd]
 refine oM ?_
 try simp only [nfa, Nat.reduceAdd]
 first
  | refine hops_off' rfl rfl (by rfl) ?_
  | refine hops_un rfl rfl ?_
  | (refine hops_on' rfl rfl (by rfl) (hop_move ?_))
  | (refine hops_gp (v := ?vg3) rfl rfl (fun hgp => ?hv3) ?hh3; case hv3 => ((try simp only [hgp, if_true, ev, List.getD_cons_zero, List.getD_cons_succ]); refine hop_move ?_; rfl))
 try simp only [nfa, Nat.reduceAdd]
 first
  | refine hops_off' rfl rfl (by rfl) ?_
  | refine hops_un rfl rfl ?_
  | (refine hops_on' rfl rfl (by rfl) (hop_bin rfl rfl rfl ?_))
  | (refine hops_gp (v := ?vg4) rfl rfl (fun hgp => ?hv4) ?hh4; case hv4 => ((try simp only [hgp, if_true, ev, List.getD_cons_zero, List.getD_cons_succ]); refine hop_bin rfl rfl rfl ?_; rfl))
 try simp only [nfa, Nat.reduceAdd]
 refine hops_cons rfl (hop_pick rfl ?_)
 try simp only [nfa, Nat.reduceAdd]
 refine oM ?_
 try simp only [nfa, Nat.reduceAdd]
 first
  | refine hops_off' rfl rfl (by rfl) ?_
  | refine hops_un rfl rfl ?_
  | (refine hops_on' rfl rfl (by rfl) (hop_move ?_))
  | (refine hops_gp (v := ?vg5) rfl rfl (fun hgp => ?hv5) ?hh5; case hv5 => ((try simp only [hgp, if_true, ev, List.getD_cons_zero, List.getD_cons_succ]); refine hop_move ?_; rfl))
 try simp only [nfa, Nat.reduceAdd]
 first
  | refine hops_off' rfl rfl (by rfl) ?_
  | refine hops_un rfl rfl ?_
  | (refine hops_on' rfl rfl (by rfl) (hop_bin rfl rfl rfl ?_))
  | (refine hops_gp (v := ?vg6) rfl rfl (fun hgp => ?hv6) ?hh6; case hv6 => ((try simp only [hgp, if_true, ev, List.getD_cons_zero, List.getD_cons_succ]); refine hop_bin rfl rfl rfl ?_; rfl))
 try simp only [nfa, Nat.reduceAdd]
 refine hops_cons rfl (hop_pick rfl ?_)
 try simp only [nfa, Nat.reduceAdd]
 refine hops_nil ?_
 try simp only [nfa, Nat.reduceAdd]
 refine hc_F rfl (by first | rfl | assumption | (simp; done) | (simp; omega) | (simp [*]; done)) ?_
 refine hc_skip ?_
 try simp only [nfa, Nat.reduceAdd]
 refine sR ?_
 refine oM ?_
 refine hops_cons rfl (hop_call ?_)
 simp only [nfa, Nat.reduceAdd]
 refine HT.mono (fifo_New h1 (by omega)) ?_
 rintro _ _ ⟨q, rb, rfl, hrb, hqn, hqrb, rfl⟩
 try simp only [nf, nf2]
 refine oM ?_
 refine hops_cons rfl (hop_extract rfl rfl ?_)
 refine hops_cons rfl (hop_extract rfl rfl ?_)
 refine oA ?_
 refine oA ?_
 try simp only [nfa, Nat.reduceAdd]
 refine hops_nil ?_
 try simp only [nfa, Nat.reduceAdd]
 refine sR ?_
 refine oM ?_
 refine hops_cons rfl (hop_call ?_)
 simp only [nfa, Nat.reduceAdd]
 refine HT.mono machine_New ?_
 rintro _ _ ⟨m, hm0, rfl, rfl⟩
 obtain ⟨hmq, hm1⟩ := Hp.set_none.1 hm0
 obtain ⟨hmrb, hm2⟩ := Hp.set_none.1 hm1
 try simp only [nf, nf2]
 refine oM ?_
 refine oM ?_
 refine oM ?_
 try simp only [nfa, Nat.reduceAdd]
 refine hops_cons rfl (hop_build (by simp only [fillL, wr, Value.cells, List.map_cons, List.map_nil, nf, nf2]; rfl) ?_)
 try simp only [nfa, Nat.reduceAdd]
 refine hops_cons rfl (hop_box rfl rfl ?_)
 intro t ht0
 obtain ⟨htm, ht1⟩ := Hp.set_none.1 ht0
 obtain ⟨htq, ht2⟩ := Hp.set_none.1 ht1
 obtain ⟨htrb, ht3⟩ := Hp.set_none.1 ht2
 try simp only [nf, nf2]
 refine oM ?_
 refine oA ?_
 refine oA ?_
 try simp only [nfa, Nat.reduceAdd]
 refine hops_nil ?_
 try simp only [nfa, Nat.reduceAdd]
 refine hc_ret ?_
 try simp only [hng, hthen, hblock]
 apply hend_2 rfl ?es RV.tmp RV.tmp ?eR
 case es => exact Sub.refl _
 case eR =>
  refine ⟨t, m, H.set m (row [.pointer (some ⟨p, 0, none⟩), .int .i64 0, .int .i64 0, .slice none 0 0, .int .i64 0, .slice none 0 0] 86), ((Hp.emp.set rb (row (flat jc (List.replicate d Jb.zero)) 76)).set q (row (qRow rb d 0 0) 93)).set t (row [.pointer (some ⟨m, 0, none⟩), .pointer (some ⟨p, 0, none⟩), .pointer (some ⟨q, 0, none⟩), .int .i64 pages, .int .i64 0, .int .u64 0, .int .u64 0, .int .u64 0, .int .u64 0, .int .u64 0, .int .u64 0, .slice none 0 0] 61), rfl, ?_, ?_, ?_, ?_, ?_⟩
  · exact Sub.over (Sub.set (Sub.over (Sub.over (Sub.refl _) hrb _) hqn _) _ _) (Hp.set_none.2 ⟨htm, ht3⟩) _
  · exact Sub.emp_set (Sub.emp_set (Sub.emp_set (Sub.emp _) (by (repeat' first | assumption | exact hS | exact Hp.one_get _ _ | refine hT (by first | assumption | exact Ne.symm ‹_›) ?_))) (by (repeat' first | assumption | exact hS | exact Hp.one_get _ _ | refine hT (by first | assumption | exact Ne.symm ‹_›) ?_))) (by (repeat' first | assumption | exact hS | exact Hp.one_get _ _ | refine hT (by first | assumption | exact Ne.symm ‹_›) ?_))
  · exact Disj.set_r (Disj.set_r (Disj.set_r (fun c hc => absurd rfl hc) (Hp.set_none.2 ⟨Ne.symm hmrb, hrb⟩) _) (Hp.set_none.2 ⟨Ne.symm hmq, hqn⟩) _) (Hp.set_none.2 ⟨htm, ht3⟩) _
  · exact ⟨PartH.new hP hm2, _, _, Hp.set_same _ _ _, rdS.nil, OwnS.nil _ _ _, fun _ => rfl⟩
  · refine ⟨q, .slice none 0 0, Hp.set_same _ _ _, ⟨rb, 0, List.replicate d Jb.zero, ?_, ?_, by simp [Ts.new], by show 0 < d; omega, by simp [Ts.new], by simp only [Ts.new]; omega, ?_, ?_⟩, OutH.nil, ⟨rfl, by simp [Ts.new, z6]⟩⟩
    · rw [Hp.set_ne _ _ (Ne.symm htq)]; exact Hp.set_same _ _ _
    · rw [Hp.set_ne _ _ (Ne.symm htrb), Hp.set_ne _ _ (Ne.symm hqrb)]; exact Hp.set_same _ _ _
    · intro j hj; rw [(List.mem_replicate.1 hj).2]; rfl
    · intro i hi; simp [Ts.new] at hi
end Go.Proofs.Try
