/- A part of the proofs over the tenants of a page cache: lemmas on what is known of the memory, and contracts of the Go functions. -/
import Derived.Test.YtckokpmljhhhcaaR3
set_option linter.unusedVariables false
set_option linter.unusedSimpArgs false
namespace Go.Proofs.Try
open Go Go.H
set_option linter.unusedSimpArgs false
set_option linter.unusedVariables false
set_option maxRecDepth 100000
set_option maxHeartbeats 2000000
def wRow (t p : Nat) (rc : List Value) (tick : Int) : List Value := .pointer (some ⟨t, 0, none⟩) :: .pointer (some ⟨p, 0, none⟩) :: (rc ++ [.int .i64 tick])
/-- the law's memory: a tenant's, and the law's own -/
structure WPart (G Hm R : Hp) (w t m p : Nat) (s : Ts) (rc : List Value) (tick : Int) : Prop where
  tp : TPart G Hm R t m p s
  wr : G w = some (row (wRow t p rc tick) 55)
  wm : Hm w = none
  wR : R w = none
def ref0 (fv : Value) (d pg : Int) : List Value := [fv, .int .i64 0, .int .i64 0, .int .i64 0, .slice none 0 0, .int .i64 0, .slice none 0 0, .int .i64 d, .int .i64 pg, .slice none 0 0, .int .i64 0, .int .u64 0, .int .u64 0, .int .u64 0, .int .u64 0, .int .u64 0, .int .u64 0, .slice none 0 0]
theorem law_begin {H : Hp} {n d : Nat} {pg : Int} (n1 : 1 ≤ n) (n2 : n ≤ 64) (d1 : 1 ≤ d) (d2 : d ≤ 8) (p1 : 1 ≤ pg) (p2 : pg ≤ 64) :
    HT prog 10 #[.int .i64 (n : Int), .int .i64 (d : Int), .int .i64 pg] H (fun v H' => ∃ w t m p Hm R fv Hf, v = .pointer (some ⟨w, 0, none⟩) ∧ WPart H' Hm R w t m p (Ts.new (Pt.new n) pg d) (ref0 fv d pg) 0 ∧ OwnS Hf fv n (flat rfc (zeros n)) 111 6 ∧ Sub Hf H' ∧ Disj Hm Hf ∧ Disj R Hf ∧ Hf w = none) := by
 refine ht_of_body (args := [.int .i64 (n : Int), .int .i64 (d : Int), .int .i64 pg]) func10 rfl ?_
 simp only [ntmps10, List.length_cons, List.length_nil, Nat.reduceAdd, Nat.reduceSub, List.replicate_succ, List.replicate_zero, List.cons_append, List.nil_append]
 refine sR ?_
 refine oA ?_
 try simp only [nfa, Nat.reduceAdd]
 refine hops_nil ?_
 try simp only [nfa, Nat.reduceAdd]
 refine sR ?_
 refine oM ?_
 refine hops_cons rfl (hop_call ?_)
 simp only [nfa, Nat.reduceAdd]
 refine HT.mono (HT.frame (Sub.emp _) (ph_New n1 n2)) ?_
 rintro _ G1 ⟨H1, ⟨p, rfl, hP⟩, s1, fr1⟩
 try simp only [nf, nf2]
 refine oM ?_
 refine hops_cons rfl (hop_extract rfl rfl ?_)
 refine hops_cons rfl (hop_extract rfl rfl ?_)
 refine oA ?_
 refine oA ?_
 try simp only [nfa, Nat.reduceAdd]
 refine hops_nil ?_
 try simp only [nfa, Nat.reduceAdd]
 refine hc_seq ?_
 refine sR ?_
 refine oM ?_
 try simp only [nfa, Nat.reduceAdd]
 refine hops_cons rfl (hop_eqNil rfl rfl ?_)
 try simp only [nfa, Nat.reduceAdd]
 refine oM ?_
 try simp only [nfa, Nat.reduceAdd]
 first
  | refine hops_off' rfl rfl (by rfl) ?_
  | refine hops_un rfl rfl ?_
  | (refine hops_on' rfl rfl (by rfl) (hop_move ?_))
  | (refine hops_gp (v := ?vg1) rfl rfl (fun hgp => ?hv1) ?hh1; case hv1 => ((try simp only [hgp, if_true, ev, List.getD_cons_zero, List.getD_cons_succ]); refine hop_move ?_; rfl))
 try simp only [nfa, Nat.reduceAdd]
 first
  | refine hops_off' rfl rfl (by rfl) ?_
  | refine hops_un rfl rfl ?_
  | (refine hops_on' rfl rfl (by rfl) (hop_bin rfl rfl rfl ?_))
  | (refine hops_gp (v := ?vg2) rfl rfl (fun hgp => ?hv2) ?hh2; case hv2 => ((try simp only [hgp, if_true, ev, List.getD_cons_zero, List.getD_cons_succ]); refine hop_bin rfl rfl rfl ?_; rfl))
 try simp only [nfa, Nat.reduceAdd]
 refine hops_cons rfl (hop_pick rfl ?_)
 try simp only [nfa, Nat.reduceAdd]
 refine hops_nil ?_
 try simp only [nfa, Nat.reduceAdd]
 refine hc_F rfl (by first | rfl | assumption | (simp; done) | (simp; omega) | (simp [*]; done)) ?_
 refine hc_skip ?_
 try simp only [nfa, Nat.reduceAdd]
 refine sR ?_
 refine oM ?_
 refine oM ?_
 refine oM ?_
 refine hops_cons rfl (hop_call ?_)
 simp only [nfa, Nat.reduceAdd]
 refine HT.mono (HT.frame s1 (tenant_New hP d1 d2 p1 p2)) ?_
 rintro _ G2 ⟨H2, ⟨t, m, Hm, R, rfl, hT⟩, s2, fr2⟩
 have hT2 := hT.sub s2
 obtain ⟨q, ov, ht, _⟩ := hT.ten
 have htG := hT2.sr _ _ ht
 try simp only [nf, nf2]
 refine oM ?_
 refine hops_cons rfl (hop_extract rfl rfl ?_)
 refine hops_cons rfl (hop_extract rfl rfl ?_)
 refine oA ?_
 refine oA ?_
 try simp only [nfa, Nat.reduceAdd]
 refine hops_nil ?_
 try simp only [nfa, Nat.reduceAdd]
 refine hc_seq ?_
 refine sR ?_
 refine oM ?_
 try simp only [nfa, Nat.reduceAdd]
 refine hops_cons rfl (hop_eqNil rfl rfl ?_)
 try simp only [nfa, Nat.reduceAdd]
 refine oM ?_
 try simp only [nfa, Nat.reduceAdd]
 first
  | refine hops_off' rfl rfl (by rfl) ?_
  | refine hops_un rfl rfl ?_
  | (refine hops_on' rfl rfl (by rfl) (hop_move ?_))
  | (refine hops_gp (v := ?vg3) rfl rfl (fun hgp => ?hv3) ?hh3; case hv3 => ((try simp only [hgp, if_true, ev, List.getD_cons_zero, List.getD_cons_succ]); refine hop_move ?_; rfl))
 try simp only [nfa, Nat.reduceAdd]
 first
  | refine hops_off' rfl rfl (by rfl) ?_
  | refine hops_un rfl rfl ?_
  | (refine hops_on' rfl rfl (by rfl) (hop_bin rfl rfl rfl ?_))
  | (refine hops_gp (v := ?vg4) rfl rfl (fun hgp => ?hv4) ?hh4; case hv4 => ((try simp only [hgp, if_true, ev, List.getD_cons_zero, List.getD_cons_succ]); refine hop_bin rfl rfl rfl ?_; rfl))
 try simp only [nfa, Nat.reduceAdd]
 refine hops_cons rfl (hop_pick rfl ?_)
 try simp only [nfa, Nat.reduceAdd]
 refine hops_nil ?_
 try simp only [nfa, Nat.reduceAdd]
 refine hc_F rfl (by first | rfl | assumption | (simp; done) | (simp; omega) | (simp [*]; done)) ?_
 refine hc_skip ?_
 try simp only [nfa, Nat.reduceAdd]
 refine hc_seq ?_
 refine sR ?_
 refine oM ?_
 refine oN rfl ?_
 refine oF rfl ?_
 refine hops_cons rfl (hop_load rfl (by (repeat' first | assumption | exact hS | exact Hp.one_get _ _ | refine hT (by first | assumption | exact Ne.symm ‹_›) ?_)) (by first | rfl | assumption | exact mid_get0 rfl | exact mid_get rfl | (simp; done)) ?_)
 try simp only [nfa, Nat.reduceAdd]
 refine hops_cons rfl (hop_eqNil rfl rfl ?_)
 try simp only [nfa, Nat.reduceAdd]
 refine hops_nil ?_
 try simp only [nfa, Nat.reduceAdd]
 refine hc_F rfl (by first | rfl | assumption | (simp; done) | (simp; omega) | (simp [*]; done)) ?_
 refine hc_skip ?_
 try simp only [nfa, Nat.reduceAdd]
 refine sR ?_
 refine oM ?_
 refine oM ?_
 refine oM ?_
 refine oM ?_
 refine oM ?_
 refine hops_cons rfl (hop_call ?_)
 simp only [nfa, Nat.reduceAdd]
 refine HT.mono (ref_New21 (by omega)) ?_
 rintro _ G3 ⟨fv, rfl, Hf, hf1, hf2, hf3, hf4⟩
 have hT3 := hT2.sub hf4
 have ho := hf1.one
 try simp only [nf, nf2]
 refine hops_cons rfl (hop_build (by simp only [fillL, wr, Value.cells, List.map_cons, List.map_nil, nf, nf2]; rfl) ?_)
 try simp only [nfa, Nat.reduceAdd]
 refine hops_cons rfl (hop_box rfl rfl ?_)
 intro w hw
 have hw' := hw
 try simp only [Hp.set_none, Hp.del_none] at hw'
 have hw_n : G3 w = none := by first | exact hw' | exact hw'.2 | exact hw'.2.2 | exact hw'.2.2.2 | exact hw'.2.2.2.2 | exact hw'.2.2.2.2.2 | exact hw'.2.2.2.2.2.2
 clear hw'
 try simp only [nfa, Nat.reduceAdd]
 refine oA ?_
 try simp only [nfa, Nat.reduceAdd]
 refine hops_nil ?_
 try simp only [nfa, Nat.reduceAdd]
 refine hc_ret ?_
 try simp only [hng, hthen, hblock]
 apply hend_1 rfl ?es RV.tmp ?eR
 case es => exact Sub.refl _
 case eR =>
  have hT4 := hT3.sub (Sub.set_new (o := row (wRow t p (ref0 fv d pg) 0) 55) hw)
  exact ⟨w, t, m, p, Hm, R, fv, Hf, rfl, ⟨hT4, Hp.set_same _ _ _, hT3.sm.unk hw, hT3.sr.unk hw⟩, hf1, hf2.trans (Sub.set_new hw), (hf3.sub (.refl _) hT2.sm).symm, (hf3.sub (.refl _) hT2.sr).symm, hf2.unk hw⟩
theorem out2 {R : Hp} {ov : Value} {x1 x2 : Rm} (h : OutH R ov [x1, x2]) : ∃ ob oc dv1 dv2 B, ov = .slice (some ⟨ob, 0, none⟩) 2 oc ∧ R ob = some (row (rspc (x1, dv1) ++ (rspc (x2, dv2) ++ B)) 65) := by
  obtain ⟨xs, h1, h2, h3⟩ := h
  match xs, h2 with
  | [(y1, dv1), (y2, dv2)], h2 =>
    simp only [List.map_cons, List.map_nil, List.cons.injEq, and_true] at h2
    obtain ⟨rfl, rfl⟩ := h2
    rcases h1 with ⟨_, h0, _⟩ | ⟨b, cap, B, rfl, hb, _⟩
    · cases h0
    · exact ⟨b, cap, dv1, dv2, B, rfl, by rw [hb]; simp [flat]⟩
def z16 : List UInt8 := List.replicate 16 0
theorem reps16 : reps 16 (Value.int .u8 0).cells.toList = z16.map byv := rfl
def lv0 : Ts := Ts.new (Pt.new 1) 2 1
def lv1 : Ts := lv0.acc (rvOf 1 0 0 0 []) 0
def lv2 : Ts := lv1.over 0 z16 1
def lv3 : Ts := lv2.over 0 z16 2
def lv4 : Ts := lv3.acc (rvOf 8 0 0 0 []) 3
theorem chk1 : chk 2 1 0 0 0 [] = 0 := by decide +kernel
theorem chk8 : chk 2 8 0 0 0 [] = 0 := by decide +kernel
theorem lv_pages : lv0.t.pages = 2 ∧ lv1.t.pages = 2 ∧ lv3.t.pages = 2 := by decide +kernel
theorem lv1_q : lv1.t.q.length = 1 ∧ lv1.t.dep = 1 ∧ lv1.t.out.length = 0 ∧ lv1.t.ids = 1 := by decide +kernel
theorem lv1_todo : lv1.m.todo = both 1 0 := by rfl
theorem lv2_todo : lv2.m.todo = [⟨1, 0, 1⟩] := by rfl
theorem lv2_q : lv2.t.q.length = 1 ∧ lv2.t.out.length = 0 := by decide +kernel
theorem lv3_q : lv3.t.q.length = 0 ∧ lv3.t.dep = 1 ∧ lv3.t.out.length = 1 ∧ lv3.t.ids = 1 := by decide +kernel
theorem lv_ids : lv0.t.ids + 1 = 1 ∧ lv3.t.ids + 1 = 2 := by decide +kernel
theorem lv4_out : lv4.t.out = [⟨1, 0, false, 2, [], z6⟩, ⟨2, 0, false, 3, [], [0, 1, 0, 0, 0, 0]⟩] := by rfl
theorem law_lives {H : Hp} :
    HT prog 9 #[] H (fun v H' => v = .bool true) := by
 refine ht_of_body (args := []) func9 rfl ?_
 simp only [ntmps9, List.length_cons, List.length_nil, Nat.reduceAdd, Nat.reduceSub, List.replicate_succ, List.replicate_zero, List.cons_append, List.nil_append]
 refine sR ?_
 refine oA ?_
 try simp only [nfa, Nat.reduceAdd, bne_self_eq_false, beq_self_eq_true, Bool.false_eq_true, if_false, if_true]
 refine hops_nil ?_
 try simp only [nfa, Nat.reduceAdd, bne_self_eq_false, beq_self_eq_true, Bool.false_eq_true, if_false, if_true]
 refine sR ?_
 refine hops_cons rfl (hop_call ?_)
 simp only [nfa, Nat.reduceAdd, bne_self_eq_false, beq_self_eq_true, Bool.false_eq_true, if_false, if_true]
 refine HT.mono (HT.frame (Sub.emp _) (law_begin (n := 1) (d := 1) (pg := 2) (by decide) (by decide) (by decide) (by decide) (by decide) (by decide))) ?_
 rintro _ G0 ⟨H0, ⟨w, t, m, p, Hm0, R0, fv, Hf, rfl, ⟨T0, W0, W0m, W0R⟩, hf1, hf2, hf3, hf4, hf5⟩, s0, fr0⟩
 have T0 : TPart G0 Hm0 R0 t m p lv0 := T0.sub s0
 have W0 := s0 _ _ W0
 have I0 : TInv lv0 := new_inv _ _ _
 try simp only [nf, nf2]
 refine oA ?_
 try simp only [nfa, Nat.reduceAdd, bne_self_eq_false, beq_self_eq_true, Bool.false_eq_true, if_false, if_true]
 refine hops_nil ?_
 try simp only [nfa, Nat.reduceAdd, bne_self_eq_false, beq_self_eq_true, Bool.false_eq_true, if_false, if_true]
 refine hc_seq ?_
 refine sR ?_
 refine oM ?_
 try simp only [nfa, Nat.reduceAdd, bne_self_eq_false, beq_self_eq_true, Bool.false_eq_true, if_false, if_true]
 refine hops_cons rfl (hop_eqNil rfl rfl ?_)
 try simp only [nfa, Nat.reduceAdd, bne_self_eq_false, beq_self_eq_true, Bool.false_eq_true, if_false, if_true]
 refine hops_nil ?_
 try simp only [nfa, Nat.reduceAdd, bne_self_eq_false, beq_self_eq_true, Bool.false_eq_true, if_false, if_true]
 refine hc_F rfl (by first | rfl | assumption | (simp; done) | (simp; omega) | (simp [*]; done)) ?_
 refine hc_skip ?_
 try simp only [nfa, Nat.reduceAdd, bne_self_eq_false, beq_self_eq_true, Bool.false_eq_true, if_false, if_true]
 refine sR ?_
 refine oM ?_
 refine oN rfl ?_
 refine oF rfl ?_
 refine hops_cons rfl (hop_load rfl (by (repeat' first | assumption | exact hS | exact Hp.one_get _ _ | refine hT (by first | assumption | exact Ne.symm ‹_›) ?_)) (by first | rfl | assumption | exact mid_get0 rfl | exact mid_get rfl | (simp; done)) ?_)
 try simp only [nfa, Nat.reduceAdd, bne_self_eq_false, beq_self_eq_true, Bool.false_eq_true, if_false, if_true]
 refine hops_cons rfl (hop_build (by simp only [fillL, wr, Value.cells, List.map_cons, List.map_nil, nf, nf2]; rfl) ?_)
 try simp only [nfa, Nat.reduceAdd, bne_self_eq_false, beq_self_eq_true, Bool.false_eq_true, if_false, if_true]
 refine hops_cons rfl (hop_call ?_)
 simp only [nfa, Nat.reduceAdd, bne_self_eq_false, beq_self_eq_true, Bool.false_eq_true, if_false, if_true]
 refine HT.mono (ten_Submit_ok (op := 1) (page := 0) (off := 0) (len := 0) (bs := []) (tick := _) T0 dOk.nil I0 chk1 (by decide) (by decide) (by decide)) ?_
 rintro _ G1 ⟨Hm1, R1, rfl, T1, I1, fr1⟩
 rw [lv_ids.1]
 have T1 : TPart G1 Hm1 R1 t m p lv1 := T1
 have I1 : TInv lv1 := I1
 have W1 := fr1 w _ W0m W0R W0
 obtain ⟨W1, W1m, W1R⟩ := W1
 try simp only [nf, nf2]
 refine oM ?_
 refine hops_cons rfl (hop_extract rfl rfl ?_)
 refine hops_cons rfl (hop_extract rfl rfl ?_)
 refine oA ?_
 refine oA ?_
 try simp only [nfa, Nat.reduceAdd, bne_self_eq_false, beq_self_eq_true, Bool.false_eq_true, if_false, if_true]
 refine hops_nil ?_
 try simp only [nfa, Nat.reduceAdd, bne_self_eq_false, beq_self_eq_true, Bool.false_eq_true, if_false, if_true]
 refine sR ?_
 refine oM ?_
 refine oN rfl ?_
 refine oF rfl ?_
 refine hops_cons rfl (hop_load rfl (by (repeat' first | assumption | exact hS | exact Hp.one_get _ _ | refine hT (by first | assumption | exact Ne.symm ‹_›) ?_)) (by first | rfl | assumption | exact mid_get0 rfl | exact mid_get rfl | (simp; done)) ?_)
 try simp only [nfa, Nat.reduceAdd, bne_self_eq_false, beq_self_eq_true, Bool.false_eq_true, if_false, if_true]
 refine hops_cons rfl (hop_build (by simp only [fillL, wr, Value.cells, List.map_cons, List.map_nil, nf, nf2]; rfl) ?_)
 try simp only [nfa, Nat.reduceAdd, bne_self_eq_false, beq_self_eq_true, Bool.false_eq_true, if_false, if_true]
 refine hops_cons rfl (hop_call ?_)
 simp only [nfa, Nat.reduceAdd, bne_self_eq_false, beq_self_eq_true, Bool.false_eq_true, if_false, if_true]
 refine HT.mono (ten_Submit_full (op := 8) (page := 0) (off := 0) (len := 0) (bs := []) (tick := _) T1 dOk.nil chk8 (by decide +kernel) (by decide +kernel)) ?_
 rintro _ G2 ⟨rfl, sG2⟩
 have T2 := T1.sub sG2
 have I2 := I1
 have W2 := sG2 _ _ W1
 have W2m := W1m
 have W2R := W1R
 try simp only [nf, nf2]
 obtain ⟨tq2, tov2, ht2, _⟩ := T2.ten
 have htG2 := T2.sr _ _ ht2
 refine oM ?_
 refine hops_cons rfl (hop_extract rfl rfl ?_)
 refine hops_cons rfl (hop_extract rfl rfl ?_)
 refine oA ?_
 refine oA ?_
 try simp only [nfa, Nat.reduceAdd, bne_self_eq_false, beq_self_eq_true, Bool.false_eq_true, if_false, if_true]
 refine hops_nil ?_
 try simp only [nfa, Nat.reduceAdd, bne_self_eq_false, beq_self_eq_true, Bool.false_eq_true, if_false, if_true]
 refine hc_seq ?_
 refine sR ?_
 refine oM ?_
 try simp only [nfa, Nat.reduceAdd, bne_self_eq_false, beq_self_eq_true, Bool.false_eq_true, if_false, if_true]
 refine hops_cons rfl (hop_bin rfl rfl rfl ?_)
 try simp only [nfa, Nat.reduceAdd, bne_self_eq_false, beq_self_eq_true, Bool.false_eq_true, if_false, if_true]
 refine oM ?_
 try simp only [nfa, Nat.reduceAdd, bne_self_eq_false, beq_self_eq_true, Bool.false_eq_true, if_false, if_true]
 refine hops_on' rfl rfl (by first | rfl | assumption | (simp; done) | (simp; omega) | (simp [*]; done)) (hop_move ?_)
 try simp only [nfa, Nat.reduceAdd, bne_self_eq_false, beq_self_eq_true, Bool.false_eq_true, if_false, if_true]
 refine hops_on' rfl rfl (by first | rfl | assumption | (simp; done) | (simp; omega) | (simp [*]; done)) (hop_bin rfl rfl rfl ?_)
 try simp only [nfa, Nat.reduceAdd, bne_self_eq_false, beq_self_eq_true, Bool.false_eq_true, if_false, if_true]
 refine hops_cons rfl (hop_pick rfl ?_)
 try simp only [nfa, Nat.reduceAdd, bne_self_eq_false, beq_self_eq_true, Bool.false_eq_true, if_false, if_true]
 refine oM ?_
 try simp only [nfa, Nat.reduceAdd, bne_self_eq_false, beq_self_eq_true, Bool.false_eq_true, if_false, if_true]
 refine hops_on' rfl rfl (by first | rfl | assumption | (simp; done) | (simp; omega) | (simp [*]; done)) (hop_move ?_)
 try simp only [nfa, Nat.reduceAdd, bne_self_eq_false, beq_self_eq_true, Bool.false_eq_true, if_false, if_true]
 refine hops_on' rfl rfl (by first | rfl | assumption | (simp; done) | (simp; omega) | (simp [*]; done)) (hop_bin rfl rfl rfl ?_)
 try simp only [nfa, Nat.reduceAdd, bne_self_eq_false, beq_self_eq_true, Bool.false_eq_true, if_false, if_true]
 refine hops_cons rfl (hop_pick rfl ?_)
 try simp only [nfa, Nat.reduceAdd, bne_self_eq_false, beq_self_eq_true, Bool.false_eq_true, if_false, if_true]
 refine oM ?_
 try simp only [nfa, Nat.reduceAdd, bne_self_eq_false, beq_self_eq_true, Bool.false_eq_true, if_false, if_true]
 refine hops_on' rfl rfl (by first | rfl | assumption | (simp; done) | (simp; omega) | (simp [*]; done)) (hop_move ?_)
 try simp only [nfa, Nat.reduceAdd, bne_self_eq_false, beq_self_eq_true, Bool.false_eq_true, if_false, if_true]
 refine hops_on' rfl rfl (by first | rfl | assumption | (simp; done) | (simp; omega) | (simp [*]; done)) (hop_nilCheck rfl ?_)
 try simp only [nfa, Nat.reduceAdd, bne_self_eq_false, beq_self_eq_true, Bool.false_eq_true, if_false, if_true]
 refine hops_on' rfl rfl (by first | rfl | assumption | (simp; done) | (simp; omega) | (simp [*]; done)) (hop_fieldAddr rfl ?_)
 try simp only [nfa, Nat.reduceAdd, bne_self_eq_false, beq_self_eq_true, Bool.false_eq_true, if_false, if_true]
 refine hops_on' rfl rfl (by first | rfl | assumption | (simp; done) | (simp; omega) | (simp [*]; done)) (hop_load rfl (by (repeat' first | assumption | exact hS | exact Hp.one_get _ _ | refine hT (by first | assumption | exact Ne.symm ‹_›) ?_)) (by first | rfl | assumption | exact mid_get0 rfl | exact mid_get rfl | (simp; done)) ?_)
 try simp only [nfa, Nat.reduceAdd, bne_self_eq_false, beq_self_eq_true, Bool.false_eq_true, if_false, if_true]
 refine hops_on' rfl rfl (by first | rfl | assumption | (simp; done) | (simp; omega) | (simp [*]; done)) (hop_nilCheck rfl ?_)
 try simp only [nfa, Nat.reduceAdd, bne_self_eq_false, beq_self_eq_true, Bool.false_eq_true, if_false, if_true]
 refine hops_on' rfl rfl (by first | rfl | assumption | (simp; done) | (simp; omega) | (simp [*]; done)) (hop_fieldAddr rfl ?_)
 try simp only [nfa, Nat.reduceAdd, bne_self_eq_false, beq_self_eq_true, Bool.false_eq_true, if_false, if_true]
 refine hops_on' rfl rfl (by first | rfl | assumption | (simp; done) | (simp; omega) | (simp [*]; done)) (hop_load rfl (by (repeat' first | assumption | exact hS | exact Hp.one_get _ _ | refine hT (by first | assumption | exact Ne.symm ‹_›) ?_)) (by first | rfl | assumption | exact mid_get0 rfl | exact mid_get rfl | (simp; done)) ?_)
 try simp only [nfa, Nat.reduceAdd, bne_self_eq_false, beq_self_eq_true, Bool.false_eq_true, if_false, if_true]
 refine hops_on' rfl rfl (by first | rfl | assumption | (simp; done) | (simp; omega) | (simp [*]; done)) (hop_call ?_)
 simp only [nfa, Nat.reduceAdd, bne_self_eq_false, beq_self_eq_true, Bool.false_eq_true, if_false, if_true]
 refine HT.mono (mh_Busy (T2.mach.sub T2.sm)) ?_
 rintro _ _ ⟨rfl, rfl⟩
 try simp only [nfa, Nat.reduceAdd, bne_self_eq_false, beq_self_eq_true, Bool.false_eq_true, if_false, if_true]
 refine hops_on' rfl rfl (by first | rfl | assumption | (simp; done) | (simp; omega) | (simp [*]; done)) (hop_not rfl ?_)
 try simp only [nfa, Nat.reduceAdd, bne_self_eq_false, beq_self_eq_true, Bool.false_eq_true, if_false, if_true]
 refine hops_cons rfl (hop_pick rfl ?_)
 try simp only [nfa, Nat.reduceAdd, bne_self_eq_false, beq_self_eq_true, Bool.false_eq_true, if_false, if_true]
 refine hops_nil ?_
 try simp only [nfa, Nat.reduceAdd, bne_self_eq_false, beq_self_eq_true, Bool.false_eq_true, if_false, if_true]
 refine hc_F rfl (by first | rfl | assumption | (simp; done) | (simp; omega) | (simp [*]; done)) ?_
 refine hc_skip ?_
 try simp only [nfa, Nat.reduceAdd, bne_self_eq_false, beq_self_eq_true, Bool.false_eq_true, if_false, if_true]
 refine hc_seq ?_
 refine hc_draw (Hp.one w (row (wRow t p (ref0 fv 1 2) 0) 55)) follows (by intros; simp [hng, hthen, hblock, hend]) ?_
 refine dT 0 rfl (by decide +kernel) rfl (Sub.one (by (repeat' first | assumption | exact hS | exact Hp.one_get _ _ | refine hT (by first | assumption | exact Ne.symm ‹_›) ?_))) (hop_move ?_)
 try simp only [nfa, Nat.reduceAdd, bne_self_eq_false, beq_self_eq_true, Bool.false_eq_true, if_false, if_true]
 refine dT 1 rfl (by decide +kernel) rfl (Sub.one (by (repeat' first | assumption | exact hS | exact Hp.one_get _ _ | refine hT (by first | assumption | exact Ne.symm ‹_›) ?_))) (hop_nilCheck rfl ?_)
 try simp only [nfa, Nat.reduceAdd, bne_self_eq_false, beq_self_eq_true, Bool.false_eq_true, if_false, if_true]
 refine dT 2 rfl (by decide +kernel) rfl (Sub.one (by (repeat' first | assumption | exact hS | exact Hp.one_get _ _ | refine hT (by first | assumption | exact Ne.symm ‹_›) ?_))) (hop_fieldAddr rfl ?_)
 try simp only [nfa, Nat.reduceAdd, bne_self_eq_false, beq_self_eq_true, Bool.false_eq_true, if_false, if_true]
 refine dT 3 rfl (by decide +kernel) rfl (Sub.one (by (repeat' first | assumption | exact hS | exact Hp.one_get _ _ | refine hT (by first | assumption | exact Ne.symm ‹_›) ?_))) (hop_load rfl (by (repeat' first | assumption | exact hS | exact Hp.one_get _ _ | refine hT (by first | assumption | exact Ne.symm ‹_›) ?_)) (by first | rfl | assumption | exact mid_get0 rfl | exact mid_get rfl | (simp; done)) ?_)
 try simp only [nfa, Nat.reduceAdd, bne_self_eq_false, beq_self_eq_true, Bool.false_eq_true, if_false, if_true]
 refine hD_do 4 rfl (by decide +kernel) rfl (hop_makeSlice (n := 16) rfl rfl (by rfl) (by decide) (by decide) (by decide) ?_)
 intro bb hbb
 have hbb' := hbb
 try simp only [Hp.set_none, Hp.del_none] at hbb'
 have hbb_n : G2 bb = none := by first | exact hbb' | exact hbb'.2 | exact hbb'.2.2 | exact hbb'.2.2.2 | exact hbb'.2.2.2.2 | exact hbb'.2.2.2.2.2 | exact hbb'.2.2.2.2.2.2
 have hbb_w : bb ≠ w := (Hp.ne_of W2 hbb_n).symm
 have hbb_t : bb ≠ t := (Hp.ne_of htG2 hbb_n).symm
 clear hbb'
 rw [reps16]
 try simp only [nf, nf2]
 refine ⟨.inr (Sub.one (by (repeat' first | assumption | exact hS | exact Hp.one_get _ _ | refine hT (by first | assumption | exact Ne.symm ‹_›) ?_))), ?_⟩
 try simp only [nfa, Nat.reduceAdd, bne_self_eq_false, beq_self_eq_true, Bool.false_eq_true, if_false, if_true]
 refine hD_do 5 rfl (by decide +kernel) rfl (hop_call ?_)
 simp only [nfa, Nat.reduceAdd, bne_self_eq_false, beq_self_eq_true, Bool.false_eq_true, if_false, if_true]
 have hbn : Hp.emp.set bb (row (z16.map byv) 5) = Hp.one bb (row (z16.map byv) 5) := rfl
 refine HT.mono (ten_Over (Hb := Hp.one bb (row (z16.map byv) 5)) (b := z16) (T2.sub (Sub.set_new hbb)) I2 (show lv1.m.todo ≠ [] from by decide +kernel) (Sub.one (Hp.set_same _ _ _)) (Disj.one (T2.sm.unk hbb)) (Disj.one (T2.sr.unk hbb)).symm (fun _ => ⟨.inr ⟨bb, 0, 16, _, rfl, Hp.one_get _ _, by simp [z16], by simp [z16], by simp [z16]⟩, fun _ _ _ _ => rfl⟩) (show lv1.t.out.length + lv1.t.q.length ≤ 1000000 from by decide +kernel)) ?_
 rintro _ G3 ⟨Hm3, R3, rfl, T3, I3, fr3⟩
 have hwb : (Hp.one bb (row (z16.map byv) 5)) w = none := by
       rw [Hp.one, Hp.set_ne _ _ hbb_w.symm]; rfl
 have W3 := fr3 w _ W2m W2R hwb (by rw [Hp.set_ne _ _ hbb_w.symm]; exact W2)
 obtain ⟨W3, W3m, W3R⟩ := W3
 try simp only [nf, nf2]
 have T3 : TPart G3 Hm3 R3 t m p lv2 := T3
 have I3 : TInv lv2 := I3
 obtain ⟨tq3, tov3, ht3, _⟩ := T3.ten
 have htG3 := T3.sr _ _ ht3
 refine ⟨.inl (by decide +kernel), ?_⟩
 try simp only [nfa, Nat.reduceAdd, bne_self_eq_false, beq_self_eq_true, Bool.false_eq_true, if_false, if_true]
 refine hD_done (by decide +kernel) ?_
 try simp only [nfa, Nat.reduceAdd, bne_self_eq_false, beq_self_eq_true, Bool.false_eq_true, if_false, if_true]
 refine hc_seq ?_
 refine sR ?_
 refine oM ?_
 refine oN rfl ?_
 refine oF rfl ?_
 refine hops_cons rfl (hop_load rfl (by (repeat' first | assumption | exact hS | exact Hp.one_get _ _ | refine hT (by first | assumption | exact Ne.symm ‹_›) ?_)) (by first | rfl | assumption | exact mid_get0 rfl | exact mid_get rfl | (simp; done)) ?_)
 try simp only [nfa, Nat.reduceAdd, bne_self_eq_false, beq_self_eq_true, Bool.false_eq_true, if_false, if_true]
 refine oN rfl ?_
 refine oF rfl ?_
 refine hops_cons rfl (hop_load rfl (by (repeat' first | assumption | exact hS | exact Hp.one_get _ _ | refine hT (by first | assumption | exact Ne.symm ‹_›) ?_)) (by first | rfl | assumption | exact mid_get0 rfl | exact mid_get rfl | (simp; done)) ?_)
 try simp only [nfa, Nat.reduceAdd, bne_self_eq_false, beq_self_eq_true, Bool.false_eq_true, if_false, if_true]
 refine hops_cons rfl (hop_call ?_)
 simp only [nfa, Nat.reduceAdd, bne_self_eq_false, beq_self_eq_true, Bool.false_eq_true, if_false, if_true]
 refine HT.mono (mh_Busy (T3.mach.sub T3.sm)) ?_
 rintro _ _ ⟨rfl, rfl⟩
 try simp only [nfa, Nat.reduceAdd, bne_self_eq_false, beq_self_eq_true, Bool.false_eq_true, if_false, if_true]
 refine hops_cons rfl (hop_not rfl ?_)
 try simp only [nfa, Nat.reduceAdd, bne_self_eq_false, beq_self_eq_true, Bool.false_eq_true, if_false, if_true]
 refine hops_nil ?_
 try simp only [nfa, Nat.reduceAdd, bne_self_eq_false, beq_self_eq_true, Bool.false_eq_true, if_false, if_true]
 refine hc_F rfl (by first | rfl | assumption | (simp; done) | (simp; omega) | (simp [*]; done)) ?_
 refine hc_skip ?_
 try simp only [nfa, Nat.reduceAdd, bne_self_eq_false, beq_self_eq_true, Bool.false_eq_true, if_false, if_true]
 refine hc_seq ?_
 refine hc_draw (Hp.one w (row (wRow t p (ref0 fv 1 2) 0) 55)) follows (by intros; simp [hng, hthen, hblock, hend]) ?_
 refine dT 0 rfl (by decide +kernel) rfl (Sub.one (by (repeat' first | assumption | exact hS | exact Hp.one_get _ _ | refine hT (by first | assumption | exact Ne.symm ‹_›) ?_))) (hop_move ?_)
 try simp only [nfa, Nat.reduceAdd, bne_self_eq_false, beq_self_eq_true, Bool.false_eq_true, if_false, if_true]
 refine dT 1 rfl (by decide +kernel) rfl (Sub.one (by (repeat' first | assumption | exact hS | exact Hp.one_get _ _ | refine hT (by first | assumption | exact Ne.symm ‹_›) ?_))) (hop_nilCheck rfl ?_)
 try simp only [nfa, Nat.reduceAdd, bne_self_eq_false, beq_self_eq_true, Bool.false_eq_true, if_false, if_true]
 refine dT 2 rfl (by decide +kernel) rfl (Sub.one (by (repeat' first | assumption | exact hS | exact Hp.one_get _ _ | refine hT (by first | assumption | exact Ne.symm ‹_›) ?_))) (hop_fieldAddr rfl ?_)
 try simp only [nfa, Nat.reduceAdd, bne_self_eq_false, beq_self_eq_true, Bool.false_eq_true, if_false, if_true]
 refine dT 3 rfl (by decide +kernel) rfl (Sub.one (by (repeat' first | assumption | exact hS | exact Hp.one_get _ _ | refine hT (by first | assumption | exact Ne.symm ‹_›) ?_))) (hop_load rfl (by (repeat' first | assumption | exact hS | exact Hp.one_get _ _ | refine hT (by first | assumption | exact Ne.symm ‹_›) ?_)) (by first | rfl | assumption | exact mid_get0 rfl | exact mid_get rfl | (simp; done)) ?_)
 try simp only [nfa, Nat.reduceAdd, bne_self_eq_false, beq_self_eq_true, Bool.false_eq_true, if_false, if_true]
 refine hD_do 4 rfl (by decide +kernel) rfl (hop_makeSlice (n := 16) rfl rfl (by rfl) (by decide) (by decide) (by decide) ?_)
 intro bb hbb
 have hbb' := hbb
 try simp only [Hp.set_none, Hp.del_none] at hbb'
 have hbb_n : G3 bb = none := by first | exact hbb' | exact hbb'.2 | exact hbb'.2.2 | exact hbb'.2.2.2 | exact hbb'.2.2.2.2 | exact hbb'.2.2.2.2.2 | exact hbb'.2.2.2.2.2.2
 have hbb_w : bb ≠ w := (Hp.ne_of W3 hbb_n).symm
 have hbb_t : bb ≠ t := (Hp.ne_of htG3 hbb_n).symm
 clear hbb'
 rw [reps16]
 try simp only [nf, nf2]
 refine ⟨.inr (Sub.one (by (repeat' first | assumption | exact hS | exact Hp.one_get _ _ | refine hT (by first | assumption | exact Ne.symm ‹_›) ?_))), ?_⟩
 try simp only [nfa, Nat.reduceAdd, bne_self_eq_false, beq_self_eq_true, Bool.false_eq_true, if_false, if_true]
 refine hD_do 5 rfl (by decide +kernel) rfl (hop_call ?_)
 simp only [nfa, Nat.reduceAdd, bne_self_eq_false, beq_self_eq_true, Bool.false_eq_true, if_false, if_true]
 have hbn : Hp.emp.set bb (row (z16.map byv) 5) = Hp.one bb (row (z16.map byv) 5) := rfl
 refine HT.mono (ten_Over (Hb := Hp.one bb (row (z16.map byv) 5)) (b := z16) (T3.sub (Sub.set_new hbb)) I3 (show lv2.m.todo ≠ [] from by decide +kernel) (Sub.one (Hp.set_same _ _ _)) (Disj.one (T3.sm.unk hbb)) (Disj.one (T3.sr.unk hbb)).symm (fun _ => ⟨.inr ⟨bb, 0, 16, _, rfl, Hp.one_get _ _, by simp [z16], by simp [z16], by simp [z16]⟩, fun _ _ _ _ => rfl⟩) (show lv2.t.out.length + lv2.t.q.length ≤ 1000000 from by decide +kernel)) ?_
 rintro _ G4 ⟨Hm4, R4, rfl, T4, I4, fr4⟩
 have hwb : (Hp.one bb (row (z16.map byv) 5)) w = none := by
       rw [Hp.one, Hp.set_ne _ _ hbb_w.symm]; rfl
 have W4 := fr4 w _ W3m W3R hwb (by rw [Hp.set_ne _ _ hbb_w.symm]; exact W3)
 obtain ⟨W4, W4m, W4R⟩ := W4
 try simp only [nf, nf2]
 have T4 : TPart G4 Hm4 R4 t m p lv3 := T4
 have I4 : TInv lv3 := I4
 obtain ⟨tq4, tov4, ht4, _⟩ := T4.ten
 have htG4 := T4.sr _ _ ht4
 refine ⟨.inl (by decide +kernel), ?_⟩
 try simp only [nfa, Nat.reduceAdd, bne_self_eq_false, beq_self_eq_true, Bool.false_eq_true, if_false, if_true]
 refine hD_done (by decide +kernel) ?_
 try simp only [nfa, Nat.reduceAdd, bne_self_eq_false, beq_self_eq_true, Bool.false_eq_true, if_false, if_true]
 refine sR ?_
 refine oM ?_
 refine oN rfl ?_
 refine oF rfl ?_
 refine hops_cons rfl (hop_load rfl (by (repeat' first | assumption | exact hS | exact Hp.one_get _ _ | refine hT (by first | assumption | exact Ne.symm ‹_›) ?_)) (by first | rfl | assumption | exact mid_get0 rfl | exact mid_get rfl | (simp; done)) ?_)
 try simp only [nfa, Nat.reduceAdd, bne_self_eq_false, beq_self_eq_true, Bool.false_eq_true, if_false, if_true]
 refine hops_cons rfl (hop_build (by simp only [fillL, wr, Value.cells, List.map_cons, List.map_nil, nf, nf2]; rfl) ?_)
 try simp only [nfa, Nat.reduceAdd, bne_self_eq_false, beq_self_eq_true, Bool.false_eq_true, if_false, if_true]
 refine hops_cons rfl (hop_call ?_)
 simp only [nfa, Nat.reduceAdd, bne_self_eq_false, beq_self_eq_true, Bool.false_eq_true, if_false, if_true]
 refine HT.mono (ten_Submit_ok (op := 8) (page := 0) (off := 0) (len := 0) (bs := []) (tick := _) T4 dOk.nil I4 (show chk lv3.t.pages 8 0 0 0 [] = 0 from by decide +kernel) (by decide +kernel) (by decide +kernel) (by decide +kernel)) ?_
 rintro _ G5 ⟨Hm5, R5, rfl, T5, I5, fr5⟩
 rw [lv_ids.2]
 have T5 : TPart G5 Hm5 R5 t m p lv4 := T5
 have I5 : TInv lv4 := I5
 have W5 := fr5 w _ W4m W4R W4
 obtain ⟨W5, W5m, W5R⟩ := W5
 try simp only [nf, nf2]
 refine oM ?_
 refine hops_cons rfl (hop_extract rfl rfl ?_)
 refine hops_cons rfl (hop_extract rfl rfl ?_)
 refine oA ?_
 refine oA ?_
 try simp only [nfa, Nat.reduceAdd, bne_self_eq_false, beq_self_eq_true, Bool.false_eq_true, if_false, if_true]
 refine hops_nil ?_
 try simp only [nfa, Nat.reduceAdd, bne_self_eq_false, beq_self_eq_true, Bool.false_eq_true, if_false, if_true]
 refine sR ?_
 refine oM ?_
 refine oN rfl ?_
 refine oF rfl ?_
 refine hops_cons rfl (hop_load rfl (by (repeat' first | assumption | exact hS | exact Hp.one_get _ _ | refine hT (by first | assumption | exact Ne.symm ‹_›) ?_)) (by first | rfl | assumption | exact mid_get0 rfl | exact mid_get rfl | (simp; done)) ?_)
 try simp only [nfa, Nat.reduceAdd, bne_self_eq_false, beq_self_eq_true, Bool.false_eq_true, if_false, if_true]
 refine hops_cons rfl (hop_call ?_)
 simp only [nfa, Nat.reduceAdd, bne_self_eq_false, beq_self_eq_true, Bool.false_eq_true, if_false, if_true]
 refine HT.mono (ten_Out T5) ?_
 rintro ov G6 ⟨R6, hO, T6, fr6⟩
 have hO2 : OutH R6 ov lv4.t.out := hO
 rw [lv4_out] at hO2
 obtain ⟨ob, oc, dv1, dv2, OB, rfl, hob0⟩ := out2 hO2
 have hob := T6.sr _ _ hob0
 try simp only [nf, nf2]
 refine oA ?_
 try simp only [nfa, Nat.reduceAdd, bne_self_eq_false, beq_self_eq_true, Bool.false_eq_true, if_false, if_true]
 refine hops_nil ?_
 try simp only [nfa, Nat.reduceAdd, bne_self_eq_false, beq_self_eq_true, Bool.false_eq_true, if_false, if_true]
 refine hc_seq ?_
 refine sR ?_
 refine oM ?_
 try simp only [nfa, Nat.reduceAdd, bne_self_eq_false, beq_self_eq_true, Bool.false_eq_true, if_false, if_true]
 refine hops_cons rfl (hop_bin rfl rfl rfl ?_)
 try simp only [nfa, Nat.reduceAdd, bne_self_eq_false, beq_self_eq_true, Bool.false_eq_true, if_false, if_true]
 refine oM ?_
 try simp only [nfa, Nat.reduceAdd, bne_self_eq_false, beq_self_eq_true, Bool.false_eq_true, if_false, if_true]
 refine hops_on' rfl rfl (by first | rfl | assumption | (simp; done) | (simp; omega) | (simp [*]; done)) (hop_move ?_)
 try simp only [nfa, Nat.reduceAdd, bne_self_eq_false, beq_self_eq_true, Bool.false_eq_true, if_false, if_true]
 refine hops_on' rfl rfl (by first | rfl | assumption | (simp; done) | (simp; omega) | (simp [*]; done)) (hop_bin rfl rfl rfl ?_)
 try simp only [nfa, Nat.reduceAdd, bne_self_eq_false, beq_self_eq_true, Bool.false_eq_true, if_false, if_true]
 refine hops_cons rfl (hop_pick rfl ?_)
 try simp only [nfa, Nat.reduceAdd, bne_self_eq_false, beq_self_eq_true, Bool.false_eq_true, if_false, if_true]
 refine oM ?_
 try simp only [nfa, Nat.reduceAdd, bne_self_eq_false, beq_self_eq_true, Bool.false_eq_true, if_false, if_true]
 refine hops_on' rfl rfl (by first | rfl | assumption | (simp; done) | (simp; omega) | (simp [*]; done)) (hop_move ?_)
 try simp only [nfa, Nat.reduceAdd, bne_self_eq_false, beq_self_eq_true, Bool.false_eq_true, if_false, if_true]
 refine hops_on' rfl rfl (by first | rfl | assumption | (simp; done) | (simp; omega) | (simp [*]; done)) (hop_lenS rfl ?_)
 try simp only [nfa, Nat.reduceAdd, bne_self_eq_false, beq_self_eq_true, Bool.false_eq_true, if_false, if_true]
 refine hops_on' rfl rfl (by first | rfl | assumption | (simp; done) | (simp; omega) | (simp [*]; done)) (hop_bin rfl rfl rfl ?_)
 try simp only [nfa, Nat.reduceAdd, bne_self_eq_false, beq_self_eq_true, Bool.false_eq_true, if_false, if_true]
 refine hops_cons rfl (hop_pick rfl ?_)
 try simp only [nfa, Nat.reduceAdd, bne_self_eq_false, beq_self_eq_true, Bool.false_eq_true, if_false, if_true]
 refine hops_nil ?_
 try simp only [nfa, Nat.reduceAdd, bne_self_eq_false, beq_self_eq_true, Bool.false_eq_true, if_false, if_true]
 refine hc_F rfl (by first | rfl | assumption | (simp; done) | (simp; omega) | (simp [*]; done)) ?_
 refine hc_skip ?_
 try simp only [nfa, Nat.reduceAdd, bne_self_eq_false, beq_self_eq_true, Bool.false_eq_true, if_false, if_true]
 refine sR ?_
 refine oM ?_
 try simp only [nfa, Nat.reduceAdd, bne_self_eq_false, beq_self_eq_true, Bool.false_eq_true, if_false, if_true]
 refine hops_cons rfl (hop_indexAddr rfl rfl (by first | assumption | omega | simp) (by first | assumption | omega | simp) ?_)
 try simp only [nfa, Nat.reduceAdd, bne_self_eq_false, beq_self_eq_true, Bool.false_eq_true, if_false, if_true]
 refine oF rfl ?_
 refine hops_cons rfl (hop_load rfl (by (repeat' first | assumption | exact hS | exact Hp.one_get _ _ | refine hT (by first | assumption | exact Ne.symm ‹_›) ?_)) (by first | rfl | assumption | exact mid_get0 rfl | exact mid_get rfl | (simp; done)) ?_)
 try simp only [nfa, Nat.reduceAdd, bne_self_eq_false, beq_self_eq_true, Bool.false_eq_true, if_false, if_true]
 refine hops_cons rfl (hop_bin rfl rfl rfl ?_)
 try simp only [nfa, Nat.reduceAdd, bne_self_eq_false, beq_self_eq_true, Bool.false_eq_true, if_false, if_true]
 refine oM ?_
 try simp only [nfa, Nat.reduceAdd, bne_self_eq_false, beq_self_eq_true, Bool.false_eq_true, if_false, if_true]
 refine hops_on' rfl rfl (by first | rfl | assumption | (simp; done) | (simp; omega) | (simp [*]; done)) (hop_move ?_)
 try simp only [nfa, Nat.reduceAdd, bne_self_eq_false, beq_self_eq_true, Bool.false_eq_true, if_false, if_true]
 refine hops_on' rfl rfl (by first | rfl | assumption | (simp; done) | (simp; omega) | (simp [*]; done)) (hop_indexAddr rfl rfl (by first | assumption | omega | simp) (by first | assumption | omega | simp) ?_)
 try simp only [nfa, Nat.reduceAdd, bne_self_eq_false, beq_self_eq_true, Bool.false_eq_true, if_false, if_true]
 refine hops_on' rfl rfl (by first | rfl | assumption | (simp; done) | (simp; omega) | (simp [*]; done)) (hop_fieldAddr rfl ?_)
 try simp only [nfa, Nat.reduceAdd, bne_self_eq_false, beq_self_eq_true, Bool.false_eq_true, if_false, if_true]
 refine hops_on' rfl rfl (by first | rfl | assumption | (simp; done) | (simp; omega) | (simp [*]; done)) (hop_load rfl (by (repeat' first | assumption | exact hS | exact Hp.one_get _ _ | refine hT (by first | assumption | exact Ne.symm ‹_›) ?_)) (by first | rfl | assumption | exact mid_get0 rfl | exact mid_get rfl | (simp; done)) ?_)
 try simp only [nfa, Nat.reduceAdd, bne_self_eq_false, beq_self_eq_true, Bool.false_eq_true, if_false, if_true]
 refine hops_on' rfl rfl (by first | rfl | assumption | (simp; done) | (simp; omega) | (simp [*]; done)) (hop_bin rfl rfl rfl ?_)
 try simp only [nfa, Nat.reduceAdd, bne_self_eq_false, beq_self_eq_true, Bool.false_eq_true, if_false, if_true]
 refine hops_cons rfl (hop_pick rfl ?_)
 try simp only [nfa, Nat.reduceAdd, bne_self_eq_false, beq_self_eq_true, Bool.false_eq_true, if_false, if_true]
 refine oM ?_
 try simp only [nfa, Nat.reduceAdd, bne_self_eq_false, beq_self_eq_true, Bool.false_eq_true, if_false, if_true]
 refine hops_on' rfl rfl (by first | rfl | assumption | (simp; done) | (simp; omega) | (simp [*]; done)) (hop_move ?_)
 try simp only [nfa, Nat.reduceAdd, bne_self_eq_false, beq_self_eq_true, Bool.false_eq_true, if_false, if_true]
 refine hops_on' rfl rfl (by first | rfl | assumption | (simp; done) | (simp; omega) | (simp [*]; done)) (hop_indexAddr rfl rfl (by first | assumption | omega | simp) (by first | assumption | omega | simp) ?_)
 try simp only [nfa, Nat.reduceAdd, bne_self_eq_false, beq_self_eq_true, Bool.false_eq_true, if_false, if_true]
 refine hops_on' rfl rfl (by first | rfl | assumption | (simp; done) | (simp; omega) | (simp [*]; done)) (hop_fieldAddr rfl ?_)
 try simp only [nfa, Nat.reduceAdd, bne_self_eq_false, beq_self_eq_true, Bool.false_eq_true, if_false, if_true]
 refine hops_on' rfl rfl (by first | rfl | assumption | (simp; done) | (simp; omega) | (simp [*]; done)) (hop_load rfl (by (repeat' first | assumption | exact hS | exact Hp.one_get _ _ | refine hT (by first | assumption | exact Ne.symm ‹_›) ?_)) (by first | rfl | assumption | exact mid_get0 rfl | exact mid_get rfl | (simp; done)) ?_)
 try simp only [nfa, Nat.reduceAdd, bne_self_eq_false, beq_self_eq_true, Bool.false_eq_true, if_false, if_true]
 refine hops_on' rfl rfl (by first | rfl | assumption | (simp; done) | (simp; omega) | (simp [*]; done)) (hop_bin rfl rfl rfl ?_)
 try simp only [nfa, Nat.reduceAdd, bne_self_eq_false, beq_self_eq_true, Bool.false_eq_true, if_false, if_true]
 refine hops_cons rfl (hop_pick rfl ?_)
 try simp only [nfa, Nat.reduceAdd, bne_self_eq_false, beq_self_eq_true, Bool.false_eq_true, if_false, if_true]
 refine oM ?_
 try simp only [nfa, Nat.reduceAdd, bne_self_eq_false, beq_self_eq_true, Bool.false_eq_true, if_false, if_true]
 refine hops_on' rfl rfl (by first | rfl | assumption | (simp; done) | (simp; omega) | (simp [*]; done)) (hop_move ?_)
 try simp only [nfa, Nat.reduceAdd, bne_self_eq_false, beq_self_eq_true, Bool.false_eq_true, if_false, if_true]
 refine hops_on' rfl rfl (by first | rfl | assumption | (simp; done) | (simp; omega) | (simp [*]; done)) (hop_indexAddr rfl rfl (by first | assumption | omega | simp) (by first | assumption | omega | simp) ?_)
 try simp only [nfa, Nat.reduceAdd, bne_self_eq_false, beq_self_eq_true, Bool.false_eq_true, if_false, if_true]
 refine hops_on' rfl rfl (by first | rfl | assumption | (simp; done) | (simp; omega) | (simp [*]; done)) (hop_fieldAddr rfl ?_)
 try simp only [nfa, Nat.reduceAdd, bne_self_eq_false, beq_self_eq_true, Bool.false_eq_true, if_false, if_true]
 refine hops_on' rfl rfl (by first | rfl | assumption | (simp; done) | (simp; omega) | (simp [*]; done)) (hop_fieldAddr rfl ?_)
 try simp only [nfa, Nat.reduceAdd, bne_self_eq_false, beq_self_eq_true, Bool.false_eq_true, if_false, if_true]
 refine hops_on' rfl rfl (by first | rfl | assumption | (simp; done) | (simp; omega) | (simp [*]; done)) (hop_load rfl (by (repeat' first | assumption | exact hS | exact Hp.one_get _ _ | refine hT (by first | assumption | exact Ne.symm ‹_›) ?_)) (by first | rfl | assumption | exact mid_get0 rfl | exact mid_get rfl | (simp; done)) ?_)
 try simp only [nfa, Nat.reduceAdd, bne_self_eq_false, beq_self_eq_true, Bool.false_eq_true, if_false, if_true]
 refine hops_on' rfl rfl (by first | rfl | assumption | (simp; done) | (simp; omega) | (simp [*]; done)) (hop_bin rfl rfl rfl ?_)
 try simp only [nfa, Nat.reduceAdd, bne_self_eq_false, beq_self_eq_true, Bool.false_eq_true, if_false, if_true]
 refine hops_cons rfl (hop_pick rfl ?_)
 try simp only [nfa, Nat.reduceAdd, bne_self_eq_false, beq_self_eq_true, Bool.false_eq_true, if_false, if_true]
 refine oA ?_
 try simp only [nfa, Nat.reduceAdd, bne_self_eq_false, beq_self_eq_true, Bool.false_eq_true, if_false, if_true]
 refine hops_nil ?_
 try simp only [nfa, Nat.reduceAdd, bne_self_eq_false, beq_self_eq_true, Bool.false_eq_true, if_false, if_true]
 refine hc_ret ?_
 try simp only [hng, hthen, hblock]
 apply hend_1 rfl ?es RV.tmp ?eR
 case es => exact Sub.refl _
 case eR =>
  rfl
end Go.Proofs.Try
