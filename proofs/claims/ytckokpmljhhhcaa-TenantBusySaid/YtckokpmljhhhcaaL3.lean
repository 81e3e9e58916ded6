/- A part of the proofs over the tenants of a page cache: lemmas on what is known of the memory, and contracts of the Go functions. -/
import Derived.Test.YtckokpmljhhhcaaL1
set_option linter.unusedVariables false
set_option linter.unusedSimpArgs false
namespace Go.Proofs.Try
open Go Go.H
set_option linter.unusedSimpArgs false
set_option linter.unusedVariables false
set_option maxRecDepth 100000
set_option maxHeartbeats 2000000
theorem out0 {R : Hp} {ov : Value} (h : OutH R ov []) : ∃ a c, ov = .slice a 0 c := by
  obtain ⟨xs, h1, h2, _⟩ := h
  obtain rfl : xs = [] := by simpa using h2
  exact h1.rd.slice
theorem chk_fetch {pg : Int} (h0 : 0 ≤ pg) (h4 : pg < 4) : chk 4 1 pg 0 0 [] = 0 := by
  unfold chk checkE
  rw [if_neg, if_neg, if_neg] <;> simp [sameR, namedR, namedD] <;> omega
/-- a tenant of whom k fetches wait -/
structure BInv (d k : Nat) (s : Ts) : Prop where
  ids : s.t.ids = k
  q : s.t.q.length = k
  dep : s.t.dep = d
  pages : s.t.pages = 4
  out : s.t.out = []
  cn : s.t.cn = if k = 0 then z6 else [0, 1, 0, 0, 0, 0]
  todo : 0 < k → s.m.todo ≠ []
  first : k = 0 → s = Ts.new (Pt.new 1) 4 d
theorem BInv.new (d : Nat) : BInv d 0 (Ts.new (Pt.new 1) 4 d) := ⟨rfl, rfl, rfl, rfl, rfl, rfl, fun h => absurd h (by omega), fun _ => rfl⟩
theorem BInv.acc {d k : Nat} {s : Ts} (h : BInv d k s) (pg : Int) : BInv d (k + 1) (s.acc (rvOf 1 pg 0 0 []) 0) := by
  rcases Nat.eq_zero_or_pos k with rfl | hk
  · rw [h.first rfl]
    have e : ((Ts.new (Pt.new 1) 4 d).acc (rvOf 1 pg 0 0 []) 0) = ⟨⟨(Pt.new 1).victim.2, 1, pg, both 1 pg, 0, []⟩, ⟨4, 1, d, [⟨1, rvOf 1 pg 0 0 []⟩], [0, 1, 0, 0, 0, 0], []⟩⟩ := rfl
    rw [e]
    exact ⟨rfl, rfl, rfl, rfl, rfl, rfl, fun _ => by simp [both, bothTo, List.range_succ], fun h => by omega⟩
  · have hb := h.todo hk
    have e : s.acc (rvOf 1 pg 0 0 []) 0 = ⟨s.m, ⟨s.t.pages, s.t.ids + 1, s.t.dep, s.t.q ++ [⟨s.t.ids + 1, rvOf 1 pg 0 0 []⟩], s.t.cn, s.t.out⟩⟩ := by
      show Ts.run _ _ _ = _
      exact run_end (s := ⟨s.m, ⟨s.t.pages, s.t.ids + 1, s.t.dep, s.t.q ++ [⟨s.t.ids + 1, rvOf 1 pg 0 0 []⟩], s.t.cn, s.t.out⟩⟩) (.inl hb) _ _
    rw [e]
    refine ⟨?_, ?_, h.dep, h.pages, h.out, ?_, fun _ => hb, fun h => by omega⟩
    · show s.t.ids + 1 = _; rw [h.ids]; rfl
    · show (s.t.q ++ _).length = _; simp [h.q]
    · show s.t.cn = _; rw [h.cn, if_neg (by omega), if_neg (by omega)]
theorem law_Busy {H0 : Hp} {d0 many : Int} (hd : fitsI d0) (hm : fitsI many) :
    HT prog 5 #[.int .i64 d0, .int .i64 many] H0 (fun v H' => v = .bool true) := by
 obtain ⟨dd, hdd⟩ : ∃ dd : Nat, dd = arN d0 % 8 + 1 := ⟨_, rfl⟩
 have hd8 : arN d0 % 8 < 8 := Nat.mod_lt _ (by decide)
 obtain ⟨mm, hmm⟩ : ∃ mm : Nat, mm = arN many % 13 := ⟨_, rfl⟩
 have hm13 : arN many % 13 < 13 := Nat.mod_lt _ (by decide)
 refine ht_of_body (args := [.int .i64 d0, .int .i64 many]) func5 rfl ?_
 simp only [ntmps5, List.length_cons, List.length_nil, Nat.reduceAdd, Nat.reduceSub, List.replicate_succ, List.replicate_zero, List.cons_append, List.nil_append]
 refine sR ?_
 refine oA ?_
 try simp only [nfa, Nat.reduceAdd, bne_self_eq_false, beq_self_eq_true, Bool.false_eq_true, if_false, if_true]
 refine hops_nil ?_
 try simp only [nfa, Nat.reduceAdd, bne_self_eq_false, beq_self_eq_true, Bool.false_eq_true, if_false, if_true]
 refine sR ?_
 refine oM ?_
 refine hops_cons rfl (hop_call ?_)
 simp only [nfa, Nat.reduceAdd, bne_self_eq_false, beq_self_eq_true, Bool.false_eq_true, if_false, if_true]
 refine HT.mono (ref_Around (k := 8) hd (by decide)) ?_
 rintro _ _ ⟨rfl, rfl⟩
 try simp only [nfa, Nat.reduceAdd, bne_self_eq_false, beq_self_eq_true, Bool.false_eq_true, if_false, if_true]
 refine hops_cons rfl (hop_add rfl rfl (by omega) ?_)
 rw [show (1 : Int) + ((arN d0 % 8 : Nat) : Int) = (dd : Int) by omega]
 try simp only [nf, nf2]
 refine oA ?_
 try simp only [nfa, Nat.reduceAdd, bne_self_eq_false, beq_self_eq_true, Bool.false_eq_true, if_false, if_true]
 refine hops_nil ?_
 try simp only [nfa, Nat.reduceAdd, bne_self_eq_false, beq_self_eq_true, Bool.false_eq_true, if_false, if_true]
 refine sR ?_
 refine oM ?_
 refine hops_cons rfl (hop_call ?_)
 simp only [nfa, Nat.reduceAdd, bne_self_eq_false, beq_self_eq_true, Bool.false_eq_true, if_false, if_true]
 refine HT.mono (HT.frame (Sub.emp _) (law_begin (n := 1) (d := dd) (pg := 4) (by decide) (by decide) (by omega) (by omega) (by decide) (by decide))) ?_
 rintro _ G0 ⟨Hx, ⟨w, t, m, p, Hm0, R0, fv, Hf, rfl, ⟨T0, W0, W0m, W0R⟩, hf1, hf2, hf3, hf4, hf5⟩, s0, fr0⟩
 have T0 := T0.sub s0
 have W0 := s0 _ _ W0
 have I0 : TInv (Ts.new (Pt.new 1) 4 dd) := new_inv _ _ _
 try simp only [nf, nf2]
 refine oA ?_
 try simp only [nfa, Nat.reduceAdd, bne_self_eq_false, beq_self_eq_true, Bool.false_eq_true, if_false, if_true]
 refine hops_nil ?_
 try simp only [nfa, Nat.reduceAdd, bne_self_eq_false, beq_self_eq_true, Bool.false_eq_true, if_false, if_true]
 refine hc_seq ?_
 refine sR ?_
 refine oM ?_
 try simp only [nfa, Nat.reduceAdd, bne_self_eq_false, beq_self_eq_true, Bool.false_eq_true, if_false, if_true]
 refine hops_cons rfl (hop_eqNil rfl rfl ?_)
 try simp only [nfa, Nat.reduceAdd, bne_self_eq_false, beq_self_eq_true, Bool.false_eq_true, if_false, if_true]
 refine hops_nil ?_
 try simp only [nfa, Nat.reduceAdd, bne_self_eq_false, beq_self_eq_true, Bool.false_eq_true, if_false, if_true]
 refine hc_F rfl (by first | rfl | assumption | (simp; done) | (simp; omega) | (simp [*]; done)) ?_
 refine hc_skip ?_
 try simp only [nfa, Nat.reduceAdd, bne_self_eq_false, beq_self_eq_true, Bool.false_eq_true, if_false, if_true]
 refine sR ?_
 refine oM ?_
 refine hops_cons rfl (hop_call ?_)
 simp only [nfa, Nat.reduceAdd, bne_self_eq_false, beq_self_eq_true, Bool.false_eq_true, if_false, if_true]
 refine HT.mono (ref_Around (k := 13) hm (by decide)) ?_
 rintro _ _ ⟨rfl, rfl⟩
 rw [← hmm]
 try simp only [nf, nf2]
 refine oA ?_
 try simp only [nfa, Nat.reduceAdd, bne_self_eq_false, beq_self_eq_true, Bool.false_eq_true, if_false, if_true]
 refine hops_nil ?_
 try simp only [nfa, Nat.reduceAdd, bne_self_eq_false, beq_self_eq_true, Bool.false_eq_true, if_false, if_true]
 refine hc_seq ?_
 refine sR ?_
 refine oA ?_
 try simp only [nfa, Nat.reduceAdd, bne_self_eq_false, beq_self_eq_true, Bool.false_eq_true, if_false, if_true]
 refine hops_nil ?_
 try simp only [nfa, Nat.reduceAdd, bne_self_eq_false, beq_self_eq_true, Bool.false_eq_true, if_false, if_true]
 refine hc_block ?_
 refine hc_loop (fun nn l H => ∃ (x4 : Value) (x9 : Value) (x10 : Value) (x21 : Value) (x22 : Value) (x23 : Value) (x24 : Value) (x25 : Value) (x26 : Value) (x27 : Value) (x28 : Value) (x29 : Value) (x30 : Value) (x31 : Value) (x32 : Value) (x33 : Value) (x34 : Value) (x35 : Value) (x36 : Value) (x37 : Value) (x38 : Value) (x39 : Value) (x40 : Value) (x41 : Value) (x42 : Value) (x43 : Value) (x44 : Value) (x45 : Value) (x46 : Value) (x47 : Value) (x48 : Value) (x49 : Value) (x50 : Value) (x51 : Value) (x52 : Value) (x53 : Value) (x54 : Value) (x55 : Value) (x56 : Value) (x57 : Value) (x58 : Value) (x59 : Value) (x60 : Value) (k : Nat) (Hm R : Hp) (s : Ts), l = [_, _, _, _, x4, _, _, _, .int .i64 (k : Int), x9, x10, _, _, _, _, _, _, _, _, _, _, x21, x22, x23, x24, x25, x26, x27, x28, x29, x30, x31, x32, x33, x34, x35, x36, x37, x38, x39, x40, x41, x42, x43, x44, x45, x46, x47, x48, x49, x50, x51, x52, x53, x54, x55, x56, x57, x58, x59, x60, _, _, _, _, _, _, _, _, _, _, _, _, _, _, _, _, _, _, _, _, _, _, _, _, _, _, _, _, _, _, _, _, _, _] ∧ TPart H Hm R t m p s ∧ TInv s ∧ BInv dd (min k dd) s ∧ H w = some (row (wRow t p (ref0 fv (dd : Int) 4) 0) 55) ∧ Hm w = none ∧ R w = none ∧ k ≤ mm ∧ nn = mm - k) (mm) ⟨_, _, _, _, _, _, _, _, _, _, _, _, _, _, _, _, _, _, _, _, _, _, _, _, _, _, _, _, _, _, _, _, _, _, _, _, _, _, _, _, _, _, _, 0, Hm0, R0, _, rfl, T0, I0, by rw [Nat.zero_min]; exact BInv.new dd, W0, W0m, W0R, by omega, rfl⟩ ?_
 rintro nn l H ⟨x4, x9, x10, x21, x22, x23, x24, x25, x26, x27, x28, x29, x30, x31, x32, x33, x34, x35, x36, x37, x38, x39, x40, x41, x42, x43, x44, x45, x46, x47, x48, x49, x50, x51, x52, x53, x54, x55, x56, x57, x58, x59, x60, k, Hm, R, s, rfl, T, I, B, W, Wm, WR, hk, hnn⟩
 refine hc_seq ?_
 refine sR ?_
 refine oM ?_
 refine oM ?_
 try simp only [nfa, Nat.reduceAdd, bne_self_eq_false, beq_self_eq_true, Bool.false_eq_true, if_false, if_true]
 refine hops_cons rfl (hop_bin rfl rfl rfl ?_)
 try simp only [nfa, Nat.reduceAdd, bne_self_eq_false, beq_self_eq_true, Bool.false_eq_true, if_false, if_true]
 refine hops_nil ?_
 try simp only [nfa, Nat.reduceAdd, bne_self_eq_false, beq_self_eq_true, Bool.false_eq_true, if_false, if_true]
 refine hc_cond rfl (fun hc1 => ?_) (fun hc1 => ?_)
 ·
  try simp at hc1
  refine hc_skip ?_
  try simp only [nfa, Nat.reduceAdd, bne_self_eq_false, beq_self_eq_true, Bool.false_eq_true, if_false, if_true]
  refine hc_seq ?_
  refine hc_block ?_
  refine hc_seq ?_
  by_cases hlt : k < dd
  ·
   have hlt2 : decide ((k : Int) < dd) = true := by simp; omega
   have hge2 : decide ((k : Int) ≥ dd) = false := by simp; omega
   refine hc_region ?_
   refine oM ?_
   refine oN rfl ?_
   refine oF rfl ?_
   refine hops_cons rfl (hop_load rfl (by (repeat' first | assumption | exact hS | exact Hp.one_get _ _ | refine hT (by first | assumption | exact Ne.symm ‹_›) ?_)) (by first | rfl | assumption | exact mid_get0 rfl | exact mid_get rfl | (simp; done)) ?_)
   try simp only [nfa, Nat.reduceAdd, bne_self_eq_false, beq_self_eq_true, Bool.false_eq_true, if_false, if_true, hlt2, hge2]
   refine oM ?_
   try simp only [nfa, Nat.reduceAdd, bne_self_eq_false, beq_self_eq_true, Bool.false_eq_true, if_false, if_true, hlt2, hge2]
   refine hops_cons rfl (hop_remN (b := 4) rfl rfl (by decide) ?_)
   try simp only [nfa, Nat.reduceAdd, bne_self_eq_false, beq_self_eq_true, Bool.false_eq_true, if_false, if_true, hlt2, hge2]
   refine hops_cons rfl (hop_build (by simp only [fillL, wr, Value.cells, List.map_cons, List.map_nil, nf, nf2]; rfl) ?_)
   try simp only [nfa, Nat.reduceAdd, bne_self_eq_false, beq_self_eq_true, Bool.false_eq_true, if_false, if_true, hlt2, hge2]
   refine hops_cons rfl (hop_call ?_)
   simp only [nfa, Nat.reduceAdd, bne_self_eq_false, beq_self_eq_true, Bool.false_eq_true, if_false, if_true, hlt2, hge2]
   have hkm : k % 4 < 4 := Nat.mod_lt _ (by decide)
   refine HT.mono (ten_Submit_ok (op := 1) (page := ((k % 4 : Nat) : Int)) (off := 0) (len := 0) (bs := []) (tick := 0) T dOk.nil I (by rw [B.pages]; exact chk_fetch (by omega) (by omega)) (by rw [B.q, B.dep]; omega) (by rw [B.ids]; omega) (by rw [B.out, B.q]; simp; omega)) ?_
   rintro _ G1 ⟨Hm1, R1, rfl, T1, I1, fr1⟩
   rw [show s.t.ids + 1 = (k : Int) + 1 by rw [B.ids]; omega]
   obtain ⟨W1, W1m, W1R⟩ := fr1 w _ Wm WR W
   try simp only [nf, nf2]
   refine oM ?_
   refine hops_cons rfl (hop_extract rfl rfl ?_)
   refine hops_cons rfl (hop_extract rfl rfl ?_)
   refine oA ?_
   refine oA ?_
   try simp only [nfa, Nat.reduceAdd, bne_self_eq_false, beq_self_eq_true, Bool.false_eq_true, if_false, if_true, hlt2, hge2]
   refine hops_nil ?_
   try simp only [nfa, Nat.reduceAdd, bne_self_eq_false, beq_self_eq_true, Bool.false_eq_true, if_false, if_true, hlt2, hge2]
   refine hc_seq ?_
   refine sR ?_
   refine oM ?_
   refine oM ?_
   try simp only [nfa, Nat.reduceAdd, bne_self_eq_false, beq_self_eq_true, Bool.false_eq_true, if_false, if_true, hlt2, hge2]
   refine hops_cons rfl (hop_bin rfl rfl rfl ?_)
   try simp only [nfa, Nat.reduceAdd, bne_self_eq_false, beq_self_eq_true, Bool.false_eq_true, if_false, if_true, hlt2, hge2]
   refine oM ?_
   try simp only [nfa, Nat.reduceAdd, bne_self_eq_false, beq_self_eq_true, Bool.false_eq_true, if_false, if_true, hlt2, hge2]
   refine hops_on' rfl rfl (by first | rfl | assumption | (simp; done) | (simp; omega) | (simp [*]; done)) (hop_move ?_)
   try simp only [nfa, Nat.reduceAdd, bne_self_eq_false, beq_self_eq_true, Bool.false_eq_true, if_false, if_true, hlt2, hge2]
   refine hops_on' rfl rfl (by first | rfl | assumption | (simp; done) | (simp; omega) | (simp [*]; done)) (hop_move ?_)
   try simp only [nfa, Nat.reduceAdd, bne_self_eq_false, beq_self_eq_true, Bool.false_eq_true, if_false, if_true, hlt2, hge2]
   refine hops_on' rfl rfl (by first | rfl | assumption | (simp; done) | (simp; omega) | (simp [*]; done)) (hop_add rfl rfl (by omega) ?_)
   try simp only [nfa, Nat.reduceAdd, bne_self_eq_false, beq_self_eq_true, Bool.false_eq_true, if_false, if_true, hlt2, hge2]
   refine hops_on' rfl rfl (by first | rfl | assumption | (simp; done) | (simp; omega) | (simp [*]; done)) (hop_bin rfl rfl rfl ?_)
   try simp only [nfa, Nat.reduceAdd, bne_self_eq_false, beq_self_eq_true, Bool.false_eq_true, if_false, if_true, hlt2, hge2]
   refine hops_on' rfl rfl (by first | rfl | assumption | (simp; done) | (simp; omega) | (simp [*]; done)) (hop_move ?_)
   try simp only [nfa, Nat.reduceAdd, bne_self_eq_false, beq_self_eq_true, Bool.false_eq_true, if_false, if_true, hlt2, hge2]
   refine hops_on' rfl rfl (by first | rfl | assumption | (simp; done) | (simp; omega) | (simp [*]; done)) (hop_move ?_)
   try simp only [nfa, Nat.reduceAdd, bne_self_eq_false, beq_self_eq_true, Bool.false_eq_true, if_false, if_true, hlt2, hge2]
   refine hops_on' rfl rfl (by first | rfl | assumption | (simp; done) | (simp; omega) | (simp [*]; done)) (hop_bin rfl rfl rfl ?_)
   try simp only [nfa, Nat.reduceAdd, bne_self_eq_false, beq_self_eq_true, Bool.false_eq_true, if_false, if_true, hlt2, hge2]
   refine hops_on' rfl rfl (by first | rfl | assumption | (simp; done) | (simp; omega) | (simp [*]; done)) (hop_pick rfl ?_)
   try simp only [nfa, Nat.reduceAdd, bne_self_eq_false, beq_self_eq_true, Bool.false_eq_true, if_false, if_true, hlt2, hge2]
   refine hops_cons rfl (hop_pick rfl ?_)
   try simp only [nfa, Nat.reduceAdd, bne_self_eq_false, beq_self_eq_true, Bool.false_eq_true, if_false, if_true, hlt2, hge2]
   refine hops_nil ?_
   try simp only [nfa, Nat.reduceAdd, bne_self_eq_false, beq_self_eq_true, Bool.false_eq_true, if_false, if_true, hlt2, hge2]
   refine hc_F rfl (by first | rfl | assumption | (simp; done) | (simp; omega) | (simp [*]; done)) ?_
   refine hc_skip ?_
   try simp only [nfa, Nat.reduceAdd, bne_self_eq_false, beq_self_eq_true, Bool.false_eq_true, if_false, if_true, hlt2, hge2]
   refine sR ?_
   refine oM ?_
   refine oM ?_
   try simp only [nfa, Nat.reduceAdd, bne_self_eq_false, beq_self_eq_true, Bool.false_eq_true, if_false, if_true, hlt2, hge2]
   refine hops_cons rfl (hop_bin rfl rfl rfl ?_)
   try simp only [nfa, Nat.reduceAdd, bne_self_eq_false, beq_self_eq_true, Bool.false_eq_true, if_false, if_true, hlt2, hge2]
   refine oM ?_
   try simp only [nfa, Nat.reduceAdd, bne_self_eq_false, beq_self_eq_true, Bool.false_eq_true, if_false, if_true, hlt2, hge2]
   refine hops_off' rfl rfl (by first | rfl | assumption | (simp; done) | (simp; omega) | (simp [*]; done)) ?_
   try simp only [nfa, Nat.reduceAdd, bne_self_eq_false, beq_self_eq_true, Bool.false_eq_true, if_false, if_true, hlt2, hge2]
   refine hops_off' rfl rfl (by first | rfl | assumption | (simp; done) | (simp; omega) | (simp [*]; done)) ?_
   try simp only [nfa, Nat.reduceAdd, bne_self_eq_false, beq_self_eq_true, Bool.false_eq_true, if_false, if_true, hlt2, hge2]
   refine hops_off' rfl rfl (by first | rfl | assumption | (simp; done) | (simp; omega) | (simp [*]; done)) ?_
   try simp only [nfa, Nat.reduceAdd, bne_self_eq_false, beq_self_eq_true, Bool.false_eq_true, if_false, if_true, hlt2, hge2]
   refine hops_un rfl rfl ?_
   try simp only [nfa, Nat.reduceAdd, bne_self_eq_false, beq_self_eq_true, Bool.false_eq_true, if_false, if_true, hlt2, hge2]
   refine hops_un rfl rfl ?_
   try simp only [nfa, Nat.reduceAdd, bne_self_eq_false, beq_self_eq_true, Bool.false_eq_true, if_false, if_true, hlt2, hge2]
   refine hops_off' rfl rfl (by first | rfl | assumption | (simp; done) | (simp; omega) | (simp [*]; done)) ?_
   try simp only [nfa, Nat.reduceAdd, bne_self_eq_false, beq_self_eq_true, Bool.false_eq_true, if_false, if_true, hlt2, hge2]
   refine hops_cons rfl (hop_pick rfl ?_)
   try simp only [nfa, Nat.reduceAdd, bne_self_eq_false, beq_self_eq_true, Bool.false_eq_true, if_false, if_true, hlt2, hge2]
   refine hops_nil ?_
   try simp only [nfa, Nat.reduceAdd, bne_self_eq_false, beq_self_eq_true, Bool.false_eq_true, if_false, if_true, hlt2, hge2]
   refine hc_F rfl (by first | rfl | assumption | (simp; done) | (simp; omega) | (simp [*]; done)) ?_
   refine hc_skip ?_
   try simp only [nfa, Nat.reduceAdd, bne_self_eq_false, beq_self_eq_true, Bool.false_eq_true, if_false, if_true, hlt2, hge2]
   refine hc_region ?_
   refine oM ?_
   try simp only [nfa, Nat.reduceAdd, bne_self_eq_false, beq_self_eq_true, Bool.false_eq_true, if_false, if_true, hlt2, hge2]
   refine hops_cons rfl (hop_add rfl rfl (by omega) ?_)
   try simp only [nfa, Nat.reduceAdd, bne_self_eq_false, beq_self_eq_true, Bool.false_eq_true, if_false, if_true, hlt2, hge2]
   refine oA ?_
   try simp only [nfa, Nat.reduceAdd, bne_self_eq_false, beq_self_eq_true, Bool.false_eq_true, if_false, if_true, hlt2, hge2]
   refine hops_nil ?_
   try simp only [nfa, Nat.reduceAdd, bne_self_eq_false, beq_self_eq_true, Bool.false_eq_true, if_false, if_true, hlt2, hge2]
   refine ⟨mm - (k + 1), _, by omega, Sub.refl _, _, _, _, _, _, _, _, _, _, _, _, _, _, _, _, _, _, _, _, _, _, _, _, _, _, _, _, _, _, _, _, _, _, _, _, _, _, _, _, _, _, _, _, k + 1, Hm1, R1, s.acc (rvOf 1 ((k % 4 : Nat) : Int) 0 0 []) 0, rfl, ?_⟩
   exact ⟨T1, I1, by rw [show min (k + 1) dd = k + 1 by omega, show k + 1 = min k dd + 1 by omega]; exact B.acc _, W1, W1m, W1R, by omega, rfl⟩
  ·
   have hlt2 : decide ((k : Int) < dd) = false := by simp; omega
   have hge2 : decide ((k : Int) ≥ dd) = true := by simp; omega
   refine hc_region ?_
   refine oM ?_
   refine oN rfl ?_
   refine oF rfl ?_
   refine hops_cons rfl (hop_load rfl (by (repeat' first | assumption | exact hS | exact Hp.one_get _ _ | refine hT (by first | assumption | exact Ne.symm ‹_›) ?_)) (by first | rfl | assumption | exact mid_get0 rfl | exact mid_get rfl | (simp; done)) ?_)
   try simp only [nfa, Nat.reduceAdd, bne_self_eq_false, beq_self_eq_true, Bool.false_eq_true, if_false, if_true, hlt2, hge2]
   refine oM ?_
   try simp only [nfa, Nat.reduceAdd, bne_self_eq_false, beq_self_eq_true, Bool.false_eq_true, if_false, if_true, hlt2, hge2]
   refine hops_cons rfl (hop_remN (b := 4) rfl rfl (by decide) ?_)
   try simp only [nfa, Nat.reduceAdd, bne_self_eq_false, beq_self_eq_true, Bool.false_eq_true, if_false, if_true, hlt2, hge2]
   refine hops_cons rfl (hop_build (by simp only [fillL, wr, Value.cells, List.map_cons, List.map_nil, nf, nf2]; rfl) ?_)
   try simp only [nfa, Nat.reduceAdd, bne_self_eq_false, beq_self_eq_true, Bool.false_eq_true, if_false, if_true, hlt2, hge2]
   refine hops_cons rfl (hop_call ?_)
   simp only [nfa, Nat.reduceAdd, bne_self_eq_false, beq_self_eq_true, Bool.false_eq_true, if_false, if_true, hlt2, hge2]
   have hkm : k % 4 < 4 := Nat.mod_lt _ (by decide)
   refine HT.mono (ten_Submit_full (op := 1) (page := ((k % 4 : Nat) : Int)) (off := 0) (len := 0) (bs := []) (tick := 0) T dOk.nil (by rw [B.pages]; exact chk_fetch (by omega) (by omega)) (by rw [B.q, B.dep]; omega) (by rw [B.ids]; omega)) ?_
   rintro _ G1 ⟨rfl, sG⟩
   have W1 := sG _ _ W
   try simp only [nf, nf2]
   refine oM ?_
   refine hops_cons rfl (hop_extract rfl rfl ?_)
   refine hops_cons rfl (hop_extract rfl rfl ?_)
   refine oA ?_
   refine oA ?_
   try simp only [nfa, Nat.reduceAdd, bne_self_eq_false, beq_self_eq_true, Bool.false_eq_true, if_false, if_true, hlt2, hge2]
   refine hops_nil ?_
   try simp only [nfa, Nat.reduceAdd, bne_self_eq_false, beq_self_eq_true, Bool.false_eq_true, if_false, if_true, hlt2, hge2]
   refine hc_seq ?_
   refine sR ?_
   refine oM ?_
   refine oM ?_
   try simp only [nfa, Nat.reduceAdd, bne_self_eq_false, beq_self_eq_true, Bool.false_eq_true, if_false, if_true, hlt2, hge2]
   refine hops_cons rfl (hop_bin rfl rfl rfl ?_)
   try simp only [nfa, Nat.reduceAdd, bne_self_eq_false, beq_self_eq_true, Bool.false_eq_true, if_false, if_true, hlt2, hge2]
   refine oM ?_
   try simp only [nfa, Nat.reduceAdd, bne_self_eq_false, beq_self_eq_true, Bool.false_eq_true, if_false, if_true, hlt2, hge2]
   refine hops_off' rfl rfl (by first | rfl | assumption | (simp; done) | (simp; omega) | (simp [*]; done)) ?_
   try simp only [nfa, Nat.reduceAdd, bne_self_eq_false, beq_self_eq_true, Bool.false_eq_true, if_false, if_true, hlt2, hge2]
   refine hops_off' rfl rfl (by first | rfl | assumption | (simp; done) | (simp; omega) | (simp [*]; done)) ?_
   try simp only [nfa, Nat.reduceAdd, bne_self_eq_false, beq_self_eq_true, Bool.false_eq_true, if_false, if_true, hlt2, hge2]
   refine hops_off' rfl rfl (by first | rfl | assumption | (simp; done) | (simp; omega) | (simp [*]; done)) ?_
   try simp only [nfa, Nat.reduceAdd, bne_self_eq_false, beq_self_eq_true, Bool.false_eq_true, if_false, if_true, hlt2, hge2]
   refine hops_off' rfl rfl (by first | rfl | assumption | (simp; done) | (simp; omega) | (simp [*]; done)) ?_
   try simp only [nfa, Nat.reduceAdd, bne_self_eq_false, beq_self_eq_true, Bool.false_eq_true, if_false, if_true, hlt2, hge2]
   refine hops_off' rfl rfl (by first | rfl | assumption | (simp; done) | (simp; omega) | (simp [*]; done)) ?_
   try simp only [nfa, Nat.reduceAdd, bne_self_eq_false, beq_self_eq_true, Bool.false_eq_true, if_false, if_true, hlt2, hge2]
   refine hops_un rfl rfl ?_
   try simp only [nfa, Nat.reduceAdd, bne_self_eq_false, beq_self_eq_true, Bool.false_eq_true, if_false, if_true, hlt2, hge2]
   refine hops_un rfl rfl ?_
   try simp only [nfa, Nat.reduceAdd, bne_self_eq_false, beq_self_eq_true, Bool.false_eq_true, if_false, if_true, hlt2, hge2]
   refine hops_off' rfl rfl (by first | rfl | assumption | (simp; done) | (simp; omega) | (simp [*]; done)) ?_
   try simp only [nfa, Nat.reduceAdd, bne_self_eq_false, beq_self_eq_true, Bool.false_eq_true, if_false, if_true, hlt2, hge2]
   refine hops_cons rfl (hop_pick rfl ?_)
   try simp only [nfa, Nat.reduceAdd, bne_self_eq_false, beq_self_eq_true, Bool.false_eq_true, if_false, if_true, hlt2, hge2]
   refine hops_nil ?_
   try simp only [nfa, Nat.reduceAdd, bne_self_eq_false, beq_self_eq_true, Bool.false_eq_true, if_false, if_true, hlt2, hge2]
   refine hc_F rfl (by first | rfl | assumption | (simp; done) | (simp; omega) | (simp [*]; done)) ?_
   refine hc_skip ?_
   try simp only [nfa, Nat.reduceAdd, bne_self_eq_false, beq_self_eq_true, Bool.false_eq_true, if_false, if_true, hlt2, hge2]
   refine sR ?_
   refine oM ?_
   refine oM ?_
   try simp only [nfa, Nat.reduceAdd, bne_self_eq_false, beq_self_eq_true, Bool.false_eq_true, if_false, if_true, hlt2, hge2]
   refine hops_cons rfl (hop_bin rfl rfl rfl ?_)
   try simp only [nfa, Nat.reduceAdd, bne_self_eq_false, beq_self_eq_true, Bool.false_eq_true, if_false, if_true, hlt2, hge2]
   refine oM ?_
   try simp only [nfa, Nat.reduceAdd, bne_self_eq_false, beq_self_eq_true, Bool.false_eq_true, if_false, if_true, hlt2, hge2]
   refine hops_on' rfl rfl (by first | rfl | assumption | (simp; done) | (simp; omega) | (simp [*]; done)) (hop_move ?_)
   try simp only [nfa, Nat.reduceAdd, bne_self_eq_false, beq_self_eq_true, Bool.false_eq_true, if_false, if_true, hlt2, hge2]
   refine hops_on' rfl rfl (by first | rfl | assumption | (simp; done) | (simp; omega) | (simp [*]; done)) (hop_bin rfl rfl rfl ?_)
   try simp only [nfa, Nat.reduceAdd, bne_self_eq_false, beq_self_eq_true, Bool.false_eq_true, if_false, if_true, hlt2, hge2]
   refine hops_on' rfl rfl (by first | rfl | assumption | (simp; done) | (simp; omega) | (simp [*]; done)) (hop_move ?_)
   try simp only [nfa, Nat.reduceAdd, bne_self_eq_false, beq_self_eq_true, Bool.false_eq_true, if_false, if_true, hlt2, hge2]
   refine hops_on' rfl rfl (by first | rfl | assumption | (simp; done) | (simp; omega) | (simp [*]; done)) (hop_move ?_)
   try simp only [nfa, Nat.reduceAdd, bne_self_eq_false, beq_self_eq_true, Bool.false_eq_true, if_false, if_true, hlt2, hge2]
   refine hops_on' rfl rfl (by first | rfl | assumption | (simp; done) | (simp; omega) | (simp [*]; done)) (hop_bin rfl rfl rfl ?_)
   try simp only [nfa, Nat.reduceAdd, bne_self_eq_false, beq_self_eq_true, Bool.false_eq_true, if_false, if_true, hlt2, hge2]
   refine hops_on' rfl rfl (by first | rfl | assumption | (simp; done) | (simp; omega) | (simp [*]; done)) (hop_pick rfl ?_)
   try simp only [nfa, Nat.reduceAdd, bne_self_eq_false, beq_self_eq_true, Bool.false_eq_true, if_false, if_true, hlt2, hge2]
   refine hops_cons rfl (hop_pick rfl ?_)
   try simp only [nfa, Nat.reduceAdd, bne_self_eq_false, beq_self_eq_true, Bool.false_eq_true, if_false, if_true, hlt2, hge2]
   refine hops_nil ?_
   try simp only [nfa, Nat.reduceAdd, bne_self_eq_false, beq_self_eq_true, Bool.false_eq_true, if_false, if_true, hlt2, hge2]
   refine hc_F rfl (by first | rfl | assumption | (simp; done) | (simp; omega) | (simp [*]; done)) ?_
   refine hc_skip ?_
   try simp only [nfa, Nat.reduceAdd, bne_self_eq_false, beq_self_eq_true, Bool.false_eq_true, if_false, if_true, hlt2, hge2]
   refine hc_region ?_
   refine oM ?_
   try simp only [nfa, Nat.reduceAdd, bne_self_eq_false, beq_self_eq_true, Bool.false_eq_true, if_false, if_true, hlt2, hge2]
   refine hops_cons rfl (hop_add rfl rfl (by omega) ?_)
   try simp only [nfa, Nat.reduceAdd, bne_self_eq_false, beq_self_eq_true, Bool.false_eq_true, if_false, if_true, hlt2, hge2]
   refine oA ?_
   try simp only [nfa, Nat.reduceAdd, bne_self_eq_false, beq_self_eq_true, Bool.false_eq_true, if_false, if_true, hlt2, hge2]
   refine hops_nil ?_
   try simp only [nfa, Nat.reduceAdd, bne_self_eq_false, beq_self_eq_true, Bool.false_eq_true, if_false, if_true, hlt2, hge2]
   refine ⟨mm - (k + 1), _, by omega, Sub.refl _, _, _, _, _, _, _, _, _, _, _, _, _, _, _, _, _, _, _, _, _, _, _, _, _, _, _, _, _, _, _, _, _, _, _, _, _, _, _, _, _, _, _, _, k + 1, Hm, R, s, rfl, ?_⟩
   exact ⟨T.sub sG, I, by rw [show min (k + 1) dd = min k dd by omega]; exact B, sG _ _ W, Wm, WR, by omega, rfl⟩
 ·
  try simp at hc1
  refine hc_exit ?_
  simp only [hng, hthen, hblock, if_true]
  try simp only [nfa, Nat.reduceAdd, bne_self_eq_false, beq_self_eq_true, Bool.false_eq_true, if_false, if_true]
  refine sR ?_
  refine oM ?_
  try simp only [nfa, Nat.reduceAdd, bne_self_eq_false, beq_self_eq_true, Bool.false_eq_true, if_false, if_true]
  refine hops_cons rfl (hop_minI rfl rfl ?_)
  try simp only [nfa, Nat.reduceAdd, bne_self_eq_false, beq_self_eq_true, Bool.false_eq_true, if_false, if_true]
  obtain rfl : k = mm := by omega
  refine hops_cons rfl (hop_convInt rfl ?_)
  obtain ⟨ms, hms⟩ : ∃ ms : Nat, IntKind.u64.wrap (min (k : Int) 1) = (ms : Int) ∧ ms = min k 1 := ⟨min k 1, by simp [IntKind.wrap, IntKind.bits, IntKind.signed]; omega, rfl⟩
  rw [hms.1]
  try simp only [nf, nf2]
  refine oA ?_
  try simp only [nfa, Nat.reduceAdd, bne_self_eq_false, beq_self_eq_true, Bool.false_eq_true, if_false, if_true]
  refine hops_nil ?_
  try simp only [nfa, Nat.reduceAdd, bne_self_eq_false, beq_self_eq_true, Bool.false_eq_true, if_false, if_true]
  refine sR ?_
  refine oM ?_
  refine oN rfl ?_
  refine oF rfl ?_
  refine hops_cons rfl (hop_load rfl (by (repeat' first | assumption | exact hS | exact Hp.one_get _ _ | refine hT (by first | assumption | exact Ne.symm ‹_›) ?_)) (by first | rfl | assumption | exact mid_get0 rfl | exact mid_get rfl | (simp; done)) ?_)
  try simp only [nfa, Nat.reduceAdd, bne_self_eq_false, beq_self_eq_true, Bool.false_eq_true, if_false, if_true]
  refine hops_cons rfl (hop_call ?_)
  simp only [nfa, Nat.reduceAdd, bne_self_eq_false, beq_self_eq_true, Bool.false_eq_true, if_false, if_true]
  refine HT.mono (ten_Waits T) ?_
  rintro _ _ ⟨rfl, rfl⟩
  try simp only [nf, nf2]
  refine oM ?_
  refine oM ?_
  try simp only [nfa, Nat.reduceAdd, bne_self_eq_false, beq_self_eq_true, Bool.false_eq_true, if_false, if_true]
  refine hops_cons rfl (hop_minI rfl rfl ?_)
  try simp only [nfa, Nat.reduceAdd, bne_self_eq_false, beq_self_eq_true, Bool.false_eq_true, if_false, if_true]
  refine hops_cons rfl (hop_bin rfl rfl rfl ?_)
  rw [show ((s.t.q.length : Int) == min (k : Int) (dd : Int)) = true by simp [B.q]; omega]
  try simp only [nf, nf2]
  refine oM ?_
  try simp only [nfa, Nat.reduceAdd, bne_self_eq_false, beq_self_eq_true, Bool.false_eq_true, if_false, if_true]
  refine hops_on' rfl rfl (by first | rfl | assumption | (simp; done) | (simp; omega) | (simp [*]; done)) (hop_move ?_)
  try simp only [nfa, Nat.reduceAdd, bne_self_eq_false, beq_self_eq_true, Bool.false_eq_true, if_false, if_true]
  refine hops_on' rfl rfl (by first | rfl | assumption | (simp; done) | (simp; omega) | (simp [*]; done)) (hop_nilCheck rfl ?_)
  try simp only [nfa, Nat.reduceAdd, bne_self_eq_false, beq_self_eq_true, Bool.false_eq_true, if_false, if_true]
  refine hops_on' rfl rfl (by first | rfl | assumption | (simp; done) | (simp; omega) | (simp [*]; done)) (hop_fieldAddr rfl ?_)
  try simp only [nfa, Nat.reduceAdd, bne_self_eq_false, beq_self_eq_true, Bool.false_eq_true, if_false, if_true]
  refine hops_on' rfl rfl (by first | rfl | assumption | (simp; done) | (simp; omega) | (simp [*]; done)) (hop_load rfl (by (repeat' first | assumption | exact hS | exact Hp.one_get _ _ | refine hT (by first | assumption | exact Ne.symm ‹_›) ?_)) (by first | rfl | assumption | exact mid_get0 rfl | exact mid_get rfl | (simp; done)) ?_)
  try simp only [nfa, Nat.reduceAdd, bne_self_eq_false, beq_self_eq_true, Bool.false_eq_true, if_false, if_true]
  refine hops_on' rfl rfl (by first | rfl | assumption | (simp; done) | (simp; omega) | (simp [*]; done)) (hop_call ?_)
  simp only [nfa, Nat.reduceAdd, bne_self_eq_false, beq_self_eq_true, Bool.false_eq_true, if_false, if_true]
  refine HT.mono (ten_Count T) ?_
  rintro _ _ ⟨rfl, rfl⟩
  have hcc : cnc s.t.cn = [.int .u64 0, .int .u64 ((min k 1 : Nat) : Int), .int .u64 0, .int .u64 0, .int .u64 0, .int .u64 0] := by
    rw [B.cn]
    by_cases h0 : min k dd = 0
    · have : k = 0 := by omega
      subst this; simp [z6, cnc]
    · have h1 : min k 1 = 1 := by omega
      rw [if_neg h0, h1]; rfl
  rw [hcc]
  try simp only [nf, nf2]
  refine hops_on' rfl rfl (by first | rfl | assumption | (simp; done) | (simp; omega) | (simp [*]; done)) (hop_move ?_)
  try simp only [nfa, Nat.reduceAdd, bne_self_eq_false, beq_self_eq_true, Bool.false_eq_true, if_false, if_true]
  refine hops_on' rfl rfl (by first | rfl | assumption | (simp; done) | (simp; omega) | (simp [*]; done)) (hop_build (by simp only [fillL, wr, Value.cells, List.map_cons, List.map_nil, nf, nf2]; rfl) ?_)
  try simp only [nfa, Nat.reduceAdd, bne_self_eq_false, beq_self_eq_true, Bool.false_eq_true, if_false, if_true]
  rw [hms.2]
  refine hops_on' rfl rfl (by first | rfl | assumption | (simp; done) | (simp; omega) | (simp [*]; done)) (hop_eqA rfl rfl eqR_six ?_)
  simp only [beq_self_eq_true, List.all_cons, List.all_nil, id, Bool.and_true, Bool.and_self, Int.cast_ofNat_Int]
  try simp only [nf, nf2]
  refine hops_cons rfl (hop_pick rfl ?_)
  try simp only [nfa, Nat.reduceAdd, bne_self_eq_false, beq_self_eq_true, Bool.false_eq_true, if_false, if_true]
  refine oM ?_
  try simp only [nfa, Nat.reduceAdd, bne_self_eq_false, beq_self_eq_true, Bool.false_eq_true, if_false, if_true]
  refine hops_on' rfl rfl (by first | rfl | assumption | (simp; done) | (simp; omega) | (simp [*]; done)) (hop_move ?_)
  try simp only [nfa, Nat.reduceAdd, bne_self_eq_false, beq_self_eq_true, Bool.false_eq_true, if_false, if_true]
  refine hops_on' rfl rfl (by first | rfl | assumption | (simp; done) | (simp; omega) | (simp [*]; done)) (hop_nilCheck rfl ?_)
  try simp only [nfa, Nat.reduceAdd, bne_self_eq_false, beq_self_eq_true, Bool.false_eq_true, if_false, if_true]
  refine hops_on' rfl rfl (by first | rfl | assumption | (simp; done) | (simp; omega) | (simp [*]; done)) (hop_fieldAddr rfl ?_)
  try simp only [nfa, Nat.reduceAdd, bne_self_eq_false, beq_self_eq_true, Bool.false_eq_true, if_false, if_true]
  refine hops_on' rfl rfl (by first | rfl | assumption | (simp; done) | (simp; omega) | (simp [*]; done)) (hop_load rfl (by (repeat' first | assumption | exact hS | exact Hp.one_get _ _ | refine hT (by first | assumption | exact Ne.symm ‹_›) ?_)) (by first | rfl | assumption | exact mid_get0 rfl | exact mid_get rfl | (simp; done)) ?_)
  try simp only [nfa, Nat.reduceAdd, bne_self_eq_false, beq_self_eq_true, Bool.false_eq_true, if_false, if_true]
  refine hops_on' rfl rfl (by first | rfl | assumption | (simp; done) | (simp; omega) | (simp [*]; done)) (hop_call ?_)
  simp only [nfa, Nat.reduceAdd, bne_self_eq_false, beq_self_eq_true, Bool.false_eq_true, if_false, if_true]
  refine HT.mono (ten_Out T) ?_
  rintro ov G6 ⟨R6, hO, T6, fr6⟩
  rw [B.out] at hO
  obtain ⟨oa, oc, rfl⟩ := out0 hO
  try simp only [nf, nf2]
  refine hops_on' rfl rfl (by first | rfl | assumption | (simp; done) | (simp; omega) | (simp [*]; done)) (hop_lenS rfl ?_)
  try simp only [nfa, Nat.reduceAdd, bne_self_eq_false, beq_self_eq_true, Bool.false_eq_true, if_false, if_true]
  refine hops_on' rfl rfl (by first | rfl | assumption | (simp; done) | (simp; omega) | (simp [*]; done)) (hop_bin rfl rfl rfl ?_)
  try simp only [nfa, Nat.reduceAdd, bne_self_eq_false, beq_self_eq_true, Bool.false_eq_true, if_false, if_true]
  refine hops_cons rfl (hop_pick rfl ?_)
  try simp only [nfa, Nat.reduceAdd, bne_self_eq_false, beq_self_eq_true, Bool.false_eq_true, if_false, if_true]
  refine oM ?_
  try simp only [nfa, Nat.reduceAdd, bne_self_eq_false, beq_self_eq_true, Bool.false_eq_true, if_false, if_true]
  refine hops_on' rfl rfl (by first | rfl | assumption | (simp; done) | (simp; omega) | (simp [*]; done)) (hop_call ?_)
  simp only [nfa, Nat.reduceAdd, bne_self_eq_false, beq_self_eq_true, Bool.false_eq_true, if_false, if_true]
  refine HT.mono law_lives ?_
  rintro _ G9 rfl
  try simp only [nf, nf2]
  refine hops_cons rfl (hop_pick rfl ?_)
  try simp only [nfa, Nat.reduceAdd, bne_self_eq_false, beq_self_eq_true, Bool.false_eq_true, if_false, if_true]
  refine oA ?_
  try simp only [nfa, Nat.reduceAdd, bne_self_eq_false, beq_self_eq_true, Bool.false_eq_true, if_false, if_true]
  refine hops_nil ?_
  try simp only [nfa, Nat.reduceAdd, bne_self_eq_false, beq_self_eq_true, Bool.false_eq_true, if_false, if_true]
  refine hc_ret ?_
  try simp only [hng, hthen, hblock]
  apply hend_1 rfl ?es RV.tmp ?eR
  case es => exact Sub.refl _
  case eR =>
   rfl
end Go.Proofs.Try
