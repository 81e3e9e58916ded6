/- A part of the proofs over the tenants of a page cache: lemmas on what is known of the memory, and contracts of the Go functions. -/
import Derived.Test.YtckokpmljhhhcaaL1
set_option linter.unusedVariables false
set_option linter.unusedSimpArgs false
namespace Go.Proofs.Try
open Go Go.H
set_option linter.unusedSimpArgs false
set_option linter.unusedVariables false
set_option maxRecDepth 100000
set_option maxHeartbeats 2000000
theorem tenant_New_all {H : Hp} {p : Nat} {pt : Pt} {d pg : Int} (hP : PartH H p pt) : HT prog 8 #[.pointer (some ⟨p, 0, none⟩), .int .i64 d, .int .i64 pg] H (fun v H' => ∃ tv e, v = .tuple #[.pointer tv, .int .i64 e] ∧ tv.isNone = !(((decide (d ≥ 1) && decide (d ≤ 8)) && decide (pg ≥ 1)) && decide (pg ≤ 64)) ∧ e = if (((decide (d ≥ 1) && decide (d ≤ 8)) && decide (pg ≥ 1)) && decide (pg ≤ 64)) = true then 0 else 1) := by
  by_cases h : d < 1 ∨ 8 < d ∨ pg < 1 ∨ 64 < pg
  · refine (tenant_New_bad h).mono ?_
    rintro _ _ ⟨rfl, rfl⟩
    have e : (((decide (d ≥ 1) && decide (d ≤ 8)) && decide (pg ≥ 1)) && decide (pg ≤ 64)) = false := by simp; omega
    rw [e]
    exact ⟨_, _, rfl, rfl, rfl⟩
  · obtain ⟨n, rfl⟩ : ∃ n : Nat, d = (n : Int) := ⟨d.toNat, by omega⟩
    refine (tenant_New hP (by omega) (by omega) (by omega) (by omega)).mono ?_
    rintro _ _ ⟨t, m, Hm, R, rfl, _⟩
    have e : (((decide ((n : Int) ≥ 1) && decide ((n : Int) ≤ 8)) && decide (pg ≥ 1)) && decide (pg ≤ 64)) = true := by simp; omega
    rw [e]
    exact ⟨_, _, rfl, rfl, rfl⟩
theorem three {a b c : Int} {k : Nat} (hk : k < 3) : ([.int .i64 a, .int .i64 b, .int .i64 c] : List Value)[k]? = some (.int .i64 ([a, b, c].getD k 0)) := by
  rcases k with _ | _ | _ | k
  all_goals first | rfl | omega
theorem law_News {H0 : Hp} {d0 p0 : Int} (hd : fitsI d0) (hp : fitsI p0) :
    HT prog 3 #[.int .i64 d0, .int .i64 p0] H0 (fun v H' => v = .bool true) := by
 refine ht_of_body (args := [.int .i64 d0, .int .i64 p0]) func3 rfl ?_
 simp only [ntmps3, List.length_cons, List.length_nil, Nat.reduceAdd, Nat.reduceSub, List.replicate_succ, List.replicate_zero, List.cons_append, List.nil_append]
 refine sR ?_
 refine oA ?_
 try simp only [nfa, Nat.reduceAdd]
 refine hops_nil ?_
 try simp only [nfa, Nat.reduceAdd]
 refine sR ?_
 refine oM ?_
 refine oM ?_
 refine hops_cons rfl (hop_call ?_)
 simp only [nfa, Nat.reduceAdd]
 obtain ⟨d1, hd1⟩ : ∃ d1 : Int, d1 = ((arN d0 % 10 : Nat) : Int) := ⟨_, rfl⟩
 refine HT.mono (ref_Around (k := 10) hd (by decide)) ?_
 rintro _ _ ⟨rfl, rfl⟩
 rw [← hd1]
 try simp only [nf, nf2]
 refine hops_cons rfl (hop_buildSlice (L := [.int .i64 d0, .int .i64 d1, .int .i64 1]) rfl (by decide) (by decide) rfl ?_)
 intro bs1 hbs1
 have hbs1' := hbs1
 try simp only [Hp.set_none, Hp.del_none] at hbs1'
 have hbs1_n : H0 bs1 = none := by first | exact hbs1' | exact hbs1'.2 | exact hbs1'.2.2 | exact hbs1'.2.2.2 | exact hbs1'.2.2.2.2 | exact hbs1'.2.2.2.2.2 | exact hbs1'.2.2.2.2.2.2
 clear hbs1'
 try simp only [nf, nf2]
 refine oA ?_
 try simp only [nfa, Nat.reduceAdd]
 refine hops_nil ?_
 try simp only [nfa, Nat.reduceAdd]
 refine sR ?_
 refine oM ?_
 refine oM ?_
 refine hops_cons rfl (hop_call ?_)
 simp only [nfa, Nat.reduceAdd]
 obtain ⟨p1, hp1⟩ : ∃ p1 : Int, p1 = ((arN p0 % 66 : Nat) : Int) := ⟨_, rfl⟩
 refine HT.mono (ref_Around (k := 66) hp (by decide)) ?_
 rintro _ _ ⟨rfl, rfl⟩
 rw [← hp1]
 try simp only [nf, nf2]
 refine oM ?_
 try simp only [nfa, Nat.reduceAdd]
 refine hops_cons rfl (hop_buildSlice (L := [.int .i64 p0, .int .i64 p1, .int .i64 p0]) rfl (by decide) (by decide) rfl ?_)
 intro bs2 hbs2
 have hbs2' := hbs2
 try simp only [Hp.set_none, Hp.del_none] at hbs2'
 have hbs2_n : H0 bs2 = none := by first | exact hbs2' | exact hbs2'.2 | exact hbs2'.2.2 | exact hbs2'.2.2.2 | exact hbs2'.2.2.2.2 | exact hbs2'.2.2.2.2.2 | exact hbs2'.2.2.2.2.2.2
 have hbs2_bs1 : bs2 ≠ bs1 := by first | exact hbs2'.1 | exact hbs2'.2.1 | exact hbs2'.2.2.1 | exact hbs2'.2.2.2.1 | exact hbs2'.2.2.2.2.1 | exact hbs2'.2.2.2.2.2.1
 clear hbs2'
 try simp only [nf, nf2]
 refine oA ?_
 try simp only [nfa, Nat.reduceAdd]
 refine hops_nil ?_
 try simp only [nfa, Nat.reduceAdd]
 refine hc_seq ?_
 refine sR ?_
 refine oA ?_
 try simp only [nfa, Nat.reduceAdd]
 refine hops_nil ?_
 try simp only [nfa, Nat.reduceAdd]
 refine hc_block ?_
 refine hc_loop (fun nn l H => ∃ (x4 : Value) (x8 : Value) (x9 : Value) (x10 : Value) (x11 : Value) (x12 : Value) (x22 : Value) (x23 : Value) (x24 : Value) (x25 : Value) (x26 : Value) (x27 : Value) (x28 : Value) (x29 : Value) (x30 : Value) (x31 : Value) (x32 : Value) (x33 : Value) (x34 : Value) (x35 : Value) (x36 : Value) (x37 : Value) (x38 : Value) (x39 : Value) (x40 : Value) (x41 : Value) (x42 : Value) (x43 : Value) (x44 : Value) (x45 : Value) (x46 : Value) (x47 : Value) (x48 : Value) (x49 : Value) (x50 : Value) (x51 : Value) (x52 : Value) (x53 : Value) (x54 : Value) (x55 : Value) (x56 : Value) (x57 : Value) (x58 : Value) (x59 : Value) (x60 : Value) (x61 : Value) (x62 : Value) (x63 : Value) (x64 : Value) (x65 : Value) (x66 : Value) (x67 : Value) (x68 : Value) (x69 : Value) (x70 : Value) (x71 : Value) (x72 : Value) (x73 : Value) (x74 : Value) (x75 : Value) (x76 : Value) (x77 : Value) (x78 : Value) (x79 : Value) (x80 : Value) (x81 : Value) (x82 : Value) (x83 : Value) (x84 : Value) (x85 : Value) (x86 : Value) (x87 : Value) (x88 : Value) (x89 : Value) (x90 : Value) (x91 : Value) (x92 : Value) (k : Nat), l = [_, _, _, _, x4, _, _, .int .i64 (k : Int), x8, x9, x10, x11, x12, _, _, _, _, _, _, _, _, _, x22, x23, x24, x25, x26, x27, x28, x29, x30, x31, x32, x33, x34, x35, x36, x37, x38, x39, x40, x41, x42, x43, x44, x45, x46, x47, x48, x49, x50, x51, x52, x53, x54, x55, x56, x57, x58, x59, x60, x61, x62, x63, x64, x65, x66, x67, x68, x69, x70, x71, x72, x73, x74, x75, x76, x77, x78, x79, x80, x81, x82, x83, x84, x85, x86, x87, x88, x89, x90, x91, x92, _] ∧ H bs1 = some (row [.int .i64 d0, .int .i64 d1, .int .i64 1] 3) ∧ H bs2 = some (row [.int .i64 p0, .int .i64 p1, .int .i64 p0] 3) ∧ k ≤ 3 ∧ nn = 3 - k) (3) ⟨_, _, _, _, _, _, _, _, _, _, _, _, _, _, _, _, _, _, _, _, _, _, _, _, _, _, _, _, _, _, _, _, _, _, _, _, _, _, _, _, _, _, _, _, _, _, _, _, _, _, _, _, _, _, _, _, _, _, _, _, _, _, _, _, _, _, _, _, _, _, _, _, _, _, _, _, _, 0, rfl, by (repeat' first | assumption | exact hS | exact Hp.one_get _ _ | refine hT (by first | assumption | exact Ne.symm ‹_›) ?_), by (repeat' first | assumption | exact hS | exact Hp.one_get _ _ | refine hT (by first | assumption | exact Ne.symm ‹_›) ?_), by omega, rfl⟩ ?_
 rintro nn l H ⟨x4, x8, x9, x10, x11, x12, x22, x23, x24, x25, x26, x27, x28, x29, x30, x31, x32, x33, x34, x35, x36, x37, x38, x39, x40, x41, x42, x43, x44, x45, x46, x47, x48, x49, x50, x51, x52, x53, x54, x55, x56, x57, x58, x59, x60, x61, x62, x63, x64, x65, x66, x67, x68, x69, x70, x71, x72, x73, x74, x75, x76, x77, x78, x79, x80, x81, x82, x83, x84, x85, x86, x87, x88, x89, x90, x91, x92, k, rfl, hB1, hB2, hk, hnn⟩
 refine hc_seq ?_
 refine sR ?_
 refine oM ?_
 try simp only [nfa, Nat.reduceAdd]
 refine hops_cons rfl (hop_bin rfl rfl rfl ?_)
 try simp only [nfa, Nat.reduceAdd]
 refine hops_nil ?_
 try simp only [nfa, Nat.reduceAdd]
 refine hc_cond rfl (fun hc0 => ?_) (fun hc0 => ?_)
 ·
  try simp at hc0
  refine hc_skip ?_
  try simp only [nfa, Nat.reduceAdd]
  refine hc_seq ?_
  refine hc_block ?_
  refine sR ?_
  refine hops_cons rfl (hop_call ?_)
  simp only [nfa, Nat.reduceAdd]
  have hbb : bs2 ≠ bs1 := hbs2_bs1
  refine HT.mono (HT.frame (Sub.emp _) (ph_New (n := 2) (by decide) (by decide))) ?_
  rintro _ G1 ⟨H1, ⟨p, rfl, hP⟩, s1, fr1⟩
  have G1_1 := fr1 bs1 _ rfl hB1
  have G1_2 := fr1 bs2 _ rfl hB2
  obtain ⟨n1, G1_1⟩ := G1_1
  obtain ⟨n2, G1_2⟩ := G1_2
  try simp only [nf, nf2]
  refine oM ?_
  refine hops_cons rfl (hop_extract rfl rfl ?_)
  refine hops_cons rfl (hop_extract rfl rfl ?_)
  refine oA ?_
  refine oA ?_
  try simp only [nfa, Nat.reduceAdd]
  refine hops_nil ?_
  try simp only [nfa, Nat.reduceAdd]
  refine hc_seq ?_
  refine sR ?_
  refine oM ?_
  try simp only [nfa, Nat.reduceAdd]
  refine hops_cons rfl (hop_eqNil rfl rfl ?_)
  try simp only [nfa, Nat.reduceAdd]
  refine oM ?_
  try simp only [nfa, Nat.reduceAdd]
  first
   | refine hops_off' rfl rfl (by rfl) ?_
   | refine hops_un rfl rfl ?_
   | (refine hops_on' rfl rfl (by rfl) (hop_move ?_))
   | (refine hops_gp (v := ?vg1) rfl rfl (fun hgp => ?hv1) ?hh1; case hv1 => ((try simp only [hgp, if_true, ev, List.getD_cons_zero, List.getD_cons_succ]); refine hop_move ?_; rfl))
  try simp only [nfa, Nat.reduceAdd]
  first
   | refine hops_off' rfl rfl (by rfl) ?_
   | refine hops_un rfl rfl ?_
   | (refine hops_on' rfl rfl (by rfl) (hop_bin rfl rfl rfl ?_))
   | (refine hops_gp (v := ?vg2) rfl rfl (fun hgp => ?hv2) ?hh2; case hv2 => ((try simp only [hgp, if_true, ev, List.getD_cons_zero, List.getD_cons_succ]); refine hop_bin rfl rfl rfl ?_; rfl))
  try simp only [nfa, Nat.reduceAdd]
  refine hops_cons rfl (hop_pick rfl ?_)
  try simp only [nfa, Nat.reduceAdd]
  refine hops_nil ?_
  try simp only [nfa, Nat.reduceAdd]
  refine hc_F rfl (by first | rfl | assumption | (simp; done) | (simp; omega) | (simp [*]; done)) ?_
  refine hc_skip ?_
  try simp only [nfa, Nat.reduceAdd]
  refine hc_seq ?_
  refine hc_draw ((Hp.one bs1 (row [.int .i64 d0, .int .i64 d1, .int .i64 1] 3)).set bs2 (row [.int .i64 p0, .int .i64 p1, .int .i64 p0] 3)) follows (by intros; simp [hng, hthen, hblock, hend]) ?_
  refine dT 0 rfl (by decide +kernel) rfl (Sub.emp_set (Sub.one (by (repeat' first | assumption | exact hS | exact Hp.one_get _ _ | refine hT (by first | assumption | exact Ne.symm ‹_›) ?_))) (by (repeat' first | assumption | exact hS | exact Hp.one_get _ _ | refine hT (by first | assumption | exact Ne.symm ‹_›) ?_))) (hop_move ?_)
  try simp only [nfa, Nat.reduceAdd]
  refine dT 1 rfl (by decide +kernel) rfl (Sub.emp_set (Sub.one (by (repeat' first | assumption | exact hS | exact Hp.one_get _ _ | refine hT (by first | assumption | exact Ne.symm ‹_›) ?_))) (by (repeat' first | assumption | exact hS | exact Hp.one_get _ _ | refine hT (by first | assumption | exact Ne.symm ‹_›) ?_))) (hop_move ?_)
  try simp only [nfa, Nat.reduceAdd]
  refine dT 2 rfl (by decide +kernel) rfl (Sub.emp_set (Sub.one (by (repeat' first | assumption | exact hS | exact Hp.one_get _ _ | refine hT (by first | assumption | exact Ne.symm ‹_›) ?_))) (by (repeat' first | assumption | exact hS | exact Hp.one_get _ _ | refine hT (by first | assumption | exact Ne.symm ‹_›) ?_))) (hop_move ?_)
  try simp only [nfa, Nat.reduceAdd]
  refine dT 3 rfl (by decide +kernel) rfl (Sub.emp_set (Sub.one (by (repeat' first | assumption | exact hS | exact Hp.one_get _ _ | refine hT (by first | assumption | exact Ne.symm ‹_›) ?_))) (by (repeat' first | assumption | exact hS | exact Hp.one_get _ _ | refine hT (by first | assumption | exact Ne.symm ‹_›) ?_))) (hop_indexAddr (i := (k : Int)) rfl rfl (by omega) (by omega) ?_)
  simp only [Int.toNat_natCast, Nat.mul_one, Nat.zero_add]
  try simp only [nf, nf2]
  refine dT 4 rfl (by decide +kernel) rfl (Sub.emp_set (Sub.one (by (repeat' first | assumption | exact hS | exact Hp.one_get _ _ | refine hT (by first | assumption | exact Ne.symm ‹_›) ?_))) (by (repeat' first | assumption | exact hS | exact Hp.one_get _ _ | refine hT (by first | assumption | exact Ne.symm ‹_›) ?_))) (hop_load rfl (by (repeat' first | assumption | exact hS | exact Hp.one_get _ _ | refine hT (by first | assumption | exact Ne.symm ‹_›) ?_)) (three (by omega)) ?_)
  try simp only [nfa, Nat.reduceAdd]
  refine dT 5 rfl (by decide +kernel) rfl (Sub.emp_set (Sub.one (by (repeat' first | assumption | exact hS | exact Hp.one_get _ _ | refine hT (by first | assumption | exact Ne.symm ‹_›) ?_))) (by (repeat' first | assumption | exact hS | exact Hp.one_get _ _ | refine hT (by first | assumption | exact Ne.symm ‹_›) ?_))) (hop_move ?_)
  try simp only [nfa, Nat.reduceAdd]
  refine dT 6 rfl (by decide +kernel) rfl (Sub.emp_set (Sub.one (by (repeat' first | assumption | exact hS | exact Hp.one_get _ _ | refine hT (by first | assumption | exact Ne.symm ‹_›) ?_))) (by (repeat' first | assumption | exact hS | exact Hp.one_get _ _ | refine hT (by first | assumption | exact Ne.symm ‹_›) ?_))) (hop_move ?_)
  try simp only [nfa, Nat.reduceAdd]
  refine dT 7 rfl (by decide +kernel) rfl (Sub.emp_set (Sub.one (by (repeat' first | assumption | exact hS | exact Hp.one_get _ _ | refine hT (by first | assumption | exact Ne.symm ‹_›) ?_))) (by (repeat' first | assumption | exact hS | exact Hp.one_get _ _ | refine hT (by first | assumption | exact Ne.symm ‹_›) ?_))) (hop_indexAddr (i := (k : Int)) rfl rfl (by omega) (by omega) ?_)
  simp only [Int.toNat_natCast, Nat.mul_one, Nat.zero_add]
  try simp only [nf, nf2]
  refine dT 8 rfl (by decide +kernel) rfl (Sub.emp_set (Sub.one (by (repeat' first | assumption | exact hS | exact Hp.one_get _ _ | refine hT (by first | assumption | exact Ne.symm ‹_›) ?_))) (by (repeat' first | assumption | exact hS | exact Hp.one_get _ _ | refine hT (by first | assumption | exact Ne.symm ‹_›) ?_))) (hop_load rfl (by (repeat' first | assumption | exact hS | exact Hp.one_get _ _ | refine hT (by first | assumption | exact Ne.symm ‹_›) ?_)) (three (by omega)) ?_)
  try simp only [nfa, Nat.reduceAdd]
  refine hD_do 9 rfl (by decide +kernel) rfl (hop_call ?_)
  simp only [nfa, Nat.reduceAdd]
  refine HT.mono (HT.frame s1 (tenant_New_all hP)) ?_
  rintro _ G2 ⟨H2, ⟨tv, e, rfl, htv, he⟩, s2, fr2⟩
  have H2_1 := (fr2 bs1 _ n1 G1_1).2
  have H2_2 := (fr2 bs2 _ n2 G1_2).2
  try simp only [nf, nf2]
  refine ⟨.inr (Sub.emp_set (Sub.one (by (repeat' first | assumption | exact hS | exact Hp.one_get _ _ | refine hT (by first | assumption | exact Ne.symm ‹_›) ?_))) (by (repeat' first | assumption | exact hS | exact Hp.one_get _ _ | refine hT (by first | assumption | exact Ne.symm ‹_›) ?_))), ?_⟩
  try simp only [nfa, Nat.reduceAdd]
  refine dT 10 rfl (by decide +kernel) rfl (Sub.emp_set (Sub.one (by (repeat' first | assumption | exact hS | exact Hp.one_get _ _ | refine hT (by first | assumption | exact Ne.symm ‹_›) ?_))) (by (repeat' first | assumption | exact hS | exact Hp.one_get _ _ | refine hT (by first | assumption | exact Ne.symm ‹_›) ?_))) (hop_move ?_)
  try simp only [nfa, Nat.reduceAdd]
  refine dT 11 rfl (by decide +kernel) rfl (Sub.emp_set (Sub.one (by (repeat' first | assumption | exact hS | exact Hp.one_get _ _ | refine hT (by first | assumption | exact Ne.symm ‹_›) ?_))) (by (repeat' first | assumption | exact hS | exact Hp.one_get _ _ | refine hT (by first | assumption | exact Ne.symm ‹_›) ?_))) (hop_extract rfl rfl ?_)
  try simp only [nfa, Nat.reduceAdd]
  refine dT 12 rfl (by decide +kernel) rfl (Sub.emp_set (Sub.one (by (repeat' first | assumption | exact hS | exact Hp.one_get _ _ | refine hT (by first | assumption | exact Ne.symm ‹_›) ?_))) (by (repeat' first | assumption | exact hS | exact Hp.one_get _ _ | refine hT (by first | assumption | exact Ne.symm ‹_›) ?_))) (hop_extract rfl rfl ?_)
  try simp only [nfa, Nat.reduceAdd]
  refine dT 13 rfl (by decide +kernel) rfl (Sub.emp_set (Sub.one (by (repeat' first | assumption | exact hS | exact Hp.one_get _ _ | refine hT (by first | assumption | exact Ne.symm ‹_›) ?_))) (by (repeat' first | assumption | exact hS | exact Hp.one_get _ _ | refine hT (by first | assumption | exact Ne.symm ‹_›) ?_))) (hop_assign ?_)
  try simp only [nfa, Nat.reduceAdd]
  refine dT 14 rfl (by decide +kernel) rfl (Sub.emp_set (Sub.one (by (repeat' first | assumption | exact hS | exact Hp.one_get _ _ | refine hT (by first | assumption | exact Ne.symm ‹_›) ?_))) (by (repeat' first | assumption | exact hS | exact Hp.one_get _ _ | refine hT (by first | assumption | exact Ne.symm ‹_›) ?_))) (hop_assign ?_)
  try simp only [nfa, Nat.reduceAdd]
  refine hD_done (by decide +kernel) ?_
  try simp only [nfa, Nat.reduceAdd]
  refine sR ?_
  refine oM ?_
  refine oM ?_
  try simp only [nfa, Nat.reduceAdd]
  refine hops_cons rfl (hop_indexAddr (i := (k : Int)) rfl rfl (by omega) (by omega) ?_)
  simp only [Int.toNat_natCast, Nat.mul_one, Nat.zero_add]
  try simp only [nf, nf2]
  refine hops_cons rfl (hop_load rfl (by (repeat' first | assumption | exact hS | exact Hp.one_get _ _ | refine hT (by first | assumption | exact Ne.symm ‹_›) ?_)) (three (by omega)) ?_)
  try simp only [nfa, Nat.reduceAdd]
  refine hops_cons rfl (hop_bin rfl rfl rfl ?_)
  try simp only [nfa, Nat.reduceAdd]
  refine oM ?_
  try simp only [nfa, Nat.reduceAdd]
  first
   | refine hops_off' rfl rfl (by rfl) ?_
   | refine hops_un rfl rfl ?_
   | (refine hops_on' rfl rfl (by rfl) (hop_move ?_))
   | (refine hops_gp (v := ?vg3) rfl rfl (fun hgp => ?hv3) ?hh3; case hv3 => ((try simp only [hgp, if_true, ev, List.getD_cons_zero, List.getD_cons_succ]); refine hop_move ?_; rfl))
  try simp only [nfa, Nat.reduceAdd]
  first
   | refine hops_off' rfl rfl (by rfl) ?_
   | refine hops_un rfl rfl ?_
   | (refine hops_on' rfl rfl (by rfl) (hop_move ?_))
   | (refine hops_gp (v := ?vg4) rfl rfl (fun hgp => ?hv4) ?hh4; case hv4 => ((try simp only [hgp, if_true, ev, List.getD_cons_zero, List.getD_cons_succ]); refine hop_move ?_; rfl))
  try simp only [nfa, Nat.reduceAdd]
  first
   | refine hops_off' rfl rfl (by rfl) ?_
   | refine hops_un rfl rfl ?_
   | (refine hops_on' rfl rfl (by rfl) (hop_indexAddr (i := (k : Int)) rfl rfl (by omega) (by omega) ?_); simp only [Int.toNat_natCast, Nat.mul_one, Nat.zero_add])
   | (refine hops_gp (v := ?vg5) rfl rfl (fun hgp => ?hv5) ?hh5; case hv5 => ((try simp only [hgp, if_true, ev, List.getD_cons_zero, List.getD_cons_succ]); refine hop_indexAddr (i := (k : Int)) rfl rfl (by omega) (by omega) ?_; simp only [Int.toNat_natCast, Nat.mul_one, Nat.zero_add]; rfl))
  try simp only [nfa, Nat.reduceAdd]
  first
   | refine hops_off' rfl rfl (by rfl) ?_
   | refine hops_un rfl rfl ?_
   | (refine hops_on' rfl rfl (by rfl) (hop_load rfl (by (repeat' first | assumption | exact hS | exact Hp.one_get _ _ | refine hT (by first | assumption | exact Ne.symm ‹_›) ?_)) (three (by omega)) ?_))
   | (refine hops_gp (v := ?vg6) rfl rfl (fun hgp => ?hv6) ?hh6; case hv6 => ((try simp only [hgp, if_true, ev, List.getD_cons_zero, List.getD_cons_succ]); refine hop_load rfl (by (repeat' first | assumption | exact hS | exact Hp.one_get _ _ | refine hT (by first | assumption | exact Ne.symm ‹_›) ?_)) (three (by omega)) ?_; rfl))
  try simp only [nfa, Nat.reduceAdd]
  first
   | refine hops_off' rfl rfl (by rfl) ?_
   | refine hops_un rfl rfl ?_
   | (refine hops_on' rfl rfl (by rfl) (hop_bin rfl rfl rfl ?_))
   | (refine hops_gp (v := ?vg7) rfl rfl (fun hgp => ?hv7) ?hh7; case hv7 => ((try simp only [hgp, if_true, ev, List.getD_cons_zero, List.getD_cons_succ]); refine hop_bin rfl rfl rfl ?_; rfl))
  try simp only [nfa, Nat.reduceAdd]
  refine hops_cons rfl (hop_pick rfl ?_)
  try simp only [nfa, Nat.reduceAdd]
  refine oM ?_
  try simp only [nfa, Nat.reduceAdd]
  first
   | refine hops_off' rfl rfl (by rfl) ?_
   | refine hops_un rfl rfl ?_
   | (refine hops_on' rfl rfl (by rfl) (hop_move ?_))
   | (refine hops_gp (v := ?vg8) rfl rfl (fun hgp => ?hv8) ?hh8; case hv8 => ((try simp only [hgp, if_true, ev, List.getD_cons_zero, List.getD_cons_succ]); refine hop_move ?_; rfl))
  try simp only [nfa, Nat.reduceAdd]
  first
   | refine hops_off' rfl rfl (by rfl) ?_
   | refine hops_un rfl rfl ?_
   | (refine hops_on' rfl rfl (by rfl) (hop_move ?_))
   | (refine hops_gp (v := ?vg9) rfl rfl (fun hgp => ?hv9) ?hh9; case hv9 => ((try simp only [hgp, if_true, ev, List.getD_cons_zero, List.getD_cons_succ]); refine hop_move ?_; rfl))
  try simp only [nfa, Nat.reduceAdd]
  first
   | refine hops_off' rfl rfl (by rfl) ?_
   | refine hops_un rfl rfl ?_
   | (refine hops_on' rfl rfl (by rfl) (hop_indexAddr (i := (k : Int)) rfl rfl (by omega) (by omega) ?_); simp only [Int.toNat_natCast, Nat.mul_one, Nat.zero_add])
   | (refine hops_gp (v := ?vg10) rfl rfl (fun hgp => ?hv10) ?hh10; case hv10 => ((try simp only [hgp, if_true, ev, List.getD_cons_zero, List.getD_cons_succ]); refine hop_indexAddr (i := (k : Int)) rfl rfl (by omega) (by omega) ?_; simp only [Int.toNat_natCast, Nat.mul_one, Nat.zero_add]; rfl))
  try simp only [nfa, Nat.reduceAdd]
  first
   | refine hops_off' rfl rfl (by rfl) ?_
   | refine hops_un rfl rfl ?_
   | (refine hops_on' rfl rfl (by rfl) (hop_load rfl (by (repeat' first | assumption | exact hS | exact Hp.one_get _ _ | refine hT (by first | assumption | exact Ne.symm ‹_›) ?_)) (three (by omega)) ?_))
   | (refine hops_gp (v := ?vg11) rfl rfl (fun hgp => ?hv11) ?hh11; case hv11 => ((try simp only [hgp, if_true, ev, List.getD_cons_zero, List.getD_cons_succ]); refine hop_load rfl (by (repeat' first | assumption | exact hS | exact Hp.one_get _ _ | refine hT (by first | assumption | exact Ne.symm ‹_›) ?_)) (three (by omega)) ?_; rfl))
  try simp only [nfa, Nat.reduceAdd]
  first
   | refine hops_off' rfl rfl (by rfl) ?_
   | refine hops_un rfl rfl ?_
   | (refine hops_on' rfl rfl (by rfl) (hop_bin rfl rfl rfl ?_))
   | (refine hops_gp (v := ?vg12) rfl rfl (fun hgp => ?hv12) ?hh12; case hv12 => ((try simp only [hgp, if_true, ev, List.getD_cons_zero, List.getD_cons_succ]); refine hop_bin rfl rfl rfl ?_; rfl))
  try simp only [nfa, Nat.reduceAdd]
  refine hops_cons rfl (hop_pick rfl ?_)
  try simp only [nfa, Nat.reduceAdd]
  refine oM ?_
  try simp only [nfa, Nat.reduceAdd]
  first
   | refine hops_off' rfl rfl (by rfl) ?_
   | refine hops_un rfl rfl ?_
   | (refine hops_on' rfl rfl (by rfl) (hop_move ?_))
   | (refine hops_gp (v := ?vg13) rfl rfl (fun hgp => ?hv13) ?hh13; case hv13 => ((try simp only [hgp, if_true, ev, List.getD_cons_zero, List.getD_cons_succ]); refine hop_move ?_; rfl))
  try simp only [nfa, Nat.reduceAdd]
  first
   | refine hops_off' rfl rfl (by rfl) ?_
   | refine hops_un rfl rfl ?_
   | (refine hops_on' rfl rfl (by rfl) (hop_move ?_))
   | (refine hops_gp (v := ?vg14) rfl rfl (fun hgp => ?hv14) ?hh14; case hv14 => ((try simp only [hgp, if_true, ev, List.getD_cons_zero, List.getD_cons_succ]); refine hop_move ?_; rfl))
  try simp only [nfa, Nat.reduceAdd]
  first
   | refine hops_off' rfl rfl (by rfl) ?_
   | refine hops_un rfl rfl ?_
   | (refine hops_on' rfl rfl (by rfl) (hop_indexAddr (i := (k : Int)) rfl rfl (by omega) (by omega) ?_); simp only [Int.toNat_natCast, Nat.mul_one, Nat.zero_add])
   | (refine hops_gp (v := ?vg15) rfl rfl (fun hgp => ?hv15) ?hh15; case hv15 => ((try simp only [hgp, if_true, ev, List.getD_cons_zero, List.getD_cons_succ]); refine hop_indexAddr (i := (k : Int)) rfl rfl (by omega) (by omega) ?_; simp only [Int.toNat_natCast, Nat.mul_one, Nat.zero_add]; rfl))
  try simp only [nfa, Nat.reduceAdd]
  first
   | refine hops_off' rfl rfl (by rfl) ?_
   | refine hops_un rfl rfl ?_
   | (refine hops_on' rfl rfl (by rfl) (hop_load rfl (by (repeat' first | assumption | exact hS | exact Hp.one_get _ _ | refine hT (by first | assumption | exact Ne.symm ‹_›) ?_)) (three (by omega)) ?_))
   | (refine hops_gp (v := ?vg16) rfl rfl (fun hgp => ?hv16) ?hh16; case hv16 => ((try simp only [hgp, if_true, ev, List.getD_cons_zero, List.getD_cons_succ]); refine hop_load rfl (by (repeat' first | assumption | exact hS | exact Hp.one_get _ _ | refine hT (by first | assumption | exact Ne.symm ‹_›) ?_)) (three (by omega)) ?_; rfl))
  try simp only [nfa, Nat.reduceAdd]
  first
   | refine hops_off' rfl rfl (by rfl) ?_
   | refine hops_un rfl rfl ?_
   | (refine hops_on' rfl rfl (by rfl) (hop_bin rfl rfl rfl ?_))
   | (refine hops_gp (v := ?vg17) rfl rfl (fun hgp => ?hv17) ?hh17; case hv17 => ((try simp only [hgp, if_true, ev, List.getD_cons_zero, List.getD_cons_succ]); refine hop_bin rfl rfl rfl ?_; rfl))
  try simp only [nfa, Nat.reduceAdd]
  refine hops_cons rfl (hop_pick rfl ?_)
  try simp only [nfa, Nat.reduceAdd]
  refine oA ?_
  try simp only [nfa, Nat.reduceAdd]
  refine hops_nil ?_
  try simp only [nfa, Nat.reduceAdd]
  refine hc_seq ?_
  generalize (((decide ([d0, d1, 1].getD k 0 ≥ 1) && decide ([d0, d1, 1].getD k 0 ≤ 8)) && decide ([p0, p1, p0].getD k 0 ≥ 1)) && decide ([p0, p1, p0].getD k 0 ≤ 64)) = qb at htv he ⊢
  cases qb
  ·
   obtain rfl : tv = none := by cases tv <;> simp_all
   obtain rfl : e = 1 := by simpa using he
   try simp only [nf, nf2]
   refine hc_region ?_
   refine oM ?_
   try simp only [nfa, Nat.reduceAdd]
   refine hops_cons rfl (hop_neNil rfl rfl ?_)
   try simp only [nfa, Nat.reduceAdd]
   refine oM ?_
   try simp only [nfa, Nat.reduceAdd]
   refine hops_cons rfl (hop_neBool rfl rfl ?_)
   try simp only [nfa, Nat.reduceAdd]
   refine oM ?_
   try simp only [nfa, Nat.reduceAdd]
   first
    | refine hops_off' rfl rfl (by rfl) ?_
    | refine hops_un rfl rfl ?_
    | (refine hops_on' rfl rfl (by rfl) (hop_move ?_))
    | (refine hops_gp (v := ?vg18) rfl rfl (fun hgp => ?hv18) ?hh18; case hv18 => ((try simp only [hgp, if_true, ev, List.getD_cons_zero, List.getD_cons_succ]); refine hop_move ?_; rfl))
   try simp only [nfa, Nat.reduceAdd]
   first
    | refine hops_off' rfl rfl (by rfl) ?_
    | refine hops_un rfl rfl ?_
    | (refine hops_on' rfl rfl (by rfl) (hop_bin rfl rfl rfl ?_))
    | (refine hops_gp (v := ?vg19) rfl rfl (fun hgp => ?hv19) ?hh19; case hv19 => ((try simp only [hgp, if_true, ev, List.getD_cons_zero, List.getD_cons_succ]); refine hop_bin rfl rfl rfl ?_; rfl))
   try simp only [nfa, Nat.reduceAdd]
   first
    | refine hops_off' rfl rfl (by rfl) ?_
    | refine hops_un rfl rfl ?_
    | (refine hops_on' rfl rfl (by rfl) (hop_move ?_))
    | (refine hops_gp (v := ?vg20) rfl rfl (fun hgp => ?hv20) ?hh20; case hv20 => ((try simp only [hgp, if_true, ev, List.getD_cons_zero, List.getD_cons_succ]); refine hop_move ?_; rfl))
   try simp only [nfa, Nat.reduceAdd]
   first
    | refine hops_off' rfl rfl (by rfl) ?_
    | refine hops_un rfl rfl ?_
    | (refine hops_on' rfl rfl (by rfl) (hop_neBool rfl rfl ?_))
    | (refine hops_gp (v := ?vg21) rfl rfl (fun hgp => ?hv21) ?hh21; case hv21 => ((try simp only [hgp, if_true, ev, List.getD_cons_zero, List.getD_cons_succ]); refine hop_neBool rfl rfl ?_; rfl))
   try simp only [nfa, Nat.reduceAdd]
   refine hops_cons rfl (hop_pick rfl ?_)
   try simp only [nfa, Nat.reduceAdd]
   refine oM ?_
   try simp only [nfa, Nat.reduceAdd]
   first
    | refine hops_off' rfl rfl (by rfl) ?_
    | refine hops_un rfl rfl ?_
    | (refine hops_on' rfl rfl (by rfl) (hop_move ?_))
    | (refine hops_gp (v := ?vg22) rfl rfl (fun hgp => ?hv22) ?hh22; case hv22 => ((try simp only [hgp, if_true, ev, List.getD_cons_zero, List.getD_cons_succ]); refine hop_move ?_; rfl))
   try simp only [nfa, Nat.reduceAdd]
   first
    | refine hops_off' rfl rfl (by rfl) ?_
    | refine hops_un rfl rfl ?_
    | (refine hops_on' rfl rfl (by rfl) (hop_not rfl ?_))
    | (refine hops_gp (v := ?vg23) rfl rfl (fun hgp => ?hv23) ?hh23; case hv23 => ((try simp only [hgp, if_true, ev, List.getD_cons_zero, List.getD_cons_succ]); refine hop_not rfl ?_; rfl))
   try simp only [nfa, Nat.reduceAdd]
   first
    | refine hops_off' rfl rfl (by rfl) ?_
    | refine hops_un rfl rfl ?_
    | (refine hops_on' rfl rfl (by rfl) (hop_move ?_))
    | (refine hops_gp (v := ?vg24) rfl rfl (fun hgp => ?hv24) ?hh24; case hv24 => ((try simp only [hgp, if_true, ev, List.getD_cons_zero, List.getD_cons_succ]); refine hop_move ?_; rfl))
   try simp only [nfa, Nat.reduceAdd]
   first
    | refine hops_off' rfl rfl (by rfl) ?_
    | refine hops_un rfl rfl ?_
    | (refine hops_on' rfl rfl (by rfl) (hop_move ?_))
    | (refine hops_gp (v := ?vg25) rfl rfl (fun hgp => ?hv25) ?hh25; case hv25 => ((try simp only [hgp, if_true, ev, List.getD_cons_zero, List.getD_cons_succ]); refine hop_move ?_; rfl))
   try simp only [nfa, Nat.reduceAdd]
   first
    | refine hops_off' rfl rfl (by rfl) ?_
    | refine hops_un rfl rfl ?_
    | (refine hops_on' rfl rfl (by rfl) (hop_bin rfl rfl rfl ?_))
    | (refine hops_gp (v := ?vg26) rfl rfl (fun hgp => ?hv26) ?hh26; case hv26 => ((try simp only [hgp, if_true, ev, List.getD_cons_zero, List.getD_cons_succ]); refine hop_bin rfl rfl rfl ?_; rfl))
   try simp only [nfa, Nat.reduceAdd]
   first
    | refine hops_off' rfl rfl (by rfl) ?_
    | refine hops_un rfl rfl ?_
    | (refine hops_on' rfl rfl (by rfl) (hop_pick rfl ?_))
    | (refine hops_gp (v := ?vg27) rfl rfl (fun hgp => ?hv27) ?hh27; case hv27 => ((try simp only [hgp, if_true, ev, List.getD_cons_zero, List.getD_cons_succ]); refine hop_pick rfl ?_; rfl))
   try simp only [nfa, Nat.reduceAdd]
   refine hops_cons rfl (hop_pick rfl ?_)
   try simp only [nfa, Nat.reduceAdd]
   refine hops_nil ?_
   try simp only [nfa, Nat.reduceAdd]
   refine hc_F rfl (by first | rfl | assumption | (simp; done) | (simp; omega) | (simp [*]; done)) ?_
   refine hc_skip ?_
   try simp only [nfa, Nat.reduceAdd]
   refine hc_region ?_
   refine oM ?_
   try simp only [nfa, Nat.reduceAdd]
   refine hops_cons rfl (hop_add rfl rfl (by omega) ?_)
   try simp only [nfa, Nat.reduceAdd]
   refine oA ?_
   try simp only [nfa, Nat.reduceAdd]
   refine hops_nil ?_
   try simp only [nfa, Nat.reduceAdd]
   refine ⟨3 - (k + 1), _, by omega, Sub.refl _, _, _, _, _, _, _, _, _, _, _, _, _, _, _, _, _, _, _, _, _, _, _, _, _, _, _, _, _, _, _, _, _, _, _, _, _, _, _, _, _, _, _, _, _, _, _, _, _, _, _, _, _, _, _, _, _, _, _, _, _, _, _, _, _, _, _, _, _, _, _, _, _, _, _, _, _, _, k + 1, rfl, ?_⟩
   exact ⟨H2_1, H2_2, by omega, rfl⟩
  ·
   obtain ⟨ta, rfl⟩ : ∃ a, tv = some a := by cases tv <;> simp_all
   obtain rfl : e = 0 := by simpa using he
   try simp only [nf, nf2]
   refine hc_region ?_
   refine oM ?_
   try simp only [nfa, Nat.reduceAdd]
   refine hops_cons rfl (hop_neNil rfl rfl ?_)
   try simp only [nfa, Nat.reduceAdd]
   refine oM ?_
   try simp only [nfa, Nat.reduceAdd]
   refine hops_cons rfl (hop_neBool rfl rfl ?_)
   try simp only [nfa, Nat.reduceAdd]
   refine oM ?_
   try simp only [nfa, Nat.reduceAdd]
   first
    | refine hops_off' rfl rfl (by rfl) ?_
    | refine hops_un rfl rfl ?_
    | (refine hops_on' rfl rfl (by rfl) (hop_move ?_))
    | (refine hops_gp (v := ?vg28) rfl rfl (fun hgp => ?hv28) ?hh28; case hv28 => ((try simp only [hgp, if_true, ev, List.getD_cons_zero, List.getD_cons_succ]); refine hop_move ?_; rfl))
   try simp only [nfa, Nat.reduceAdd]
   first
    | refine hops_off' rfl rfl (by rfl) ?_
    | refine hops_un rfl rfl ?_
    | (refine hops_on' rfl rfl (by rfl) (hop_bin rfl rfl rfl ?_))
    | (refine hops_gp (v := ?vg29) rfl rfl (fun hgp => ?hv29) ?hh29; case hv29 => ((try simp only [hgp, if_true, ev, List.getD_cons_zero, List.getD_cons_succ]); refine hop_bin rfl rfl rfl ?_; rfl))
   try simp only [nfa, Nat.reduceAdd]
   first
    | refine hops_off' rfl rfl (by rfl) ?_
    | refine hops_un rfl rfl ?_
    | (refine hops_on' rfl rfl (by rfl) (hop_move ?_))
    | (refine hops_gp (v := ?vg30) rfl rfl (fun hgp => ?hv30) ?hh30; case hv30 => ((try simp only [hgp, if_true, ev, List.getD_cons_zero, List.getD_cons_succ]); refine hop_move ?_; rfl))
   try simp only [nfa, Nat.reduceAdd]
   first
    | refine hops_off' rfl rfl (by rfl) ?_
    | refine hops_un rfl rfl ?_
    | (refine hops_on' rfl rfl (by rfl) (hop_neBool rfl rfl ?_))
    | (refine hops_gp (v := ?vg31) rfl rfl (fun hgp => ?hv31) ?hh31; case hv31 => ((try simp only [hgp, if_true, ev, List.getD_cons_zero, List.getD_cons_succ]); refine hop_neBool rfl rfl ?_; rfl))
   try simp only [nfa, Nat.reduceAdd]
   refine hops_cons rfl (hop_pick rfl ?_)
   try simp only [nfa, Nat.reduceAdd]
   refine oM ?_
   try simp only [nfa, Nat.reduceAdd]
   first
    | refine hops_off' rfl rfl (by rfl) ?_
    | refine hops_un rfl rfl ?_
    | (refine hops_on' rfl rfl (by rfl) (hop_move ?_))
    | (refine hops_gp (v := ?vg32) rfl rfl (fun hgp => ?hv32) ?hh32; case hv32 => ((try simp only [hgp, if_true, ev, List.getD_cons_zero, List.getD_cons_succ]); refine hop_move ?_; rfl))
   try simp only [nfa, Nat.reduceAdd]
   first
    | refine hops_off' rfl rfl (by rfl) ?_
    | refine hops_un rfl rfl ?_
    | (refine hops_on' rfl rfl (by rfl) (hop_not rfl ?_))
    | (refine hops_gp (v := ?vg33) rfl rfl (fun hgp => ?hv33) ?hh33; case hv33 => ((try simp only [hgp, if_true, ev, List.getD_cons_zero, List.getD_cons_succ]); refine hop_not rfl ?_; rfl))
   try simp only [nfa, Nat.reduceAdd]
   first
    | refine hops_off' rfl rfl (by rfl) ?_
    | refine hops_un rfl rfl ?_
    | (refine hops_on' rfl rfl (by rfl) (hop_move ?_))
    | (refine hops_gp (v := ?vg34) rfl rfl (fun hgp => ?hv34) ?hh34; case hv34 => ((try simp only [hgp, if_true, ev, List.getD_cons_zero, List.getD_cons_succ]); refine hop_move ?_; rfl))
   try simp only [nfa, Nat.reduceAdd]
   first
    | refine hops_off' rfl rfl (by rfl) ?_
    | refine hops_un rfl rfl ?_
    | (refine hops_on' rfl rfl (by rfl) (hop_move ?_))
    | (refine hops_gp (v := ?vg35) rfl rfl (fun hgp => ?hv35) ?hh35; case hv35 => ((try simp only [hgp, if_true, ev, List.getD_cons_zero, List.getD_cons_succ]); refine hop_move ?_; rfl))
   try simp only [nfa, Nat.reduceAdd]
   first
    | refine hops_off' rfl rfl (by rfl) ?_
    | refine hops_un rfl rfl ?_
    | (refine hops_on' rfl rfl (by rfl) (hop_bin rfl rfl rfl ?_))
    | (refine hops_gp (v := ?vg36) rfl rfl (fun hgp => ?hv36) ?hh36; case hv36 => ((try simp only [hgp, if_true, ev, List.getD_cons_zero, List.getD_cons_succ]); refine hop_bin rfl rfl rfl ?_; rfl))
   try simp only [nfa, Nat.reduceAdd]
   first
    | refine hops_off' rfl rfl (by rfl) ?_
    | refine hops_un rfl rfl ?_
    | (refine hops_on' rfl rfl (by rfl) (hop_pick rfl ?_))
    | (refine hops_gp (v := ?vg37) rfl rfl (fun hgp => ?hv37) ?hh37; case hv37 => ((try simp only [hgp, if_true, ev, List.getD_cons_zero, List.getD_cons_succ]); refine hop_pick rfl ?_; rfl))
   try simp only [nfa, Nat.reduceAdd]
   refine hops_cons rfl (hop_pick rfl ?_)
   try simp only [nfa, Nat.reduceAdd]
   refine hops_nil ?_
   try simp only [nfa, Nat.reduceAdd]
   refine hc_F rfl (by first | rfl | assumption | (simp; done) | (simp; omega) | (simp [*]; done)) ?_
   refine hc_skip ?_
   try simp only [nfa, Nat.reduceAdd]
   refine hc_region ?_
   refine oM ?_
   try simp only [nfa, Nat.reduceAdd]
   refine hops_cons rfl (hop_add rfl rfl (by omega) ?_)
   try simp only [nfa, Nat.reduceAdd]
   refine oA ?_
   try simp only [nfa, Nat.reduceAdd]
   refine hops_nil ?_
   try simp only [nfa, Nat.reduceAdd]
   refine ⟨3 - (k + 1), _, by omega, Sub.refl _, _, _, _, _, _, _, _, _, _, _, _, _, _, _, _, _, _, _, _, _, _, _, _, _, _, _, _, _, _, _, _, _, _, _, _, _, _, _, _, _, _, _, _, _, _, _, _, _, _, _, _, _, _, _, _, _, _, _, _, _, _, _, _, _, _, _, _, _, _, _, _, _, _, _, _, _, _, k + 1, rfl, ?_⟩
   exact ⟨H2_1, H2_2, by omega, rfl⟩
 ·
  try simp at hc0
  refine hc_exit ?_
  simp only [hng, hthen, hblock, if_true]
  try simp only [nfa, Nat.reduceAdd]
  refine sR ?_
  refine hops_cons rfl (hop_call ?_)
  simp only [nfa, Nat.reduceAdd]
  refine HT.mono law_lives ?_
  rintro _ G9 rfl
  try simp only [nf, nf2]
  refine oA ?_
  try simp only [nfa, Nat.reduceAdd]
  refine hops_nil ?_
  try simp only [nfa, Nat.reduceAdd]
  refine hc_ret ?_
  try simp only [hng, hthen, hblock]
  apply hend_1 rfl ?es RV.tmp ?eR
  case es => exact Sub.refl _
  case eR =>
   rfl
end Go.Proofs.Try
