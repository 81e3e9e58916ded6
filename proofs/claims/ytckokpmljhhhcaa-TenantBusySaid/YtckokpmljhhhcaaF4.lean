/- A part of the proofs over the tenants of a page cache: lemmas on what is known of the memory, and contracts of the Go functions. -/
import Derived.Test.YtckokpmljhhhcaaF3
set_option linter.unusedVariables false
set_option linter.unusedSimpArgs false
namespace Go.Proofs.Try
open Go Go.H
set_option linter.unusedSimpArgs false
set_option linter.unusedVariables false
set_option maxRecDepth 100000
set_option maxHeartbeats 2000000
theorem plan_both {H0 : Hp} {kind pg : Int} :
    HT prog 98 #[.int .i64 kind, .int .i64 pg] H0 (RetS H0 (flat ioc (both kind pg)) 2 106 3) := by
 refine ht_of_body (args := [.int .i64 kind, .int .i64 pg]) func98 rfl ?_
 simp only [ntmps98, List.length_cons, List.length_nil, Nat.reduceAdd, Nat.reduceSub, List.replicate_succ, List.replicate_zero, List.cons_append, List.nil_append]
 refine sR ?_
 refine oA ?_
 try simp only [nf, Nat.reduceAdd]
 refine hops_nil ?_
 try simp only [nf, Nat.reduceAdd]
 refine sR ?_
 refine oA ?_
 try simp only [nf, Nat.reduceAdd]
 refine hops_nil ?_
 try simp only [nf, Nat.reduceAdd]
 refine hc_seq ?_
 refine sR ?_
 refine oM ?_
 try simp only [nf, Nat.reduceAdd]
 refine hops_nil ?_
 try simp only [nf, Nat.reduceAdd]
 refine hc_block ?_
 refine hc_loop (fun nn l H => ∃ (x6 : Value) (x8 : Value) (x9 : Value) (x10 : Value) (x11 : Value) (x12 : Value) (x13 : Value) (x14 : Value) (x15 : Value) (x16 : Value) (x17 : Value) (k : Nat) (sv : Value), l = [_, _, _, _, _, sv, x6, .int .i64 (k : Int), x8, x9, x10, x11, x12, x13, x14, x15, x16, x17, _] ∧ RetS H0 (flat ioc (bothTo kind pg k)) k 106 3 sv H ∧ k ≤ 2 ∧ nn = 2 - k) (2) ⟨_, _, _, _, _, _, _, _, _, _, _, 0, _, rfl, RetS.nil _ _ _, by omega, rfl⟩ ?_
 rintro nn l H ⟨x6, x8, x9, x10, x11, x12, x13, x14, x15, x16, x17, k, sv, rfl, hret, hk, hnn⟩
 refine sR ?_
 refine hops_cons rfl (hop_bin rfl rfl rfl ?_)
 try simp only [nf, Nat.reduceAdd]
 refine hops_nil ?_
 try simp only [nf, Nat.reduceAdd]
 refine hc_seq ?_
 refine hc_cond rfl (fun hc0 => ?_) (fun hc0 => ?_)
 ·
  try simp at hc0
  refine hc_skip ?_
  try simp only [nf, Nat.reduceAdd]
  refine hc_seq ?_
  refine hc_block ?_
  refine sR ?_
  refine oM ?_
  try simp only [nf, Nat.reduceAdd]
  refine oA ?_
  try simp only [nf, Nat.reduceAdd]
  refine hops_nil ?_
  try simp only [nf, Nat.reduceAdd]
  refine hc_region ?_
  refine oM ?_
  try simp only [nf, Nat.reduceAdd]
  refine oM ?_
  try simp only [nf, Nat.reduceAdd]
  refine oM ?_
  try simp only [nf, Nat.reduceAdd]
  refine oM ?_
  try simp only [nf, Nat.reduceAdd]
  refine hops_cons rfl (hop_build (L := ioc ⟨kind, pg, k⟩) rfl ?_)
  try simp only [nf, Nat.reduceAdd]
  refine hops_cons rfl (hop_buildSlice (L := ioc ⟨kind, pg, k⟩) rfl (by decide) (by decide) rfl ?_)
  intro bs hbs
  try simp only [pt, ev, List.getD_cons_zero, List.getD_cons_succ, List.set_cons_zero, List.set_cons_succ]
  have hsb : srcOk (H.set bs (row (ioc ⟨kind, pg, k⟩) 106)) 3 1 (.slice (some ⟨bs, 0, none⟩) 1 1) (ioc ⟨kind, pg, k⟩) := srcOk_own' (Hp.set_same _ _ _) rfl
  have s1 := Sub.set_new (o := row (ioc ⟨kind, pg, k⟩) 106) hbs
  refine hops_cons rfl (hop_appendO (v := sv) (m := 1) (ys := ioc ⟨kind, pg, k⟩) rfl (hret.1.sub s1) hsb (one_ioc _) rfl (by decide) (by decide) (by omega) (by decide) ?_)
  intro b' cap' J' hb' hcap' hJ'
  obtain ⟨fin1, fin2⟩ := app_fin (t := 106) (H0 := H0) (by rw [hret.2]; exact Sub.refl _) s1 hb' hcap' hJ' hret.1.len (show (ioc ⟨kind, pg, k⟩).length = 1 * 3 from rfl)
  try simp only [pt, ev, List.getD_cons_zero, List.getD_cons_succ, List.set_cons_zero, List.set_cons_succ]
  refine oA ?_
  try simp only [nf, Nat.reduceAdd]
  refine hops_nil ?_
  try simp only [nf, Nat.reduceAdd]
  refine hc_region ?_
  refine hops_cons rfl (hop_add rfl rfl (by omega) ?_)
  try simp only [nf, Nat.reduceAdd]
  refine oM ?_
  try simp only [nf, Nat.reduceAdd]
  refine hops_nil ?_
  try simp only [nf, Nat.reduceAdd]
  refine ⟨2 - (k + 1), _, by omega, fin1, _, _, _, _, _, _, _, _, _, _, _, k + 1, _, rfl, ?_⟩
  exact ⟨by rw [bothTo_succ, flat_append]; simpa [flat] using fin2, by omega, rfl⟩
 ·
  try simp at hc0
  refine hc_exit ?_
  simp only [hng, hthen, hblock, if_true]
  try simp only [nf, Nat.reduceAdd]
  refine sR ?_
  refine oM ?_
  try simp only [nf, Nat.reduceAdd]
  refine oA ?_
  try simp only [nf, Nat.reduceAdd]
  refine hops_nil ?_
  try simp only [nf, Nat.reduceAdd]
  refine hc_ret ?_
  try simp only [hng, hthen, hblock]
  refine hend_tmp rfl ?_
  obtain rfl : k = 2 := by omega
  exact hret
theorem plan_Loads {H0 : Hp} {pg : Int} :
    HT prog 93 #[.int .i64 pg] H0 (RetS H0 (flat ioc (both 1 pg)) 2 106 3) := by
 refine ht_of_body (args := [.int .i64 pg]) func93 rfl ?_
 simp only [ntmps93, List.length_cons, List.length_nil, Nat.reduceAdd, Nat.reduceSub, List.replicate_succ, List.replicate_zero, List.cons_append, List.nil_append]
 refine sR ?_
 refine oA ?_
 try simp only [nf, Nat.reduceAdd]
 refine hops_nil ?_
 try simp only [nf, Nat.reduceAdd]
 refine sR ?_
 refine oM ?_
 try simp only [nf, Nat.reduceAdd]
 refine hops_cons rfl (hop_call ?_)
 simp only [nf, Nat.reduceAdd]
 refine HT.mono plan_both ?_
 intro v H1 hr
 try simp only [pt, ev, List.getD_cons_zero, List.getD_cons_succ, List.set_cons_zero, List.set_cons_succ]
 refine oA ?_
 try simp only [nf, Nat.reduceAdd]
 refine hops_nil ?_
 try simp only [nf, Nat.reduceAdd]
 refine hc_ret ?_
 try simp only [hng, hthen, hblock]
 refine hend_tmp rfl ?_
 exact hr
theorem plan_Stores {H0 : Hp} {pv : Value} {np : Nat} {pages : List Int} (hpv : OwnS H0 pv np (ints pages) 3 1) (hnp : np ≤ 65536) :
    HT prog 92 #[pv] H0 (RetS H0 (flat ioc (storesOf pages)) (2 * np) 106 3) := by
 have hlp : pages.length = np := by have := hpv.len; simpa [ints] using this
 obtain ⟨pa, pc, rfl⟩ := hpv.slice
 refine ht_of_body (args := [.slice pa np pc]) func92 rfl ?_
 simp only [ntmps92, List.length_cons, List.length_nil, Nat.reduceAdd, Nat.reduceSub, List.replicate_succ, List.replicate_zero, List.cons_append, List.nil_append]
 refine sR ?_
 refine oA ?_
 try simp only [nf, Nat.reduceAdd]
 refine hops_nil ?_
 try simp only [nf, Nat.reduceAdd]
 refine sR ?_
 refine oA ?_
 try simp only [nf, Nat.reduceAdd]
 refine hops_nil ?_
 try simp only [nf, Nat.reduceAdd]
 refine hc_seq ?_
 refine sR ?_
 refine oM ?_
 try simp only [nf, Nat.reduceAdd]
 refine hops_cons rfl (hop_lenS rfl ?_)
 try simp only [nf, Nat.reduceAdd]
 refine oM ?_
 try simp only [nf, Nat.reduceAdd]
 refine hops_nil ?_
 try simp only [nf, Nat.reduceAdd]
 refine hc_block ?_
 refine hc_loop (fun nn l H => ∃ (x5 : Value) (x9 : Value) (x10 : Value) (x11 : Value) (x12 : Value) (x13 : Value) (x14 : Value) (x15 : Value) (x16 : Value) (k : Nat) (sv : Value), l = [_, _, _, sv, _, x5, _, _, .int .i64 (k : Int), x9, x10, x11, x12, x13, x14, x15, x16, _] ∧ RetS H0 (flat ioc (storesOf (pages.take k))) (2 * k) 106 3 sv H ∧ k ≤ np ∧ nn = np - k) (np) ⟨_, _, _, _, _, _, _, _, _, 0, _, rfl, RetS.nil _ _ _, by omega, rfl⟩ ?_
 rintro nn l H ⟨x5, x9, x10, x11, x12, x13, x14, x15, x16, k, sv, rfl, hret, hk, hnn⟩
 refine sR ?_
 refine hops_cons rfl (hop_bin rfl rfl rfl ?_)
 try simp only [nf, Nat.reduceAdd]
 refine hops_nil ?_
 try simp only [nf, Nat.reduceAdd]
 refine hc_seq ?_
 refine hc_cond rfl (fun hc0 => ?_) (fun hc0 => ?_)
 ·
  try simp at hc0
  refine hc_skip ?_
  try simp only [nf, Nat.reduceAdd]
  refine hc_seq ?_
  refine hc_block ?_
  refine sR ?_
  have s0 := hret.le
  rcases hpv.sub s0 with ⟨_, hz, _⟩ | ⟨pb, pcap, PB, hpe, hpb, hpA, hpB, hpc⟩
  · omega
  simp only [Value.slice.injEq] at hpe
  obtain ⟨rfl, _, rfl⟩ := hpe
  obtain ⟨pg, hpg⟩ : ∃ pg, pages[k]? = some pg := ⟨_, List.getElem?_eq_getElem (by omega)⟩
  refine hops_cons rfl (hop_indexAddr (i := (k : Int)) (b := pb) (o := 0) (n := 1) (len := np) (cap := pc) rfl rfl (by omega) (by omega) ?_)
  simp only [Int.toNat_natCast, Nat.zero_add, Nat.mul_one]
  try simp only [pt, ev, List.getD_cons_zero, List.getD_cons_succ, List.set_cons_zero, List.set_cons_succ]
  refine hops_cons rfl (hop_load (v := .int .i64 pg) rfl hpb (by rw [List.getElem?_append_left (by simp [ints]; omega)]; simp [ints, hpg]) ?_)
  try simp only [nf, Nat.reduceAdd]
  refine oA ?_
  try simp only [nf, Nat.reduceAdd]
  refine hops_nil ?_
  try simp only [nf, Nat.reduceAdd]
  refine hc_region ?_
  refine oM ?_
  try simp only [nf, Nat.reduceAdd]
  refine oM ?_
  try simp only [nf, Nat.reduceAdd]
  refine hops_cons rfl (hop_call ?_)
  simp only [nf, Nat.reduceAdd]
  refine HT.mono plan_both ?_
  intro v2 H2 hr
  try simp only [pt, ev, List.getD_cons_zero, List.getD_cons_succ, List.set_cons_zero, List.set_cons_succ]
  obtain ⟨hr1, hr2⟩ := hr
  have s1 : Sub H H2 := hr2 ▸ Sub.drop H2 v2
  have htk : storesOf (pages.take (k + 1)) = storesOf (pages.take k) ++ both 2 pg := by rw [List.take_add_one, hpg]; simp [storesOf]
  refine hops_cons rfl (hop_appendO (v := sv) (m := 2) (ys := flat ioc (both 2 pg)) rfl (hret.1.sub s1) hr1.src one_ios rfl (by decide) (by decide) (by omega) (by decide) ?_)
  intro b' cap' J' hb' hcap' hJ'
  obtain ⟨fin1, fin2⟩ := app_fin (t := 106) (H0 := H0) (by rw [hret.2]; exact Sub.refl _) s1 hb' hcap' hJ' hret.1.len hr1.len
  try simp only [pt, ev, List.getD_cons_zero, List.getD_cons_succ, List.set_cons_zero, List.set_cons_succ]
  refine oA ?_
  try simp only [nf, Nat.reduceAdd]
  refine hops_nil ?_
  try simp only [nf, Nat.reduceAdd]
  refine hc_region ?_
  refine hops_cons rfl (hop_add rfl rfl (by omega) ?_)
  try simp only [nf, Nat.reduceAdd]
  refine oM ?_
  try simp only [nf, Nat.reduceAdd]
  refine hops_nil ?_
  try simp only [nf, Nat.reduceAdd]
  refine ⟨np - (k + 1), _, by omega, fin1, _, _, _, _, _, _, _, _, _, k + 1, _, rfl, ?_⟩
  exact ⟨by rw [htk, flat_append]; exact fin2, by omega, rfl⟩
 ·
  try simp at hc0
  refine hc_exit ?_
  simp only [hng, hthen, hblock, if_true]
  try simp only [nf, Nat.reduceAdd]
  refine sR ?_
  refine oM ?_
  try simp only [nf, Nat.reduceAdd]
  refine oA ?_
  try simp only [nf, Nat.reduceAdd]
  refine hops_nil ?_
  try simp only [nf, Nat.reduceAdd]
  refine hc_ret ?_
  try simp only [hng, hthen, hblock]
  refine hend_tmp rfl ?_
  obtain rfl : np = k := by omega
  rw [List.take_of_length_le (by omega)] at hret
  exact hret
theorem plan_Fetch_d {H0 : Hp} {pg old : Int} :
    HT prog 82 #[.int .i64 pg, .bool true, .int .i64 old] H0 (RetS H0 (flat ioc (both 2 old ++ both 1 pg)) 4 106 3) := by
 refine ht_of_body (args := [.int .i64 pg, .bool true, .int .i64 old]) func82 rfl ?_
 simp only [ntmps82, List.length_cons, List.length_nil, Nat.reduceAdd, Nat.reduceSub, List.replicate_succ, List.replicate_zero, List.cons_append, List.nil_append]
 refine sR ?_
 refine oA ?_
 try simp only [nf, Nat.reduceAdd]
 refine hops_nil ?_
 try simp only [nf, Nat.reduceAdd]
 refine hc_seq ?_
 refine sR ?_
 refine oM ?_
 try simp only [nf, Nat.reduceAdd]
 refine hops_nil ?_
 try simp only [nf, Nat.reduceAdd]
 refine hc_T rfl (by first | rfl | assumption | (simp; done) | (simp; omega) | (simp [*]; done)) ?_
 refine sR ?_
 refine oM ?_
 try simp only [nf, Nat.reduceAdd]
 refine hops_cons rfl (hop_buildSlice (L := [.int .i64 old]) rfl (by decide) (by decide) rfl ?_)
 intro bs hbs
 try simp only [pt, ev, List.getD_cons_zero, List.getD_cons_succ, List.set_cons_zero, List.set_cons_succ]
 refine hops_cons rfl (hop_call ?_)
 simp only [nf, Nat.reduceAdd]
 have hown : OwnS (H0.set bs (row [.int .i64 old] 3)) (.slice (some ⟨bs, 0, none⟩) 1 1) 1 (ints [old]) 3 1 := OwnS.mk (B := []) (by rw [Hp.set_same]; simp [ints]) rfl rfl (by omega)
 refine HT.mono (plan_Stores hown (by omega)) ?_
 intro v1 H1 hq
 try simp only [pt, ev, List.getD_cons_zero, List.getD_cons_succ, List.set_cons_zero, List.set_cons_succ]
 refine oM ?_
 try simp only [nf, Nat.reduceAdd]
 refine hops_cons rfl (hop_call ?_)
 simp only [nf, Nat.reduceAdd]
 refine HT.mono plan_Loads ?_
 intro v2 H2 hr
 try simp only [pt, ev, List.getD_cons_zero, List.getD_cons_succ, List.set_cons_zero, List.set_cons_succ]
 obtain ⟨hr1, hr2⟩ := hr
 obtain ⟨hq1, hq2⟩ := hq
 have s1 : Sub H1 H2 := hr2 ▸ Sub.drop H2 v2
 refine hops_cons rfl (hop_appendO (v := v1) (n := 2) (m := 2) (ys := flat ioc (both 1 pg)) rfl (hq1.sub s1) hr1.src one_ios rfl (by decide) (by decide) (by omega) (by decide) ?_)
 intro b' cap' J' hb' hcap' hJ'
 obtain ⟨fin1, fin2⟩ := app_fin (t := 106) (H0 := H0) (hq2 ▸ Sub.set_new hbs) s1 hb' hcap' hJ' hq1.len hr1.len
 try simp only [pt, ev, List.getD_cons_zero, List.getD_cons_succ, List.set_cons_zero, List.set_cons_succ]
 refine oA ?_
 try simp only [nf, Nat.reduceAdd]
 refine hops_nil ?_
 try simp only [nf, Nat.reduceAdd]
 refine hc_ret ?_
 try simp only [hng, hthen, hblock]
 rw [flat_append]
 refine hend_tmp_sub rfl fin1 ?_
 simpa [storesOf, flat_append] using fin2
theorem plan_Fetch_n {H0 : Hp} {pg old : Int} :
    HT prog 82 #[.int .i64 pg, .bool false, .int .i64 old] H0 (RetS H0 (flat ioc (both 1 pg)) 2 106 3) := by
 refine ht_of_body (args := [.int .i64 pg, .bool false, .int .i64 old]) func82 rfl ?_
 simp only [ntmps82, List.length_cons, List.length_nil, Nat.reduceAdd, Nat.reduceSub, List.replicate_succ, List.replicate_zero, List.cons_append, List.nil_append]
 refine sR ?_
 refine oA ?_
 try simp only [nf, Nat.reduceAdd]
 refine hops_nil ?_
 try simp only [nf, Nat.reduceAdd]
 refine hc_seq ?_
 refine sR ?_
 refine oM ?_
 try simp only [nf, Nat.reduceAdd]
 refine hops_nil ?_
 try simp only [nf, Nat.reduceAdd]
 refine hc_F rfl (by first | rfl | assumption | (simp; done) | (simp; omega) | (simp [*]; done)) ?_
 refine hc_skip ?_
 try simp only [nf, Nat.reduceAdd]
 refine sR ?_
 refine oM ?_
 try simp only [nf, Nat.reduceAdd]
 refine hops_cons rfl (hop_call ?_)
 simp only [nf, Nat.reduceAdd]
 refine HT.mono plan_Loads ?_
 intro v2 H2 hr
 try simp only [pt, ev, List.getD_cons_zero, List.getD_cons_succ, List.set_cons_zero, List.set_cons_succ]
 refine oA ?_
 try simp only [nf, Nat.reduceAdd]
 refine hops_nil ?_
 try simp only [nf, Nat.reduceAdd]
 refine hc_ret ?_
 try simp only [hng, hthen, hblock]
 refine hend_tmp rfl ?_
 exact hr
theorem plan_Flush {H0 : Hp} {pv : Value} {np : Nat} {pages : List Int} (hpv : OwnS H0 pv np (ints pages) 3 1) (hnp : np ≤ 65536) :
    HT prog 88 #[pv] H0 (RetS H0 (flat ioc (flushOf pages)) (2 * np + 1) 106 3) := by
 refine ht_of_body (args := [pv]) func88 rfl ?_
 simp only [ntmps88, List.length_cons, List.length_nil, Nat.reduceAdd, Nat.reduceSub, List.replicate_succ, List.replicate_zero, List.cons_append, List.nil_append]
 refine sR ?_
 refine oA ?_
 try simp only [nf, Nat.reduceAdd]
 refine hops_nil ?_
 try simp only [nf, Nat.reduceAdd]
 refine sR ?_
 refine oM ?_
 try simp only [nf, Nat.reduceAdd]
 refine hops_cons rfl (hop_call ?_)
 simp only [nf, Nat.reduceAdd]
 refine HT.mono (plan_Stores hpv hnp) ?_
 intro v1 H1 hq
 try simp only [pt, ev, List.getD_cons_zero, List.getD_cons_succ, List.set_cons_zero, List.set_cons_succ]
 refine hops_cons rfl (hop_build (L := ioc ⟨3, 0, 0⟩) rfl ?_)
 try simp only [nf, Nat.reduceAdd]
 refine hops_cons rfl (hop_buildSlice (L := ioc ⟨3, 0, 0⟩) rfl (by decide) (by decide) rfl ?_)
 intro bs hbs
 try simp only [pt, ev, List.getD_cons_zero, List.getD_cons_succ, List.set_cons_zero, List.set_cons_succ]
 obtain ⟨hq1, hq2⟩ := hq
 have hsb : srcOk (H1.set bs (row (ioc ⟨3, 0, 0⟩) 106)) 3 1 (.slice (some ⟨bs, 0, none⟩) 1 1) (ioc ⟨3, 0, 0⟩) := srcOk_own' (Hp.set_same _ _ _) rfl
 have s1 := Sub.set_new (o := row (ioc ⟨3, 0, 0⟩) 106) hbs
 refine hops_cons rfl (hop_appendO (v := v1) (m := 1) (ys := ioc ⟨3, 0, 0⟩) rfl (hq1.sub s1) hsb (one_ioc _) rfl (by decide) (by decide) (by omega) (by decide) ?_)
 intro b' cap' J' hb' hcap' hJ'
 obtain ⟨fin1, fin2⟩ := app_fin (t := 106) (H0 := H0) (by rw [hq2]; exact Sub.refl _) s1 hb' hcap' hJ' hq1.len (show (ioc ⟨3, 0, 0⟩).length = 1 * 3 from rfl)
 try simp only [pt, ev, List.getD_cons_zero, List.getD_cons_succ, List.set_cons_zero, List.set_cons_succ]
 refine oA ?_
 try simp only [nf, Nat.reduceAdd]
 refine hops_nil ?_
 try simp only [nf, Nat.reduceAdd]
 refine hc_ret ?_
 try simp only [hng, hthen, hblock]
 refine hend_tmp_sub rfl fin1 ?_
 simpa [flushOf, flat_append, flat] using fin2
end Go.Proofs.Try
