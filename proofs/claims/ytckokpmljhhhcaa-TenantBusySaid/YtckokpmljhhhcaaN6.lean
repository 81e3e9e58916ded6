/- A part of the proofs over the tenants of a page cache: lemmas on what is known of the memory, and contracts of the Go functions. -/
import Derived.Test.YtckokpmljhhhcaaN5
set_option linter.unusedVariables false
set_option linter.unusedSimpArgs false
namespace Go.Proofs.Try
open Go Go.H
set_option linter.unusedSimpArgs false
set_option linter.unusedVariables false
set_option maxRecDepth 100000
set_option maxHeartbeats 2000000
theorem End_err {H : Hp} {m p : Nat} {op pg to : Int} {tv gv : Value} {s : Pt} (hm : H m = some (row [.pointer (some ⟨p, 0, none⟩), .int .i64 op, .int .i64 pg, tv, .int .i64 to, gv] 86)) (hP : PartH H p s) {e : Int} {bv : Value} (he : e ≠ 0) :
    HT prog 28 #[.pointer (some ⟨m, 0, none⟩), .int .i64 e, bv] H (fun v H' => v = .agg #[.bool true, .int .i64 0, .int .i64 9, .bool false, .int .i64 0, .slice none 0 0, .int .u64 0, .int .u64 0, .int .u64 0, .int .u64 0, .int .u64 0, .int .u64 0, .int .u64 0, .int .u64 0, .int .u64 0, .int .u64 0, .int .u64 0, .int .u64 1] ∧ H' m = some (row [.pointer (some ⟨p, 0, none⟩), .int .i64 0, .int .i64 0, .slice none 0 0, .int .i64 0, .slice none 0 0] 86) ∧ PartH H' p s) := by
 refine ht_of_body (args := [.pointer (some ⟨m, 0, none⟩), .int .i64 e, bv]) func28 rfl ?_
 simp only [ntmps28, List.length_cons, List.length_nil, Nat.reduceAdd, Nat.reduceSub, List.replicate_succ, List.replicate_zero, List.cons_append, List.nil_append]
 refine sR ?_
 refine hops_cons rfl (hop_alloc (zl := [.bool false, .int .i64 0, .int .i64 0, .bool false, .int .i64 0, .slice none 0 0, .int .u64 0, .int .u64 0, .int .u64 0, .int .u64 0, .int .u64 0, .int .u64 0, .int .u64 0, .int .u64 0, .int .u64 0, .int .u64 0, .int .u64 0, .int .u64 0]) rfl ?_)
 intro b1 hb1
 have hb1' := hb1
 try simp only [Hp.set_none, Hp.del_none] at hb1'
 have hb1_n : H b1 = none := by first | exact hb1' | exact hb1'.2 | exact hb1'.2.2 | exact hb1'.2.2.2 | exact hb1'.2.2.2.2 | exact hb1'.2.2.2.2.2 | exact hb1'.2.2.2.2.2.2
 have hb1_m : b1 ≠ m := (Hp.ne_of hm hb1_n).symm
 clear hb1'
 try simp only [nfa, Nat.reduceAdd]
 refine hops_nil ?_
 try simp only [nfa, Nat.reduceAdd]
 refine hc_seq ?_
 refine sR ?_
 refine oM ?_
 try simp only [nfa, Nat.reduceAdd]
 refine hops_cons rfl (hop_bin rfl rfl rfl ?_)
 try simp only [nfa, Nat.reduceAdd]
 refine hops_nil ?_
 try simp only [nfa, Nat.reduceAdd]
 refine hc_T rfl (by first | rfl | assumption | (simp; done) | (simp; omega) | (simp [*]; done)) ?_
 refine sR ?_
 refine oM ?_
 refine hops_cons rfl (hop_call ?_)
 simp only [nfa, Nat.reduceAdd]
 refine HT.mono (machine_Stop (by (repeat' first | assumption | exact hS | exact Hp.one_get _ _ | refine hT (by first | assumption | exact Ne.symm ‹_›) ?_))) ?_
 rintro _ _ ⟨rfl, rfl⟩
 try simp only [nfa, Nat.reduceAdd]
 refine hops_nil ?_
 try simp only [nfa, Nat.reduceAdd]
 refine sR ?_
 refine hops_cons rfl (hop_call ?_)
 simp only [nfa, Nat.reduceAdd]
 refine HT.mono (machine_done) ?_
 rintro _ _ ⟨rfl, rfl⟩
 try simp only [nfa, Nat.reduceAdd]
 refine hops_cons rfl (hop_alloc (zl := [.bool false, .int .i64 0, .int .i64 0, .bool false, .int .i64 0, .slice none 0 0, .int .u64 0, .int .u64 0, .int .u64 0, .int .u64 0, .int .u64 0, .int .u64 0, .int .u64 0, .int .u64 0, .int .u64 0, .int .u64 0, .int .u64 0, .int .u64 0]) rfl ?_)
 intro b2 hb2
 have hb2' := hb2
 try simp only [Hp.set_none, Hp.del_none] at hb2'
 have hb2_n : H b2 = none := by first | exact hb2' | exact hb2'.2 | exact hb2'.2.2 | exact hb2'.2.2.2 | exact hb2'.2.2.2.2 | exact hb2'.2.2.2.2.2 | exact hb2'.2.2.2.2.2.2
 have hb2_b1 : b2 ≠ b1 := by first | exact hb2'.1 | exact hb2'.2.1 | exact hb2'.2.2.1 | exact hb2'.2.2.2.1 | exact hb2'.2.2.2.2.1 | exact hb2'.2.2.2.2.2.1
 have hb2_m : b2 ≠ m := (Hp.ne_of hm hb2_n).symm
 clear hb2'
 try simp only [nfa, Nat.reduceAdd]
 refine hops_cons rfl (hop_storeA rfl rfl (by rfl) (by first | assumption | (repeat' first | (intro _ h; cases h; done) | refine List.forall_mem_cons.2 ⟨by first | rfl | assumption, ?_⟩) | (simp [Value.oneCell']; done) | (simp [Value.oneCell', *]; done)) (by (repeat' first | assumption | exact hS | exact Hp.one_get _ _ | refine hT (by first | assumption | exact Ne.symm ‹_›) ?_)) (by first | assumption | omega | (simp; done) | (simp; omega) | (simp [frc] <;> omega)) (by decide) ?_)
 try simp only [nfa, Nat.reduceAdd]
 refine hops_nil ?_
 try simp only [nfa, Nat.reduceAdd]
 refine sR ?_
 refine oF rfl ?_
 refine oF rfl ?_
 refine hops_cons rfl (hop_store rfl rfl (by first | rfl | assumption) (by (repeat' first | assumption | exact hS | exact Hp.one_get _ _ | refine hT (by first | assumption | exact Ne.symm ‹_›) ?_)) (by first | assumption | omega | (simp; done) | (simp; omega) | (simp [frc] <;> omega)) ?_)
 try simp only [nfa, Nat.reduceAdd]
 refine hops_nil ?_
 try simp only [nfa, Nat.reduceAdd]
 refine sR ?_
 refine hops_cons rfl (hop_loadA rfl (by (repeat' first | assumption | exact hS | exact Hp.one_get _ _ | refine hT (by first | assumption | exact Ne.symm ‹_›) ?_)) (by first | assumption | omega | (simp; done) | (simp; omega) | (simp [frc] <;> omega)) ?_)
 try simp only [nfa, Nat.reduceAdd]
 refine hops_cons rfl (hop_storeA rfl rfl (by rfl) (by first | assumption | (repeat' first | (intro _ h; cases h; done) | refine List.forall_mem_cons.2 ⟨by first | rfl | assumption, ?_⟩) | (simp [Value.oneCell']; done) | (simp [Value.oneCell', *]; done)) (by (repeat' first | assumption | exact hS | exact Hp.one_get _ _ | refine hT (by first | assumption | exact Ne.symm ‹_›) ?_)) (by first | assumption | omega | (simp; done) | (simp; omega) | (simp [frc] <;> omega)) (by decide) ?_)
 try simp only [nfa, Nat.reduceAdd]
 refine hops_nil ?_
 try simp only [nfa, Nat.reduceAdd]
 refine hc_ret ?_
 try simp only [hng, hthen, hblock]
 apply hend_1 rfl ?es (RV.cellW rfl (by (repeat' first | assumption | exact hS | exact Hp.one_get _ _ | refine hT (by first | assumption | exact Ne.symm ‹_›) ?_)) (by simp)) ?eR
 case es => exact Sub.refl _
 case eR =>
  exact ⟨rfl, by (repeat' first | assumption | exact hS | exact Hp.one_get _ _ | refine hT (by first | assumption | exact Ne.symm ‹_›) ?_), by (repeat' first | assumption | refine PartH.upd ?_ (by (repeat' first | assumption | exact hS | exact Hp.one_get _ _ | refine hT (by first | assumption | exact Ne.symm ‹_›) ?_)) (by exact npOf) | refine PartH.new ?_ (by assumption))⟩
theorem End_stored_no {H : Hp} {m p : Nat} {op pg to : Int} {tv gv : Value} {s : Pt} (hm : H m = some (row [.pointer (some ⟨p, 0, none⟩), .int .i64 op, .int .i64 pg, tv, .int .i64 to, gv] 86)) (hP : PartH H p s) {x : Io} {rest : List Io} {got bs : List UInt8} (hrd : rdS H tv (rest.length + 1) (flat ioc (x :: rest)) 106 3) (hown : OwnS H gv got.length (got.map byv) 5 1) {bv : Value} {i : Nat} {f : Fr} (hk : x.kind = 2) (hk2 : x.k = 1) (hf : findPage s.fr x.page = some i) (hi : s.fr[i]? = some f) (ho : op ≠ 1) (hr : 0 < rest.length) :
    HT prog 28 #[.pointer (some ⟨m, 0, none⟩), .int .i64 0, bv] H (fun v H' => v = .agg #[.bool false, .int .i64 0, .int .i64 0, .bool false, .int .i64 0, .slice none 0 0, .int .u64 0, .int .u64 0, .int .u64 0, .int .u64 0, .int .u64 0, .int .u64 0, .int .u64 0, .int .u64 0, .int .u64 0, .int .u64 0, .int .u64 0, .int .u64 0] ∧ ∃ tv' gv', H' m = some (row [.pointer (some ⟨p, 0, none⟩), .int .i64 op, .int .i64 pg, tv', .int .i64 to, gv'] 86) ∧ rdS H' tv' rest.length (flat ioc rest) 106 3 ∧ OwnS H' gv' got.length (got.map byv) 5 1 ∧ (got = [] → gv = .slice none 0 0 → gv' = .slice none 0 0) ∧ PartH H' p (s.with i { f with dirty := false })) := by
 obtain ⟨tb, to', tc, L, rfl, htb, hl, hy, hc⟩ := hrd.pos (by omega)
 have hx3 : (L.drop to').take 3 = [.int .i64 x.kind, .int .i64 x.page, .int .i64 x.k] := by
   have h := congrArg (List.take 3) hy
   rw [List.take_take, Nat.min_eq_left (by omega)] at h
   rw [← h]; rfl
 have htl := rd_tail htb hl hy hc
 have htl' : rdS H (.slice (some ⟨tb, if tc = 1 then to' else to' + 1 * 3, none⟩) rest.length (tc - 1)) rest.length (flat ioc rest) 106 3 := htl
 clear htl
 have hgo := hown.one
 have hmt := ne_row hm htb (by decide)
 refine ht_of_body (args := [.pointer (some ⟨m, 0, none⟩), .int .i64 0, bv]) func28 rfl ?_
 simp only [ntmps28, List.length_cons, List.length_nil, Nat.reduceAdd, Nat.reduceSub, List.replicate_succ, List.replicate_zero, List.cons_append, List.nil_append]
 refine sR ?_
 refine hops_cons rfl (hop_alloc (zl := [.bool false, .int .i64 0, .int .i64 0, .bool false, .int .i64 0, .slice none 0 0, .int .u64 0, .int .u64 0, .int .u64 0, .int .u64 0, .int .u64 0, .int .u64 0, .int .u64 0, .int .u64 0, .int .u64 0, .int .u64 0, .int .u64 0, .int .u64 0]) rfl ?_)
 intro b1 hb1
 have hb1' := hb1
 try simp only [Hp.set_none, Hp.del_none] at hb1'
 have hb1_n : H b1 = none := by first | exact hb1' | exact hb1'.2 | exact hb1'.2.2 | exact hb1'.2.2.2 | exact hb1'.2.2.2.2 | exact hb1'.2.2.2.2.2 | exact hb1'.2.2.2.2.2.2
 have hb1_m : b1 ≠ m := (Hp.ne_of hm hb1_n).symm
 have hb1_tb : b1 ≠ tb := (Hp.ne_of htb hb1_n).symm
 clear hb1'
 try simp only [nfa, Nat.reduceAdd]
 refine hops_nil ?_
 try simp only [nfa, Nat.reduceAdd]
 refine hc_seq ?_
 refine sR ?_
 refine oM ?_
 try simp only [nfa, Nat.reduceAdd]
 refine hops_cons rfl (hop_bin rfl rfl rfl ?_)
 try simp only [nfa, Nat.reduceAdd]
 refine hops_nil ?_
 try simp only [nfa, Nat.reduceAdd]
 refine hc_F rfl (by first | rfl | assumption | (simp; done) | (simp; omega) | (simp [*]; done)) ?_
 refine hc_skip ?_
 try simp only [nfa, Nat.reduceAdd]
 refine sR ?_
 refine oM ?_
 refine oN rfl ?_
 refine oF rfl ?_
 refine hops_cons rfl (hop_load rfl (by (repeat' first | assumption | exact hS | exact Hp.one_get _ _ | refine hT (by first | assumption | exact Ne.symm ‹_›) ?_)) (by first | rfl | assumption | exact mid_get0 rfl | exact mid_get rfl | (simp; done)) ?_)
 try simp only [nfa, Nat.reduceAdd]
 refine hops_cons rfl (hop_indexAddr (i := 0) rfl rfl (by omega) (by omega) ?_)
 simp only [Int.toNat_zero, Nat.zero_mul, Nat.add_zero]
 try simp only [nf, nf2]
 refine hops_cons rfl (hop_loadA rfl (by (repeat' first | assumption | exact hS | exact Hp.one_get _ _ | refine hT (by first | assumption | exact Ne.symm ‹_›) ?_)) (by omega) ?_)
 rw [hx3]
 try simp only [nf, nf2]
 refine hops_cons rfl (hop_alloc (zl := [.int .i64 0, .int .i64 0, .int .i64 0]) rfl ?_)
 intro b2 hb2
 have hb2' := hb2
 try simp only [Hp.set_none, Hp.del_none] at hb2'
 have hb2_n : H b2 = none := by first | exact hb2' | exact hb2'.2 | exact hb2'.2.2 | exact hb2'.2.2.2 | exact hb2'.2.2.2.2 | exact hb2'.2.2.2.2.2 | exact hb2'.2.2.2.2.2.2
 have hb2_b1 : b2 ≠ b1 := by first | exact hb2'.1 | exact hb2'.2.1 | exact hb2'.2.2.1 | exact hb2'.2.2.2.1 | exact hb2'.2.2.2.2.1 | exact hb2'.2.2.2.2.2.1
 have hb2_m : b2 ≠ m := (Hp.ne_of hm hb2_n).symm
 have hb2_tb : b2 ≠ tb := (Hp.ne_of htb hb2_n).symm
 clear hb2'
 try simp only [nfa, Nat.reduceAdd]
 refine hops_cons rfl (hop_storeA rfl rfl (by rfl) (by first | assumption | (repeat' first | (intro _ h; cases h; done) | refine List.forall_mem_cons.2 ⟨by first | rfl | assumption, ?_⟩) | (simp [Value.oneCell']; done) | (simp [Value.oneCell', *]; done)) (by (repeat' first | assumption | exact hS | exact Hp.one_get _ _ | refine hT (by first | assumption | exact Ne.symm ‹_›) ?_)) (by first | assumption | omega | (simp; done) | (simp; omega) | (simp [frc] <;> omega)) (by decide) ?_)
 try simp only [nfa, Nat.reduceAdd]
 refine hops_nil ?_
 try simp only [nfa, Nat.reduceAdd]
 refine sR ?_
 refine oM ?_
 refine oM ?_
 refine oN rfl ?_
 refine oF rfl ?_
 refine hops_cons rfl (hop_load rfl (by (repeat' first | assumption | exact hS | exact Hp.one_get _ _ | refine hT (by first | assumption | exact Ne.symm ‹_›) ?_)) (by first | rfl | assumption | exact mid_get0 rfl | exact mid_get rfl | (simp; done)) ?_)
 try simp only [nfa, Nat.reduceAdd]
 refine hops_cons rfl (hop_sliceS (a := 1) (c := rest.length + 1) rfl (by simp [bd, ev]) (by simp [bd]) (by omega) (by omega) ?_)
 rw [Nat.add_sub_cancel]
 generalize (if tc = 1 then to' else to' + 1 * 3) = to2 at htl' ⊢
 generalize tc - 1 = tc2 at htl' ⊢
 try simp only [nf, nf2]
 refine oN rfl ?_
 refine oF rfl ?_
 refine hops_cons rfl (hop_store rfl rfl (by first | rfl | assumption) (by (repeat' first | assumption | exact hS | exact Hp.one_get _ _ | refine hT (by first | assumption | exact Ne.symm ‹_›) ?_)) (by first | assumption | omega | (simp; done) | (simp; omega) | (simp [frc] <;> omega)) ?_)
 try simp only [nfa, Nat.reduceAdd]
 refine hops_nil ?_
 try simp only [nfa, Nat.reduceAdd]
 refine sR ?_
 refine hops_cons rfl (hop_alloc (zl := [.bool false, .int .i64 0, .int .i64 0, .bool false, .int .i64 0, .slice none 0 0, .int .u64 0, .int .u64 0, .int .u64 0, .int .u64 0, .int .u64 0, .int .u64 0, .int .u64 0, .int .u64 0, .int .u64 0, .int .u64 0, .int .u64 0, .int .u64 0]) rfl ?_)
 intro b3 hb3
 have hb3' := hb3
 try simp only [Hp.set_none, Hp.del_none] at hb3'
 have hb3_n : H b3 = none := by first | exact hb3' | exact hb3'.2 | exact hb3'.2.2 | exact hb3'.2.2.2 | exact hb3'.2.2.2.2 | exact hb3'.2.2.2.2.2 | exact hb3'.2.2.2.2.2.2
 have hb3_b1 : b3 ≠ b1 := by first | exact hb3'.1 | exact hb3'.2.1 | exact hb3'.2.2.1 | exact hb3'.2.2.2.1 | exact hb3'.2.2.2.2.1 | exact hb3'.2.2.2.2.2.1
 have hb3_b2 : b3 ≠ b2 := by first | exact hb3'.1 | exact hb3'.2.1 | exact hb3'.2.2.1 | exact hb3'.2.2.2.1 | exact hb3'.2.2.2.2.1 | exact hb3'.2.2.2.2.2.1
 have hb3_m : b3 ≠ m := (Hp.ne_of hm hb3_n).symm
 have hb3_tb : b3 ≠ tb := (Hp.ne_of htb hb3_n).symm
 clear hb3'
 try simp only [nfa, Nat.reduceAdd]
 refine hops_nil ?_
 try simp only [nfa, Nat.reduceAdd]
 refine hc_seq ?_
 refine hc_block ?_
 refine sR ?_
 refine oF rfl ?_
 refine hops_cons rfl (hop_load rfl (by (repeat' first | assumption | exact hS | exact Hp.one_get _ _ | refine hT (by first | assumption | exact Ne.symm ‹_›) ?_)) (by first | rfl | assumption | exact mid_get0 rfl | exact mid_get rfl | (simp; done)) ?_)
 try simp only [nfa, Nat.reduceAdd]
 refine hops_cons rfl (hop_bin rfl rfl rfl ?_)
 try simp only [nfa, Nat.reduceAdd]
 refine oM ?_
 try simp only [nfa, Nat.reduceAdd]
 first
  | refine hops_off' rfl rfl (by rfl) ?_
  | refine hops_un rfl rfl ?_
  | (refine hops_on' rfl rfl (by rfl) (hop_fieldAddr rfl ?_))
  | (refine hops_gp (v := ?vg4) rfl rfl (fun hgp => ?hv4) ?hh4; case hv4 => ((try simp only [hgp, if_true, ev, List.getD_cons_zero, List.getD_cons_succ]); refine hop_fieldAddr rfl ?_; rfl))
 try simp only [nfa, Nat.reduceAdd]
 first
  | refine hops_off' rfl rfl (by rfl) ?_
  | refine hops_un rfl rfl ?_
  | (refine hops_on' rfl rfl (by rfl) (hop_load rfl (by (repeat' first | assumption | exact hS | exact Hp.one_get _ _ | refine hT (by first | assumption | exact Ne.symm ‹_›) ?_)) (by first | rfl | assumption | exact mid_get0 rfl | exact mid_get rfl | (simp; done)) ?_))
  | (refine hops_gp (v := ?vg5) rfl rfl (fun hgp => ?hv5) ?hh5; case hv5 => ((try simp only [hgp, if_true, ev, List.getD_cons_zero, List.getD_cons_succ]); refine hop_load rfl (by (repeat' first | assumption | exact hS | exact Hp.one_get _ _ | refine hT (by first | assumption | exact Ne.symm ‹_›) ?_)) (by first | rfl | assumption | exact mid_get0 rfl | exact mid_get rfl | (simp; done)) ?_; rfl))
 try simp only [nfa, Nat.reduceAdd]
 first
  | refine hops_off' rfl rfl (by rfl) ?_
  | refine hops_un rfl rfl ?_
  | (refine hops_on' rfl rfl (by rfl) (hop_bin rfl rfl rfl ?_))
  | (refine hops_gp (v := ?vg6) rfl rfl (fun hgp => ?hv6) ?hh6; case hv6 => ((try simp only [hgp, if_true, ev, List.getD_cons_zero, List.getD_cons_succ]); refine hop_bin rfl rfl rfl ?_; rfl))
 try simp only [nfa, Nat.reduceAdd]
 refine hops_cons rfl (hop_pick rfl ?_)
 try simp only [nfa, Nat.reduceAdd]
 refine oA ?_
 try simp only [nfa, Nat.reduceAdd]
 refine hops_nil ?_
 try simp only [nfa, Nat.reduceAdd]
 refine hc_T rfl (by first | rfl | assumption | (simp; done) | (simp; omega) | (simp [*]; done)) ?_
 refine hc_region ?_
 refine oM ?_
 refine oF rfl ?_
 refine hops_cons rfl (hop_load rfl (by (repeat' first | assumption | exact hS | exact Hp.one_get _ _ | refine hT (by first | assumption | exact Ne.symm ‹_›) ?_)) (by first | rfl | assumption | exact mid_get0 rfl | exact mid_get rfl | (simp; done)) ?_)
 try simp only [nfa, Nat.reduceAdd]
 refine hops_cons rfl (hop_call ?_)
 simp only [nfa, Nat.reduceAdd]
 refine HT.mono (stored_no (s := s) (by (repeat' first | assumption | exact hS | exact Hp.one_get _ _ | refine hT (by first | assumption | exact Ne.symm ‹_›) ?_)) (by (repeat' first | assumption | refine PartH.upd ?_ (by (repeat' first | assumption | exact hS | exact Hp.one_get _ _ | refine hT (by first | assumption | exact Ne.symm ‹_›) ?_)) (by exact npOf) | refine PartH.new ?_ (by assumption))) hf hi ho) ?_
 rintro _ H1 ⟨rfl, hP1, f1⟩
 try simp only [nf, nf2]
 have htlX : rdS H1 (.slice (some ⟨tb, to2, none⟩) rest.length tc2) rest.length (flat ioc rest) 106 3 := rdS.fr (by (repeat' first | exact htl' | refine rdS.upd ?_ (by (repeat' first | assumption | exact hS | exact Hp.one_get _ _ | refine hT (by first | assumption | exact Ne.symm ‹_›) ?_)) (by decide) | refine rdS.new ?_ (by assumption))) f1
 have hownX : OwnS H1 gv got.length (got.map byv) 5 1 := OwnS.fr (by (repeat' first | exact hown | refine OwnS.upd ?_ (by (repeat' first | assumption | exact hS | exact Hp.one_get _ _ | refine hT (by first | assumption | exact Ne.symm ‹_›) ?_)) (by decide) | refine OwnS.new ?_ (by assumption))) f1
 have H1_b1 := f1.keep' (b := b1) (by (repeat' first | assumption | exact hS | exact Hp.one_get _ _ | refine hT (by first | assumption | exact Ne.symm ‹_›) ?_)) (by exact npOf)
 have H1_b2 := f1.keep' (b := b2) (by (repeat' first | assumption | exact hS | exact Hp.one_get _ _ | refine hT (by first | assumption | exact Ne.symm ‹_›) ?_)) (by exact npOf)
 have H1_b3 := f1.keep' (b := b3) (by (repeat' first | assumption | exact hS | exact Hp.one_get _ _ | refine hT (by first | assumption | exact Ne.symm ‹_›) ?_)) (by exact npOf)
 have H1_m := f1.keep' (b := m) (by (repeat' first | assumption | exact hS | exact Hp.one_get _ _ | refine hT (by first | assumption | exact Ne.symm ‹_›) ?_)) (by exact npOf)
 have H1_tb := f1.keep' (b := tb) (by (repeat' first | assumption | exact hS | exact Hp.one_get _ _ | refine hT (by first | assumption | exact Ne.symm ‹_›) ?_)) (by exact npOf)
 refine oF rfl ?_
 refine hops_cons rfl (hop_storeA rfl rfl (by rfl) (by first | assumption | (repeat' first | (intro _ h; cases h; done) | refine List.forall_mem_cons.2 ⟨by first | rfl | assumption, ?_⟩) | (simp [Value.oneCell']; done) | (simp [Value.oneCell', *]; done)) (by (repeat' first | assumption | exact hS | exact Hp.one_get _ _ | refine hT (by first | assumption | exact Ne.symm ‹_›) ?_)) (by first | assumption | omega | (simp; done) | (simp; omega) | (simp [frc] <;> omega)) (by decide) ?_)
 try simp only [nfa, Nat.reduceAdd]
 refine hops_nil ?_
 try simp only [nfa, Nat.reduceAdd]
 refine hc_seq ?_
 refine sR ?_
 refine oM ?_
 refine hops_cons rfl (hop_call ?_)
 simp only [nfa, Nat.reduceAdd]
 refine HT.mono (machine_Busy (by (repeat' first | assumption | exact hS | exact Hp.one_get _ _ | refine hT (by first | assumption | exact Ne.symm ‹_›) ?_)) rfl) ?_
 rintro _ _ ⟨rfl, rfl⟩
 try simp only [nfa, Nat.reduceAdd]
 refine hops_nil ?_
 try simp only [nfa, Nat.reduceAdd]
 refine hc_T rfl (by first | rfl | assumption | (simp; done) | (simp; omega) | (simp [*]; done)) ?_
 refine sR ?_
 refine hops_cons rfl (hop_loadA rfl (by (repeat' first | assumption | exact hS | exact Hp.one_get _ _ | refine hT (by first | assumption | exact Ne.symm ‹_›) ?_)) (by first | assumption | omega | (simp; done) | (simp; omega) | (simp [frc] <;> omega)) ?_)
 try simp only [nfa, Nat.reduceAdd]
 refine hops_cons rfl (hop_storeA rfl rfl (by rfl) (by first | assumption | (repeat' first | (intro _ h; cases h; done) | refine List.forall_mem_cons.2 ⟨by first | rfl | assumption, ?_⟩) | (simp [Value.oneCell']; done) | (simp [Value.oneCell', *]; done)) (by (repeat' first | assumption | exact hS | exact Hp.one_get _ _ | refine hT (by first | assumption | exact Ne.symm ‹_›) ?_)) (by first | assumption | omega | (simp; done) | (simp; omega) | (simp [frc] <;> omega)) (by decide) ?_)
 try simp only [nfa, Nat.reduceAdd]
 refine hops_nil ?_
 try simp only [nfa, Nat.reduceAdd]
 refine hc_ret ?_
 try simp only [hng, hthen, hblock]
 apply hend_1 rfl ?es (RV.cellW rfl (by (repeat' first | assumption | exact hS | exact Hp.one_get _ _ | refine hT (by first | assumption | exact Ne.symm ‹_›) ?_)) (by simp)) ?eR
 case es => exact Sub.refl _
 case eR =>
  refine ⟨rfl, _, gv, by (repeat' first | assumption | exact hS | exact Hp.one_get _ _ | refine hT (by first | assumption | exact Ne.symm ‹_›) ?_), by (repeat' first | exact htlX | refine rdS.upd ?_ (by (repeat' first | assumption | exact hS | exact Hp.one_get _ _ | refine hT (by first | assumption | exact Ne.symm ‹_›) ?_)) (by decide) | refine rdS.new ?_ (by assumption)), by (repeat' first | exact hownX | refine OwnS.upd ?_ (by (repeat' first | assumption | exact hS | exact Hp.one_get _ _ | refine hT (by first | assumption | exact Ne.symm ‹_›) ?_)) (by decide) | refine OwnS.new ?_ (by assumption)), fun _ h => h, by (repeat' first | assumption | refine PartH.upd ?_ (by (repeat' first | assumption | exact hS | exact Hp.one_get _ _ | refine hT (by first | assumption | exact Ne.symm ‹_›) ?_)) (by exact npOf) | refine PartH.new ?_ (by assumption))⟩
theorem End_stored_yes {H : Hp} {m p : Nat} {op pg to : Int} {tv gv : Value} {s : Pt} (hm : H m = some (row [.pointer (some ⟨p, 0, none⟩), .int .i64 op, .int .i64 pg, tv, .int .i64 to, gv] 86)) (hP : PartH H p s) {x : Io} {rest : List Io} {got bs : List UInt8} (hrd : rdS H tv (rest.length + 1) (flat ioc (x :: rest)) 106 3) (hown : OwnS H gv got.length (got.map byv) 5 1) {bv : Value} {i : Nat} {f : Fr} (hk : x.kind = 2) (hk2 : x.k = 1) (hf : findPage s.fr x.page = some i) (hi : s.fr[i]? = some f) (ho : op = 1) (hpn : f.pins = 0) (hr : 0 < rest.length) :
    HT prog 28 #[.pointer (some ⟨m, 0, none⟩), .int .i64 0, bv] H (fun v H' => v = .agg #[.bool false, .int .i64 0, .int .i64 0, .bool false, .int .i64 0, .slice none 0 0, .int .u64 0, .int .u64 0, .int .u64 0, .int .u64 0, .int .u64 0, .int .u64 0, .int .u64 0, .int .u64 0, .int .u64 1, .int .u64 0, .int .u64 0, .int .u64 0] ∧ ∃ tv' gv', H' m = some (row [.pointer (some ⟨p, 0, none⟩), .int .i64 op, .int .i64 pg, tv', .int .i64 to, gv'] 86) ∧ rdS H' tv' rest.length (flat ioc rest) 106 3 ∧ OwnS H' gv' got.length (got.map byv) 5 1 ∧ (got = [] → gv = .slice none 0 0 → gv' = .slice none 0 0) ∧ PartH H' p (s.with i Fr.zero)) := by
 obtain ⟨tb, to', tc, L, rfl, htb, hl, hy, hc⟩ := hrd.pos (by omega)
 have hx3 : (L.drop to').take 3 = [.int .i64 x.kind, .int .i64 x.page, .int .i64 x.k] := by
   have h := congrArg (List.take 3) hy
   rw [List.take_take, Nat.min_eq_left (by omega)] at h
   rw [← h]; rfl
 have htl := rd_tail htb hl hy hc
 have htl' : rdS H (.slice (some ⟨tb, if tc = 1 then to' else to' + 1 * 3, none⟩) rest.length (tc - 1)) rest.length (flat ioc rest) 106 3 := htl
 clear htl
 have hgo := hown.one
 have hmt := ne_row hm htb (by decide)
 refine ht_of_body (args := [.pointer (some ⟨m, 0, none⟩), .int .i64 0, bv]) func28 rfl ?_
 simp only [ntmps28, List.length_cons, List.length_nil, Nat.reduceAdd, Nat.reduceSub, List.replicate_succ, List.replicate_zero, List.cons_append, List.nil_append]
 refine sR ?_
 refine hops_cons rfl (hop_alloc (zl := [.bool false, .int .i64 0, .int .i64 0, .bool false, .int .i64 0, .slice none 0 0, .int .u64 0, .int .u64 0, .int .u64 0, .int .u64 0, .int .u64 0, .int .u64 0, .int .u64 0, .int .u64 0, .int .u64 0, .int .u64 0, .int .u64 0, .int .u64 0]) rfl ?_)
 intro b1 hb1
 have hb1' := hb1
 try simp only [Hp.set_none, Hp.del_none] at hb1'
 have hb1_n : H b1 = none := by first | exact hb1' | exact hb1'.2 | exact hb1'.2.2 | exact hb1'.2.2.2 | exact hb1'.2.2.2.2 | exact hb1'.2.2.2.2.2 | exact hb1'.2.2.2.2.2.2
 have hb1_m : b1 ≠ m := (Hp.ne_of hm hb1_n).symm
 have hb1_tb : b1 ≠ tb := (Hp.ne_of htb hb1_n).symm
 clear hb1'
 try simp only [nfa, Nat.reduceAdd]
 refine hops_nil ?_
 try simp only [nfa, Nat.reduceAdd]
 refine hc_seq ?_
 refine sR ?_
 refine oM ?_
 try simp only [nfa, Nat.reduceAdd]
 refine hops_cons rfl (hop_bin rfl rfl rfl ?_)
 try simp only [nfa, Nat.reduceAdd]
 refine hops_nil ?_
 try simp only [nfa, Nat.reduceAdd]
 refine hc_F rfl (by first | rfl | assumption | (simp; done) | (simp; omega) | (simp [*]; done)) ?_
 refine hc_skip ?_
 try simp only [nfa, Nat.reduceAdd]
 refine sR ?_
 refine oM ?_
 refine oN rfl ?_
 refine oF rfl ?_
 refine hops_cons rfl (hop_load rfl (by (repeat' first | assumption | exact hS | exact Hp.one_get _ _ | refine hT (by first | assumption | exact Ne.symm ‹_›) ?_)) (by first | rfl | assumption | exact mid_get0 rfl | exact mid_get rfl | (simp; done)) ?_)
 try simp only [nfa, Nat.reduceAdd]
 refine hops_cons rfl (hop_indexAddr (i := 0) rfl rfl (by omega) (by omega) ?_)
 simp only [Int.toNat_zero, Nat.zero_mul, Nat.add_zero]
 try simp only [nf, nf2]
 refine hops_cons rfl (hop_loadA rfl (by (repeat' first | assumption | exact hS | exact Hp.one_get _ _ | refine hT (by first | assumption | exact Ne.symm ‹_›) ?_)) (by omega) ?_)
 rw [hx3]
 try simp only [nf, nf2]
 refine hops_cons rfl (hop_alloc (zl := [.int .i64 0, .int .i64 0, .int .i64 0]) rfl ?_)
 intro b2 hb2
 have hb2' := hb2
 try simp only [Hp.set_none, Hp.del_none] at hb2'
 have hb2_n : H b2 = none := by first | exact hb2' | exact hb2'.2 | exact hb2'.2.2 | exact hb2'.2.2.2 | exact hb2'.2.2.2.2 | exact hb2'.2.2.2.2.2 | exact hb2'.2.2.2.2.2.2
 have hb2_b1 : b2 ≠ b1 := by first | exact hb2'.1 | exact hb2'.2.1 | exact hb2'.2.2.1 | exact hb2'.2.2.2.1 | exact hb2'.2.2.2.2.1 | exact hb2'.2.2.2.2.2.1
 have hb2_m : b2 ≠ m := (Hp.ne_of hm hb2_n).symm
 have hb2_tb : b2 ≠ tb := (Hp.ne_of htb hb2_n).symm
 clear hb2'
 try simp only [nfa, Nat.reduceAdd]
 refine hops_cons rfl (hop_storeA rfl rfl (by rfl) (by first | assumption | (repeat' first | (intro _ h; cases h; done) | refine List.forall_mem_cons.2 ⟨by first | rfl | assumption, ?_⟩) | (simp [Value.oneCell']; done) | (simp [Value.oneCell', *]; done)) (by (repeat' first | assumption | exact hS | exact Hp.one_get _ _ | refine hT (by first | assumption | exact Ne.symm ‹_›) ?_)) (by first | assumption | omega | (simp; done) | (simp; omega) | (simp [frc] <;> omega)) (by decide) ?_)
 try simp only [nfa, Nat.reduceAdd]
 refine hops_nil ?_
 try simp only [nfa, Nat.reduceAdd]
 refine sR ?_
 refine oM ?_
 refine oM ?_
 refine oN rfl ?_
 refine oF rfl ?_
 refine hops_cons rfl (hop_load rfl (by (repeat' first | assumption | exact hS | exact Hp.one_get _ _ | refine hT (by first | assumption | exact Ne.symm ‹_›) ?_)) (by first | rfl | assumption | exact mid_get0 rfl | exact mid_get rfl | (simp; done)) ?_)
 try simp only [nfa, Nat.reduceAdd]
 refine hops_cons rfl (hop_sliceS (a := 1) (c := rest.length + 1) rfl (by simp [bd, ev]) (by simp [bd]) (by omega) (by omega) ?_)
 rw [Nat.add_sub_cancel]
 generalize (if tc = 1 then to' else to' + 1 * 3) = to2 at htl' ⊢
 generalize tc - 1 = tc2 at htl' ⊢
 try simp only [nf, nf2]
 refine oN rfl ?_
 refine oF rfl ?_
 refine hops_cons rfl (hop_store rfl rfl (by first | rfl | assumption) (by (repeat' first | assumption | exact hS | exact Hp.one_get _ _ | refine hT (by first | assumption | exact Ne.symm ‹_›) ?_)) (by first | assumption | omega | (simp; done) | (simp; omega) | (simp [frc] <;> omega)) ?_)
 try simp only [nfa, Nat.reduceAdd]
 refine hops_nil ?_
 try simp only [nfa, Nat.reduceAdd]
 refine sR ?_
 refine hops_cons rfl (hop_alloc (zl := [.bool false, .int .i64 0, .int .i64 0, .bool false, .int .i64 0, .slice none 0 0, .int .u64 0, .int .u64 0, .int .u64 0, .int .u64 0, .int .u64 0, .int .u64 0, .int .u64 0, .int .u64 0, .int .u64 0, .int .u64 0, .int .u64 0, .int .u64 0]) rfl ?_)
 intro b3 hb3
 have hb3' := hb3
 try simp only [Hp.set_none, Hp.del_none] at hb3'
 have hb3_n : H b3 = none := by first | exact hb3' | exact hb3'.2 | exact hb3'.2.2 | exact hb3'.2.2.2 | exact hb3'.2.2.2.2 | exact hb3'.2.2.2.2.2 | exact hb3'.2.2.2.2.2.2
 have hb3_b1 : b3 ≠ b1 := by first | exact hb3'.1 | exact hb3'.2.1 | exact hb3'.2.2.1 | exact hb3'.2.2.2.1 | exact hb3'.2.2.2.2.1 | exact hb3'.2.2.2.2.2.1
 have hb3_b2 : b3 ≠ b2 := by first | exact hb3'.1 | exact hb3'.2.1 | exact hb3'.2.2.1 | exact hb3'.2.2.2.1 | exact hb3'.2.2.2.2.1 | exact hb3'.2.2.2.2.2.1
 have hb3_m : b3 ≠ m := (Hp.ne_of hm hb3_n).symm
 have hb3_tb : b3 ≠ tb := (Hp.ne_of htb hb3_n).symm
 clear hb3'
 try simp only [nfa, Nat.reduceAdd]
 refine hops_nil ?_
 try simp only [nfa, Nat.reduceAdd]
 refine hc_seq ?_
 refine hc_block ?_
 refine sR ?_
 refine oF rfl ?_
 refine hops_cons rfl (hop_load rfl (by (repeat' first | assumption | exact hS | exact Hp.one_get _ _ | refine hT (by first | assumption | exact Ne.symm ‹_›) ?_)) (by first | rfl | assumption | exact mid_get0 rfl | exact mid_get rfl | (simp; done)) ?_)
 try simp only [nfa, Nat.reduceAdd]
 refine hops_cons rfl (hop_bin rfl rfl rfl ?_)
 try simp only [nfa, Nat.reduceAdd]
 refine oM ?_
 try simp only [nfa, Nat.reduceAdd]
 first
  | refine hops_off' rfl rfl (by rfl) ?_
  | refine hops_un rfl rfl ?_
  | (refine hops_on' rfl rfl (by rfl) (hop_fieldAddr rfl ?_))
  | (refine hops_gp (v := ?vg4) rfl rfl (fun hgp => ?hv4) ?hh4; case hv4 => ((try simp only [hgp, if_true, ev, List.getD_cons_zero, List.getD_cons_succ]); refine hop_fieldAddr rfl ?_; rfl))
 try simp only [nfa, Nat.reduceAdd]
 first
  | refine hops_off' rfl rfl (by rfl) ?_
  | refine hops_un rfl rfl ?_
  | (refine hops_on' rfl rfl (by rfl) (hop_load rfl (by (repeat' first | assumption | exact hS | exact Hp.one_get _ _ | refine hT (by first | assumption | exact Ne.symm ‹_›) ?_)) (by first | rfl | assumption | exact mid_get0 rfl | exact mid_get rfl | (simp; done)) ?_))
  | (refine hops_gp (v := ?vg5) rfl rfl (fun hgp => ?hv5) ?hh5; case hv5 => ((try simp only [hgp, if_true, ev, List.getD_cons_zero, List.getD_cons_succ]); refine hop_load rfl (by (repeat' first | assumption | exact hS | exact Hp.one_get _ _ | refine hT (by first | assumption | exact Ne.symm ‹_›) ?_)) (by first | rfl | assumption | exact mid_get0 rfl | exact mid_get rfl | (simp; done)) ?_; rfl))
 try simp only [nfa, Nat.reduceAdd]
 first
  | refine hops_off' rfl rfl (by rfl) ?_
  | refine hops_un rfl rfl ?_
  | (refine hops_on' rfl rfl (by rfl) (hop_bin rfl rfl rfl ?_))
  | (refine hops_gp (v := ?vg6) rfl rfl (fun hgp => ?hv6) ?hh6; case hv6 => ((try simp only [hgp, if_true, ev, List.getD_cons_zero, List.getD_cons_succ]); refine hop_bin rfl rfl rfl ?_; rfl))
 try simp only [nfa, Nat.reduceAdd]
 refine hops_cons rfl (hop_pick rfl ?_)
 try simp only [nfa, Nat.reduceAdd]
 refine oA ?_
 try simp only [nfa, Nat.reduceAdd]
 refine hops_nil ?_
 try simp only [nfa, Nat.reduceAdd]
 refine hc_T rfl (by first | rfl | assumption | (simp; done) | (simp; omega) | (simp [*]; done)) ?_
 refine hc_region ?_
 refine oM ?_
 refine oF rfl ?_
 refine hops_cons rfl (hop_load rfl (by (repeat' first | assumption | exact hS | exact Hp.one_get _ _ | refine hT (by first | assumption | exact Ne.symm ‹_›) ?_)) (by first | rfl | assumption | exact mid_get0 rfl | exact mid_get rfl | (simp; done)) ?_)
 try simp only [nfa, Nat.reduceAdd]
 refine hops_cons rfl (hop_call ?_)
 simp only [nfa, Nat.reduceAdd]
 refine HT.mono (stored_yes (s := s) (by (repeat' first | assumption | exact hS | exact Hp.one_get _ _ | refine hT (by first | assumption | exact Ne.symm ‹_›) ?_)) (by (repeat' first | assumption | refine PartH.upd ?_ (by (repeat' first | assumption | exact hS | exact Hp.one_get _ _ | refine hT (by first | assumption | exact Ne.symm ‹_›) ?_)) (by exact npOf) | refine PartH.new ?_ (by assumption))) hf hi ho hpn) ?_
 rintro _ H1 ⟨rfl, hP1, f1⟩
 try simp only [nf, nf2]
 have htlX : rdS H1 (.slice (some ⟨tb, to2, none⟩) rest.length tc2) rest.length (flat ioc rest) 106 3 := rdS.fr (by (repeat' first | exact htl' | refine rdS.upd ?_ (by (repeat' first | assumption | exact hS | exact Hp.one_get _ _ | refine hT (by first | assumption | exact Ne.symm ‹_›) ?_)) (by decide) | refine rdS.new ?_ (by assumption))) f1
 have hownX : OwnS H1 gv got.length (got.map byv) 5 1 := OwnS.fr (by (repeat' first | exact hown | refine OwnS.upd ?_ (by (repeat' first | assumption | exact hS | exact Hp.one_get _ _ | refine hT (by first | assumption | exact Ne.symm ‹_›) ?_)) (by decide) | refine OwnS.new ?_ (by assumption))) f1
 have H1_b1 := f1.keep' (b := b1) (by (repeat' first | assumption | exact hS | exact Hp.one_get _ _ | refine hT (by first | assumption | exact Ne.symm ‹_›) ?_)) (by exact npOf)
 have H1_b2 := f1.keep' (b := b2) (by (repeat' first | assumption | exact hS | exact Hp.one_get _ _ | refine hT (by first | assumption | exact Ne.symm ‹_›) ?_)) (by exact npOf)
 have H1_b3 := f1.keep' (b := b3) (by (repeat' first | assumption | exact hS | exact Hp.one_get _ _ | refine hT (by first | assumption | exact Ne.symm ‹_›) ?_)) (by exact npOf)
 have H1_m := f1.keep' (b := m) (by (repeat' first | assumption | exact hS | exact Hp.one_get _ _ | refine hT (by first | assumption | exact Ne.symm ‹_›) ?_)) (by exact npOf)
 have H1_tb := f1.keep' (b := tb) (by (repeat' first | assumption | exact hS | exact Hp.one_get _ _ | refine hT (by first | assumption | exact Ne.symm ‹_›) ?_)) (by exact npOf)
 refine oF rfl ?_
 refine hops_cons rfl (hop_storeA rfl rfl (by rfl) (by first | assumption | (repeat' first | (intro _ h; cases h; done) | refine List.forall_mem_cons.2 ⟨by first | rfl | assumption, ?_⟩) | (simp [Value.oneCell']; done) | (simp [Value.oneCell', *]; done)) (by (repeat' first | assumption | exact hS | exact Hp.one_get _ _ | refine hT (by first | assumption | exact Ne.symm ‹_›) ?_)) (by first | assumption | omega | (simp; done) | (simp; omega) | (simp [frc] <;> omega)) (by decide) ?_)
 try simp only [nfa, Nat.reduceAdd]
 refine hops_nil ?_
 try simp only [nfa, Nat.reduceAdd]
 refine hc_seq ?_
 refine sR ?_
 refine oM ?_
 refine hops_cons rfl (hop_call ?_)
 simp only [nfa, Nat.reduceAdd]
 refine HT.mono (machine_Busy (by (repeat' first | assumption | exact hS | exact Hp.one_get _ _ | refine hT (by first | assumption | exact Ne.symm ‹_›) ?_)) rfl) ?_
 rintro _ _ ⟨rfl, rfl⟩
 try simp only [nfa, Nat.reduceAdd]
 refine hops_nil ?_
 try simp only [nfa, Nat.reduceAdd]
 refine hc_T rfl (by first | rfl | assumption | (simp; done) | (simp; omega) | (simp [*]; done)) ?_
 refine sR ?_
 refine hops_cons rfl (hop_loadA rfl (by (repeat' first | assumption | exact hS | exact Hp.one_get _ _ | refine hT (by first | assumption | exact Ne.symm ‹_›) ?_)) (by first | assumption | omega | (simp; done) | (simp; omega) | (simp [frc] <;> omega)) ?_)
 try simp only [nfa, Nat.reduceAdd]
 refine hops_cons rfl (hop_storeA rfl rfl (by rfl) (by first | assumption | (repeat' first | (intro _ h; cases h; done) | refine List.forall_mem_cons.2 ⟨by first | rfl | assumption, ?_⟩) | (simp [Value.oneCell']; done) | (simp [Value.oneCell', *]; done)) (by (repeat' first | assumption | exact hS | exact Hp.one_get _ _ | refine hT (by first | assumption | exact Ne.symm ‹_›) ?_)) (by first | assumption | omega | (simp; done) | (simp; omega) | (simp [frc] <;> omega)) (by decide) ?_)
 try simp only [nfa, Nat.reduceAdd]
 refine hops_nil ?_
 try simp only [nfa, Nat.reduceAdd]
 refine hc_ret ?_
 try simp only [hng, hthen, hblock]
 apply hend_1 rfl ?es (RV.cellW rfl (by (repeat' first | assumption | exact hS | exact Hp.one_get _ _ | refine hT (by first | assumption | exact Ne.symm ‹_›) ?_)) (by simp)) ?eR
 case es => exact Sub.refl _
 case eR =>
  refine ⟨rfl, _, gv, by (repeat' first | assumption | exact hS | exact Hp.one_get _ _ | refine hT (by first | assumption | exact Ne.symm ‹_›) ?_), by (repeat' first | exact htlX | refine rdS.upd ?_ (by (repeat' first | assumption | exact hS | exact Hp.one_get _ _ | refine hT (by first | assumption | exact Ne.symm ‹_›) ?_)) (by decide) | refine rdS.new ?_ (by assumption)), by (repeat' first | exact hownX | refine OwnS.upd ?_ (by (repeat' first | assumption | exact hS | exact Hp.one_get _ _ | refine hT (by first | assumption | exact Ne.symm ‹_›) ?_)) (by decide) | refine OwnS.new ?_ (by assumption)), fun _ h => h, by (repeat' first | assumption | refine PartH.upd ?_ (by (repeat' first | assumption | exact hS | exact Hp.one_get _ _ | refine hT (by first | assumption | exact Ne.symm ‹_›) ?_)) (by exact npOf) | refine PartH.new ?_ (by assumption))⟩
theorem End_other {H : Hp} {m p : Nat} {op pg to : Int} {tv gv : Value} {s : Pt} (hm : H m = some (row [.pointer (some ⟨p, 0, none⟩), .int .i64 op, .int .i64 pg, tv, .int .i64 to, gv] 86)) (hP : PartH H p s) {x : Io} {rest : List Io} {got bs : List UInt8} (hrd : rdS H tv (rest.length + 1) (flat ioc (x :: rest)) 106 3) (hown : OwnS H gv got.length (got.map byv) 5 1) {bv : Value} (hk : x.kind ≠ 1) (hk2 : ¬ (x.kind = 2 ∧ x.k = 1)) (hr : 0 < rest.length) :
    HT prog 28 #[.pointer (some ⟨m, 0, none⟩), .int .i64 0, bv] H (fun v H' => v = .agg #[.bool false, .int .i64 0, .int .i64 0, .bool false, .int .i64 0, .slice none 0 0, .int .u64 0, .int .u64 0, .int .u64 0, .int .u64 0, .int .u64 0, .int .u64 0, .int .u64 0, .int .u64 0, .int .u64 0, .int .u64 0, .int .u64 0, .int .u64 0] ∧ ∃ tv' gv', H' m = some (row [.pointer (some ⟨p, 0, none⟩), .int .i64 op, .int .i64 pg, tv', .int .i64 to, gv'] 86) ∧ rdS H' tv' rest.length (flat ioc rest) 106 3 ∧ OwnS H' gv' got.length (got.map byv) 5 1 ∧ (got = [] → gv = .slice none 0 0 → gv' = .slice none 0 0) ∧ PartH H' p s) := by
 obtain ⟨tb, to', tc, L, rfl, htb, hl, hy, hc⟩ := hrd.pos (by omega)
 have hx3 : (L.drop to').take 3 = [.int .i64 x.kind, .int .i64 x.page, .int .i64 x.k] := by
   have h := congrArg (List.take 3) hy
   rw [List.take_take, Nat.min_eq_left (by omega)] at h
   rw [← h]; rfl
 have htl := rd_tail htb hl hy hc
 have htl' : rdS H (.slice (some ⟨tb, if tc = 1 then to' else to' + 1 * 3, none⟩) rest.length (tc - 1)) rest.length (flat ioc rest) 106 3 := htl
 clear htl
 have hgo := hown.one
 have hmt := ne_row hm htb (by decide)
 have hk3 : ((x.kind == 2) && (x.k == 1)) = false := by simp; omega
 refine ht_of_body (args := [.pointer (some ⟨m, 0, none⟩), .int .i64 0, bv]) func28 rfl ?_
 simp only [ntmps28, List.length_cons, List.length_nil, Nat.reduceAdd, Nat.reduceSub, List.replicate_succ, List.replicate_zero, List.cons_append, List.nil_append]
 refine sR ?_
 refine hops_cons rfl (hop_alloc (zl := [.bool false, .int .i64 0, .int .i64 0, .bool false, .int .i64 0, .slice none 0 0, .int .u64 0, .int .u64 0, .int .u64 0, .int .u64 0, .int .u64 0, .int .u64 0, .int .u64 0, .int .u64 0, .int .u64 0, .int .u64 0, .int .u64 0, .int .u64 0]) rfl ?_)
 intro b1 hb1
 have hb1' := hb1
 try simp only [Hp.set_none, Hp.del_none] at hb1'
 have hb1_n : H b1 = none := by first | exact hb1' | exact hb1'.2 | exact hb1'.2.2 | exact hb1'.2.2.2 | exact hb1'.2.2.2.2 | exact hb1'.2.2.2.2.2 | exact hb1'.2.2.2.2.2.2
 have hb1_m : b1 ≠ m := (Hp.ne_of hm hb1_n).symm
 have hb1_tb : b1 ≠ tb := (Hp.ne_of htb hb1_n).symm
 clear hb1'
 try simp only [nfa, Nat.reduceAdd]
 refine hops_nil ?_
 try simp only [nfa, Nat.reduceAdd]
 refine hc_seq ?_
 refine sR ?_
 refine oM ?_
 try simp only [nfa, Nat.reduceAdd]
 refine hops_cons rfl (hop_bin rfl rfl rfl ?_)
 try simp only [nfa, Nat.reduceAdd]
 refine hops_nil ?_
 try simp only [nfa, Nat.reduceAdd]
 refine hc_F rfl (by first | rfl | assumption | (simp; done) | (simp; omega) | (simp [*]; done)) ?_
 refine hc_skip ?_
 try simp only [nfa, Nat.reduceAdd]
 refine sR ?_
 refine oM ?_
 refine oN rfl ?_
 refine oF rfl ?_
 refine hops_cons rfl (hop_load rfl (by (repeat' first | assumption | exact hS | exact Hp.one_get _ _ | refine hT (by first | assumption | exact Ne.symm ‹_›) ?_)) (by first | rfl | assumption | exact mid_get0 rfl | exact mid_get rfl | (simp; done)) ?_)
 try simp only [nfa, Nat.reduceAdd]
 refine hops_cons rfl (hop_indexAddr (i := 0) rfl rfl (by omega) (by omega) ?_)
 simp only [Int.toNat_zero, Nat.zero_mul, Nat.add_zero]
 try simp only [nf, nf2]
 refine hops_cons rfl (hop_loadA rfl (by (repeat' first | assumption | exact hS | exact Hp.one_get _ _ | refine hT (by first | assumption | exact Ne.symm ‹_›) ?_)) (by omega) ?_)
 rw [hx3]
 try simp only [nf, nf2]
 refine hops_cons rfl (hop_alloc (zl := [.int .i64 0, .int .i64 0, .int .i64 0]) rfl ?_)
 intro b2 hb2
 have hb2' := hb2
 try simp only [Hp.set_none, Hp.del_none] at hb2'
 have hb2_n : H b2 = none := by first | exact hb2' | exact hb2'.2 | exact hb2'.2.2 | exact hb2'.2.2.2 | exact hb2'.2.2.2.2 | exact hb2'.2.2.2.2.2 | exact hb2'.2.2.2.2.2.2
 have hb2_b1 : b2 ≠ b1 := by first | exact hb2'.1 | exact hb2'.2.1 | exact hb2'.2.2.1 | exact hb2'.2.2.2.1 | exact hb2'.2.2.2.2.1 | exact hb2'.2.2.2.2.2.1
 have hb2_m : b2 ≠ m := (Hp.ne_of hm hb2_n).symm
 have hb2_tb : b2 ≠ tb := (Hp.ne_of htb hb2_n).symm
 clear hb2'
 try simp only [nfa, Nat.reduceAdd]
 refine hops_cons rfl (hop_storeA rfl rfl (by rfl) (by first | assumption | (repeat' first | (intro _ h; cases h; done) | refine List.forall_mem_cons.2 ⟨by first | rfl | assumption, ?_⟩) | (simp [Value.oneCell']; done) | (simp [Value.oneCell', *]; done)) (by (repeat' first | assumption | exact hS | exact Hp.one_get _ _ | refine hT (by first | assumption | exact Ne.symm ‹_›) ?_)) (by first | assumption | omega | (simp; done) | (simp; omega) | (simp [frc] <;> omega)) (by decide) ?_)
 try simp only [nfa, Nat.reduceAdd]
 refine hops_nil ?_
 try simp only [nfa, Nat.reduceAdd]
 refine sR ?_
 refine oM ?_
 refine oM ?_
 refine oN rfl ?_
 refine oF rfl ?_
 refine hops_cons rfl (hop_load rfl (by (repeat' first | assumption | exact hS | exact Hp.one_get _ _ | refine hT (by first | assumption | exact Ne.symm ‹_›) ?_)) (by first | rfl | assumption | exact mid_get0 rfl | exact mid_get rfl | (simp; done)) ?_)
 try simp only [nfa, Nat.reduceAdd]
 refine hops_cons rfl (hop_sliceS (a := 1) (c := rest.length + 1) rfl (by simp [bd, ev]) (by simp [bd]) (by omega) (by omega) ?_)
 rw [Nat.add_sub_cancel]
 generalize (if tc = 1 then to' else to' + 1 * 3) = to2 at htl' ⊢
 generalize tc - 1 = tc2 at htl' ⊢
 try simp only [nf, nf2]
 refine oN rfl ?_
 refine oF rfl ?_
 refine hops_cons rfl (hop_store rfl rfl (by first | rfl | assumption) (by (repeat' first | assumption | exact hS | exact Hp.one_get _ _ | refine hT (by first | assumption | exact Ne.symm ‹_›) ?_)) (by first | assumption | omega | (simp; done) | (simp; omega) | (simp [frc] <;> omega)) ?_)
 try simp only [nfa, Nat.reduceAdd]
 refine hops_nil ?_
 try simp only [nfa, Nat.reduceAdd]
 refine sR ?_
 refine hops_cons rfl (hop_alloc (zl := [.bool false, .int .i64 0, .int .i64 0, .bool false, .int .i64 0, .slice none 0 0, .int .u64 0, .int .u64 0, .int .u64 0, .int .u64 0, .int .u64 0, .int .u64 0, .int .u64 0, .int .u64 0, .int .u64 0, .int .u64 0, .int .u64 0, .int .u64 0]) rfl ?_)
 intro b3 hb3
 have hb3' := hb3
 try simp only [Hp.set_none, Hp.del_none] at hb3'
 have hb3_n : H b3 = none := by first | exact hb3' | exact hb3'.2 | exact hb3'.2.2 | exact hb3'.2.2.2 | exact hb3'.2.2.2.2 | exact hb3'.2.2.2.2.2 | exact hb3'.2.2.2.2.2.2
 have hb3_b1 : b3 ≠ b1 := by first | exact hb3'.1 | exact hb3'.2.1 | exact hb3'.2.2.1 | exact hb3'.2.2.2.1 | exact hb3'.2.2.2.2.1 | exact hb3'.2.2.2.2.2.1
 have hb3_b2 : b3 ≠ b2 := by first | exact hb3'.1 | exact hb3'.2.1 | exact hb3'.2.2.1 | exact hb3'.2.2.2.1 | exact hb3'.2.2.2.2.1 | exact hb3'.2.2.2.2.2.1
 have hb3_m : b3 ≠ m := (Hp.ne_of hm hb3_n).symm
 have hb3_tb : b3 ≠ tb := (Hp.ne_of htb hb3_n).symm
 clear hb3'
 try simp only [nfa, Nat.reduceAdd]
 refine hops_nil ?_
 try simp only [nfa, Nat.reduceAdd]
 refine hc_seq ?_
 refine hc_block ?_
 refine sR ?_
 refine oF rfl ?_
 refine hops_cons rfl (hop_load rfl (by (repeat' first | assumption | exact hS | exact Hp.one_get _ _ | refine hT (by first | assumption | exact Ne.symm ‹_›) ?_)) (by first | rfl | assumption | exact mid_get0 rfl | exact mid_get rfl | (simp; done)) ?_)
 try simp only [nfa, Nat.reduceAdd]
 refine hops_cons rfl (hop_bin rfl rfl rfl ?_)
 try simp only [nfa, Nat.reduceAdd]
 refine oM ?_
 try simp only [nfa, Nat.reduceAdd]
 first
  | refine hops_off' rfl rfl (by rfl) ?_
  | refine hops_un rfl rfl ?_
  | (refine hops_on' rfl rfl (by rfl) (hop_fieldAddr rfl ?_))
  | (refine hops_gp (v := ?vg4) rfl rfl (fun hgp => ?hv4) ?hh4; case hv4 => ((try simp only [hgp, if_true, ev, List.getD_cons_zero, List.getD_cons_succ]); refine hop_fieldAddr rfl ?_; rfl))
 try simp only [nfa, Nat.reduceAdd]
 first
  | refine hops_off' rfl rfl (by rfl) ?_
  | refine hops_un rfl rfl ?_
  | (refine hops_on' rfl rfl (by rfl) (hop_load rfl (by (repeat' first | assumption | exact hS | exact Hp.one_get _ _ | refine hT (by first | assumption | exact Ne.symm ‹_›) ?_)) (by first | rfl | assumption | exact mid_get0 rfl | exact mid_get rfl | (simp; done)) ?_))
  | (refine hops_gp (v := ?vg5) rfl rfl (fun hgp => ?hv5) ?hh5; case hv5 => ((try simp only [hgp, if_true, ev, List.getD_cons_zero, List.getD_cons_succ]); refine hop_load rfl (by (repeat' first | assumption | exact hS | exact Hp.one_get _ _ | refine hT (by first | assumption | exact Ne.symm ‹_›) ?_)) (by first | rfl | assumption | exact mid_get0 rfl | exact mid_get rfl | (simp; done)) ?_; rfl))
 try simp only [nfa, Nat.reduceAdd]
 first
  | refine hops_off' rfl rfl (by rfl) ?_
  | refine hops_un rfl rfl ?_
  | (refine hops_on' rfl rfl (by rfl) (hop_bin rfl rfl rfl ?_))
  | (refine hops_gp (v := ?vg6) rfl rfl (fun hgp => ?hv6) ?hh6; case hv6 => ((try simp only [hgp, if_true, ev, List.getD_cons_zero, List.getD_cons_succ]); refine hop_bin rfl rfl rfl ?_; rfl))
 try simp only [nfa, Nat.reduceAdd]
 refine hops_cons rfl (hop_pick rfl ?_)
 try simp only [nfa, Nat.reduceAdd]
 refine oA ?_
 try simp only [nfa, Nat.reduceAdd]
 refine hops_nil ?_
 try simp only [nfa, Nat.reduceAdd]
 refine hc_F rfl (by first | rfl | assumption | (simp; done) | (simp; omega) | (simp [*]; done)) ?_
 refine sR ?_
 refine oF rfl ?_
 refine hops_cons rfl (hop_load rfl (by (repeat' first | assumption | exact hS | exact Hp.one_get _ _ | refine hT (by first | assumption | exact Ne.symm ‹_›) ?_)) (by first | rfl | assumption | exact mid_get0 rfl | exact mid_get rfl | (simp; done)) ?_)
 try simp only [nfa, Nat.reduceAdd]
 refine hops_cons rfl (hop_bin rfl rfl rfl ?_)
 try simp only [nfa, Nat.reduceAdd]
 refine oA ?_
 try simp only [nfa, Nat.reduceAdd]
 refine hops_nil ?_
 try simp only [nfa, Nat.reduceAdd]
 refine hc_F rfl (by first | rfl | assumption | (simp; done) | (simp; omega) | (simp [*]; done)) ?_
 refine hc_skip ?_
 try simp only [nfa, Nat.reduceAdd]
 refine hc_seq ?_
 refine sR ?_
 refine oM ?_
 refine hops_cons rfl (hop_call ?_)
 simp only [nfa, Nat.reduceAdd]
 refine HT.mono (machine_Busy (by (repeat' first | assumption | exact hS | exact Hp.one_get _ _ | refine hT (by first | assumption | exact Ne.symm ‹_›) ?_)) rfl) ?_
 rintro _ _ ⟨rfl, rfl⟩
 try simp only [nfa, Nat.reduceAdd]
 refine hops_nil ?_
 try simp only [nfa, Nat.reduceAdd]
 refine hc_T rfl (by first | rfl | assumption | (simp; done) | (simp; omega) | (simp [*]; done)) ?_
 refine sR ?_
 refine hops_cons rfl (hop_loadA rfl (by (repeat' first | assumption | exact hS | exact Hp.one_get _ _ | refine hT (by first | assumption | exact Ne.symm ‹_›) ?_)) (by first | assumption | omega | (simp; done) | (simp; omega) | (simp [frc] <;> omega)) ?_)
 try simp only [nfa, Nat.reduceAdd]
 refine hops_cons rfl (hop_storeA rfl rfl (by rfl) (by first | assumption | (repeat' first | (intro _ h; cases h; done) | refine List.forall_mem_cons.2 ⟨by first | rfl | assumption, ?_⟩) | (simp [Value.oneCell']; done) | (simp [Value.oneCell', *]; done)) (by (repeat' first | assumption | exact hS | exact Hp.one_get _ _ | refine hT (by first | assumption | exact Ne.symm ‹_›) ?_)) (by first | assumption | omega | (simp; done) | (simp; omega) | (simp [frc] <;> omega)) (by decide) ?_)
 try simp only [nfa, Nat.reduceAdd]
 refine hops_nil ?_
 try simp only [nfa, Nat.reduceAdd]
 refine hc_ret ?_
 try simp only [hng, hthen, hblock]
 apply hend_1 rfl ?es (RV.cellW rfl (by (repeat' first | assumption | exact hS | exact Hp.one_get _ _ | refine hT (by first | assumption | exact Ne.symm ‹_›) ?_)) (by simp)) ?eR
 case es => exact Sub.refl _
 case eR =>
  refine ⟨rfl, _, gv, by (repeat' first | assumption | exact hS | exact Hp.one_get _ _ | refine hT (by first | assumption | exact Ne.symm ‹_›) ?_), by (repeat' first | exact htl' | refine rdS.upd ?_ (by (repeat' first | assumption | exact hS | exact Hp.one_get _ _ | refine hT (by first | assumption | exact Ne.symm ‹_›) ?_)) (by decide) | refine rdS.new ?_ (by assumption)), by (repeat' first | exact hown | refine OwnS.upd ?_ (by (repeat' first | assumption | exact hS | exact Hp.one_get _ _ | refine hT (by first | assumption | exact Ne.symm ‹_›) ?_)) (by decide) | refine OwnS.new ?_ (by assumption)), fun _ h => h, by (repeat' first | assumption | refine PartH.upd ?_ (by (repeat' first | assumption | exact hS | exact Hp.one_get _ _ | refine hT (by first | assumption | exact Ne.symm ‹_›) ?_)) (by exact npOf) | refine PartH.new ?_ (by assumption))⟩
theorem End_last {H : Hp} {m p : Nat} {op pg to : Int} {tv gv : Value} {s : Pt} (hm : H m = some (row [.pointer (some ⟨p, 0, none⟩), .int .i64 op, .int .i64 pg, tv, .int .i64 to, gv] 86)) (hP : PartH H p s) {x : Io} {rest : List Io} {got bs : List UInt8} (hrd : rdS H tv (rest.length + 1) (flat ioc (x :: rest)) 106 3) (hown : OwnS H gv got.length (got.map byv) 5 1) {bv : Value} (hk : x.kind ≠ 1) (hk2 : ¬ (x.kind = 2 ∧ x.k = 1)) (hr : rest = []) (ho : op ≠ 1) :
    HT prog 28 #[.pointer (some ⟨m, 0, none⟩), .int .i64 0, bv] H (fun v H' => v = .agg #[.bool true, .int .i64 0, .int .i64 0, .bool false, .int .i64 0, .slice none 0 0, .int .u64 0, .int .u64 0, .int .u64 0, .int .u64 0, .int .u64 0, .int .u64 0, .int .u64 0, .int .u64 0, .int .u64 0, .int .u64 0, .int .u64 0, .int .u64 0] ∧ H' m = some (row [.pointer (some ⟨p, 0, none⟩), .int .i64 0, .int .i64 0, .slice none 0 0, .int .i64 0, .slice none 0 0] 86) ∧ PartH H' p s) := by
 obtain ⟨tb, to', tc, L, rfl, htb, hl, hy, hc⟩ := hrd.pos (by omega)
 have hx3 : (L.drop to').take 3 = [.int .i64 x.kind, .int .i64 x.page, .int .i64 x.k] := by
   have h := congrArg (List.take 3) hy
   rw [List.take_take, Nat.min_eq_left (by omega)] at h
   rw [← h]; rfl
 have htl := rd_tail htb hl hy hc
 have htl' : rdS H (.slice (some ⟨tb, if tc = 1 then to' else to' + 1 * 3, none⟩) rest.length (tc - 1)) rest.length (flat ioc rest) 106 3 := htl
 clear htl
 have hgo := hown.one
 have hmt := ne_row hm htb (by decide)
 have hk3 : ((x.kind == 2) && (x.k == 1)) = false := by simp; omega
 refine ht_of_body (args := [.pointer (some ⟨m, 0, none⟩), .int .i64 0, bv]) func28 rfl ?_
 simp only [ntmps28, List.length_cons, List.length_nil, Nat.reduceAdd, Nat.reduceSub, List.replicate_succ, List.replicate_zero, List.cons_append, List.nil_append]
 refine sR ?_
 refine hops_cons rfl (hop_alloc (zl := [.bool false, .int .i64 0, .int .i64 0, .bool false, .int .i64 0, .slice none 0 0, .int .u64 0, .int .u64 0, .int .u64 0, .int .u64 0, .int .u64 0, .int .u64 0, .int .u64 0, .int .u64 0, .int .u64 0, .int .u64 0, .int .u64 0, .int .u64 0]) rfl ?_)
 intro b1 hb1
 have hb1' := hb1
 try simp only [Hp.set_none, Hp.del_none] at hb1'
 have hb1_n : H b1 = none := by first | exact hb1' | exact hb1'.2 | exact hb1'.2.2 | exact hb1'.2.2.2 | exact hb1'.2.2.2.2 | exact hb1'.2.2.2.2.2 | exact hb1'.2.2.2.2.2.2
 have hb1_m : b1 ≠ m := (Hp.ne_of hm hb1_n).symm
 have hb1_tb : b1 ≠ tb := (Hp.ne_of htb hb1_n).symm
 clear hb1'
 try simp only [nfa, Nat.reduceAdd]
 refine hops_nil ?_
 try simp only [nfa, Nat.reduceAdd]
 refine hc_seq ?_
 refine sR ?_
 refine oM ?_
 try simp only [nfa, Nat.reduceAdd]
 refine hops_cons rfl (hop_bin rfl rfl rfl ?_)
 try simp only [nfa, Nat.reduceAdd]
 refine hops_nil ?_
 try simp only [nfa, Nat.reduceAdd]
 refine hc_F rfl (by first | rfl | assumption | (simp; done) | (simp; omega) | (simp [*]; done)) ?_
 refine hc_skip ?_
 try simp only [nfa, Nat.reduceAdd]
 refine sR ?_
 refine oM ?_
 refine oN rfl ?_
 refine oF rfl ?_
 refine hops_cons rfl (hop_load rfl (by (repeat' first | assumption | exact hS | exact Hp.one_get _ _ | refine hT (by first | assumption | exact Ne.symm ‹_›) ?_)) (by first | rfl | assumption | exact mid_get0 rfl | exact mid_get rfl | (simp; done)) ?_)
 try simp only [nfa, Nat.reduceAdd]
 refine hops_cons rfl (hop_indexAddr (i := 0) rfl rfl (by omega) (by omega) ?_)
 simp only [Int.toNat_zero, Nat.zero_mul, Nat.add_zero]
 try simp only [nf, nf2]
 refine hops_cons rfl (hop_loadA rfl (by (repeat' first | assumption | exact hS | exact Hp.one_get _ _ | refine hT (by first | assumption | exact Ne.symm ‹_›) ?_)) (by omega) ?_)
 rw [hx3]
 try simp only [nf, nf2]
 refine hops_cons rfl (hop_alloc (zl := [.int .i64 0, .int .i64 0, .int .i64 0]) rfl ?_)
 intro b2 hb2
 have hb2' := hb2
 try simp only [Hp.set_none, Hp.del_none] at hb2'
 have hb2_n : H b2 = none := by first | exact hb2' | exact hb2'.2 | exact hb2'.2.2 | exact hb2'.2.2.2 | exact hb2'.2.2.2.2 | exact hb2'.2.2.2.2.2 | exact hb2'.2.2.2.2.2.2
 have hb2_b1 : b2 ≠ b1 := by first | exact hb2'.1 | exact hb2'.2.1 | exact hb2'.2.2.1 | exact hb2'.2.2.2.1 | exact hb2'.2.2.2.2.1 | exact hb2'.2.2.2.2.2.1
 have hb2_m : b2 ≠ m := (Hp.ne_of hm hb2_n).symm
 have hb2_tb : b2 ≠ tb := (Hp.ne_of htb hb2_n).symm
 clear hb2'
 try simp only [nfa, Nat.reduceAdd]
 refine hops_cons rfl (hop_storeA rfl rfl (by rfl) (by first | assumption | (repeat' first | (intro _ h; cases h; done) | refine List.forall_mem_cons.2 ⟨by first | rfl | assumption, ?_⟩) | (simp [Value.oneCell']; done) | (simp [Value.oneCell', *]; done)) (by (repeat' first | assumption | exact hS | exact Hp.one_get _ _ | refine hT (by first | assumption | exact Ne.symm ‹_›) ?_)) (by first | assumption | omega | (simp; done) | (simp; omega) | (simp [frc] <;> omega)) (by decide) ?_)
 try simp only [nfa, Nat.reduceAdd]
 refine hops_nil ?_
 try simp only [nfa, Nat.reduceAdd]
 refine sR ?_
 refine oM ?_
 refine oM ?_
 refine oN rfl ?_
 refine oF rfl ?_
 refine hops_cons rfl (hop_load rfl (by (repeat' first | assumption | exact hS | exact Hp.one_get _ _ | refine hT (by first | assumption | exact Ne.symm ‹_›) ?_)) (by first | rfl | assumption | exact mid_get0 rfl | exact mid_get rfl | (simp; done)) ?_)
 try simp only [nfa, Nat.reduceAdd]
 refine hops_cons rfl (hop_sliceS (a := 1) (c := rest.length + 1) rfl (by simp [bd, ev]) (by simp [bd]) (by omega) (by omega) ?_)
 rw [Nat.add_sub_cancel]
 generalize (if tc = 1 then to' else to' + 1 * 3) = to2 at htl' ⊢
 generalize tc - 1 = tc2 at htl' ⊢
 try simp only [nf, nf2]
 refine oN rfl ?_
 refine oF rfl ?_
 refine hops_cons rfl (hop_store rfl rfl (by first | rfl | assumption) (by (repeat' first | assumption | exact hS | exact Hp.one_get _ _ | refine hT (by first | assumption | exact Ne.symm ‹_›) ?_)) (by first | assumption | omega | (simp; done) | (simp; omega) | (simp [frc] <;> omega)) ?_)
 try simp only [nfa, Nat.reduceAdd]
 refine hops_nil ?_
 try simp only [nfa, Nat.reduceAdd]
 refine sR ?_
 refine hops_cons rfl (hop_alloc (zl := [.bool false, .int .i64 0, .int .i64 0, .bool false, .int .i64 0, .slice none 0 0, .int .u64 0, .int .u64 0, .int .u64 0, .int .u64 0, .int .u64 0, .int .u64 0, .int .u64 0, .int .u64 0, .int .u64 0, .int .u64 0, .int .u64 0, .int .u64 0]) rfl ?_)
 intro b3 hb3
 have hb3' := hb3
 try simp only [Hp.set_none, Hp.del_none] at hb3'
 have hb3_n : H b3 = none := by first | exact hb3' | exact hb3'.2 | exact hb3'.2.2 | exact hb3'.2.2.2 | exact hb3'.2.2.2.2 | exact hb3'.2.2.2.2.2 | exact hb3'.2.2.2.2.2.2
 have hb3_b1 : b3 ≠ b1 := by first | exact hb3'.1 | exact hb3'.2.1 | exact hb3'.2.2.1 | exact hb3'.2.2.2.1 | exact hb3'.2.2.2.2.1 | exact hb3'.2.2.2.2.2.1
 have hb3_b2 : b3 ≠ b2 := by first | exact hb3'.1 | exact hb3'.2.1 | exact hb3'.2.2.1 | exact hb3'.2.2.2.1 | exact hb3'.2.2.2.2.1 | exact hb3'.2.2.2.2.2.1
 have hb3_m : b3 ≠ m := (Hp.ne_of hm hb3_n).symm
 have hb3_tb : b3 ≠ tb := (Hp.ne_of htb hb3_n).symm
 clear hb3'
 try simp only [nfa, Nat.reduceAdd]
 refine hops_nil ?_
 try simp only [nfa, Nat.reduceAdd]
 refine hc_seq ?_
 refine hc_block ?_
 refine sR ?_
 refine oF rfl ?_
 refine hops_cons rfl (hop_load rfl (by (repeat' first | assumption | exact hS | exact Hp.one_get _ _ | refine hT (by first | assumption | exact Ne.symm ‹_›) ?_)) (by first | rfl | assumption | exact mid_get0 rfl | exact mid_get rfl | (simp; done)) ?_)
 try simp only [nfa, Nat.reduceAdd]
 refine hops_cons rfl (hop_bin rfl rfl rfl ?_)
 try simp only [nfa, Nat.reduceAdd]
 refine oM ?_
 try simp only [nfa, Nat.reduceAdd]
 first
  | refine hops_off' rfl rfl (by rfl) ?_
  | refine hops_un rfl rfl ?_
  | (refine hops_on' rfl rfl (by rfl) (hop_fieldAddr rfl ?_))
  | (refine hops_gp (v := ?vg4) rfl rfl (fun hgp => ?hv4) ?hh4; case hv4 => ((try simp only [hgp, if_true, ev, List.getD_cons_zero, List.getD_cons_succ]); refine hop_fieldAddr rfl ?_; rfl))
 try simp only [nfa, Nat.reduceAdd]
 first
  | refine hops_off' rfl rfl (by rfl) ?_
  | refine hops_un rfl rfl ?_
  | (refine hops_on' rfl rfl (by rfl) (hop_load rfl (by (repeat' first | assumption | exact hS | exact Hp.one_get _ _ | refine hT (by first | assumption | exact Ne.symm ‹_›) ?_)) (by first | rfl | assumption | exact mid_get0 rfl | exact mid_get rfl | (simp; done)) ?_))
  | (refine hops_gp (v := ?vg5) rfl rfl (fun hgp => ?hv5) ?hh5; case hv5 => ((try simp only [hgp, if_true, ev, List.getD_cons_zero, List.getD_cons_succ]); refine hop_load rfl (by (repeat' first | assumption | exact hS | exact Hp.one_get _ _ | refine hT (by first | assumption | exact Ne.symm ‹_›) ?_)) (by first | rfl | assumption | exact mid_get0 rfl | exact mid_get rfl | (simp; done)) ?_; rfl))
 try simp only [nfa, Nat.reduceAdd]
 first
  | refine hops_off' rfl rfl (by rfl) ?_
  | refine hops_un rfl rfl ?_
  | (refine hops_on' rfl rfl (by rfl) (hop_bin rfl rfl rfl ?_))
  | (refine hops_gp (v := ?vg6) rfl rfl (fun hgp => ?hv6) ?hh6; case hv6 => ((try simp only [hgp, if_true, ev, List.getD_cons_zero, List.getD_cons_succ]); refine hop_bin rfl rfl rfl ?_; rfl))
 try simp only [nfa, Nat.reduceAdd]
 refine hops_cons rfl (hop_pick rfl ?_)
 try simp only [nfa, Nat.reduceAdd]
 refine oA ?_
 try simp only [nfa, Nat.reduceAdd]
 refine hops_nil ?_
 try simp only [nfa, Nat.reduceAdd]
 refine hc_F rfl (by first | rfl | assumption | (simp; done) | (simp; omega) | (simp [*]; done)) ?_
 refine sR ?_
 refine oF rfl ?_
 refine hops_cons rfl (hop_load rfl (by (repeat' first | assumption | exact hS | exact Hp.one_get _ _ | refine hT (by first | assumption | exact Ne.symm ‹_›) ?_)) (by first | rfl | assumption | exact mid_get0 rfl | exact mid_get rfl | (simp; done)) ?_)
 try simp only [nfa, Nat.reduceAdd]
 refine hops_cons rfl (hop_bin rfl rfl rfl ?_)
 try simp only [nfa, Nat.reduceAdd]
 refine oA ?_
 try simp only [nfa, Nat.reduceAdd]
 refine hops_nil ?_
 try simp only [nfa, Nat.reduceAdd]
 refine hc_F rfl (by first | rfl | assumption | (simp; done) | (simp; omega) | (simp [*]; done)) ?_
 refine hc_skip ?_
 try simp only [nfa, Nat.reduceAdd]
 refine hc_seq ?_
 refine sR ?_
 refine oM ?_
 refine hops_cons rfl (hop_call ?_)
 simp only [nfa, Nat.reduceAdd]
 refine HT.mono (machine_Busy (by (repeat' first | assumption | exact hS | exact Hp.one_get _ _ | refine hT (by first | assumption | exact Ne.symm ‹_›) ?_)) rfl) ?_
 rintro _ _ ⟨rfl, rfl⟩
 try simp only [nfa, Nat.reduceAdd]
 refine hops_nil ?_
 try simp only [nfa, Nat.reduceAdd]
 refine hc_F rfl (by first | rfl | assumption | (simp; done) | (simp; omega) | (simp [*]; done)) ?_
 refine hc_skip ?_
 try simp only [nfa, Nat.reduceAdd]
 refine hc_seq ?_
 refine sR ?_
 refine oM ?_
 refine oN rfl ?_
 refine oF rfl ?_
 refine hops_cons rfl (hop_load rfl (by (repeat' first | assumption | exact hS | exact Hp.one_get _ _ | refine hT (by first | assumption | exact Ne.symm ‹_›) ?_)) (by first | rfl | assumption | exact mid_get0 rfl | exact mid_get rfl | (simp; done)) ?_)
 try simp only [nfa, Nat.reduceAdd]
 refine hops_cons rfl (hop_bin rfl rfl rfl ?_)
 try simp only [nfa, Nat.reduceAdd]
 refine hops_nil ?_
 try simp only [nfa, Nat.reduceAdd]
 refine hc_F rfl (by first | rfl | assumption | (simp; done) | (simp; omega) | (simp [*]; done)) ?_
 refine hc_skip ?_
 try simp only [nfa, Nat.reduceAdd]
 refine sR ?_
 refine oM ?_
 refine hops_cons rfl (hop_call ?_)
 simp only [nfa, Nat.reduceAdd]
 refine HT.mono (machine_Stop (by (repeat' first | assumption | exact hS | exact Hp.one_get _ _ | refine hT (by first | assumption | exact Ne.symm ‹_›) ?_))) ?_
 rintro _ _ ⟨rfl, rfl⟩
 try simp only [nfa, Nat.reduceAdd]
 refine hops_nil ?_
 try simp only [nfa, Nat.reduceAdd]
 refine sR ?_
 refine oF rfl ?_
 refine hops_cons rfl (hop_store rfl rfl (by first | rfl | assumption) (by (repeat' first | assumption | exact hS | exact Hp.one_get _ _ | refine hT (by first | assumption | exact Ne.symm ‹_›) ?_)) (by first | assumption | omega | (simp; done) | (simp; omega) | (simp [frc] <;> omega)) ?_)
 try simp only [nfa, Nat.reduceAdd]
 refine hops_nil ?_
 try simp only [nfa, Nat.reduceAdd]
 refine sR ?_
 refine hops_cons rfl (hop_loadA rfl (by (repeat' first | assumption | exact hS | exact Hp.one_get _ _ | refine hT (by first | assumption | exact Ne.symm ‹_›) ?_)) (by first | assumption | omega | (simp; done) | (simp; omega) | (simp [frc] <;> omega)) ?_)
 try simp only [nfa, Nat.reduceAdd]
 refine hops_cons rfl (hop_storeA rfl rfl (by rfl) (by first | assumption | (repeat' first | (intro _ h; cases h; done) | refine List.forall_mem_cons.2 ⟨by first | rfl | assumption, ?_⟩) | (simp [Value.oneCell']; done) | (simp [Value.oneCell', *]; done)) (by (repeat' first | assumption | exact hS | exact Hp.one_get _ _ | refine hT (by first | assumption | exact Ne.symm ‹_›) ?_)) (by first | assumption | omega | (simp; done) | (simp; omega) | (simp [frc] <;> omega)) (by decide) ?_)
 try simp only [nfa, Nat.reduceAdd]
 refine hops_nil ?_
 try simp only [nfa, Nat.reduceAdd]
 refine hc_ret ?_
 try simp only [hng, hthen, hblock]
 apply hend_1 rfl ?es (RV.cellW rfl (by (repeat' first | assumption | exact hS | exact Hp.one_get _ _ | refine hT (by first | assumption | exact Ne.symm ‹_›) ?_)) (by simp)) ?eR
 case es => exact Sub.refl _
 case eR =>
  exact ⟨rfl, by (repeat' first | assumption | exact hS | exact Hp.one_get _ _ | refine hT (by first | assumption | exact Ne.symm ‹_›) ?_), by (repeat' first | assumption | refine PartH.upd ?_ (by (repeat' first | assumption | exact hS | exact Hp.one_get _ _ | refine hT (by first | assumption | exact Ne.symm ‹_›) ?_)) (by exact npOf) | refine PartH.new ?_ (by assumption))⟩
theorem End_load {H : Hp} {m p : Nat} {op pg to : Int} {tv gv : Value} {s : Pt} (hm : H m = some (row [.pointer (some ⟨p, 0, none⟩), .int .i64 op, .int .i64 pg, tv, .int .i64 to, gv] 86)) (hP : PartH H p s) {x : Io} {rest : List Io} {got bs : List UInt8} (hrd : rdS H tv (rest.length + 1) (flat ioc (x :: rest)) 106 3) (hown : OwnS H gv got.length (got.map byv) 5 1) {ba : Option Addr} {bc : Nat} (hbv : dOkU H (.slice ba bs.length bc) bs) (hgl : got.length ≤ 16) (hbl : bs.length = 16) (hk : x.kind = 1) (hr : 0 < rest.length) :
    HT prog 28 #[.pointer (some ⟨m, 0, none⟩), .int .i64 0, .slice ba bs.length bc] H (fun v H' => v = .agg #[.bool false, .int .i64 0, .int .i64 0, .bool false, .int .i64 0, .slice none 0 0, .int .u64 0, .int .u64 0, .int .u64 0, .int .u64 0, .int .u64 0, .int .u64 0, .int .u64 0, .int .u64 0, .int .u64 0, .int .u64 0, .int .u64 0, .int .u64 0] ∧ ∃ tv' gv', H' m = some (row [.pointer (some ⟨p, 0, none⟩), .int .i64 op, .int .i64 pg, tv', .int .i64 to, gv'] 86) ∧ rdS H' tv' rest.length (flat ioc rest) 106 3 ∧ OwnS H' gv' (got ++ bs).length ((got ++ bs).map byv) 5 1 ∧ ((got ++ bs) = [] → gv = .slice none 0 0 → gv' = .slice none 0 0) ∧ PartH H' p s) := by
 obtain ⟨tb, to', tc, L, rfl, htb, hl, hy, hc⟩ := hrd.pos (by omega)
 have hx3 : (L.drop to').take 3 = [.int .i64 x.kind, .int .i64 x.page, .int .i64 x.k] := by
   have h := congrArg (List.take 3) hy
   rw [List.take_take, Nat.min_eq_left (by omega)] at h
   rw [← h]; rfl
 have htl := rd_tail htb hl hy hc
 have htl' : rdS H (.slice (some ⟨tb, if tc = 1 then to' else to' + 1 * 3, none⟩) rest.length (tc - 1)) rest.length (flat ioc rest) 106 3 := htl
 clear htl
 have hgo := hown.one
 have hmt := ne_row hm htb (by decide)
 have hk2 : ((x.kind == 2) && (x.k == 1)) = false := by simp [hk]
 have hgne : got ++ bs ≠ [] := by
   intro h
   have h2 : (got ++ bs).length = 0 := by rw [h]; rfl
   rw [List.length_append] at h2; omega
 refine ht_of_body (args := [.pointer (some ⟨m, 0, none⟩), .int .i64 0, .slice ba bs.length bc]) func28 rfl ?_
 simp only [ntmps28, List.length_cons, List.length_nil, Nat.reduceAdd, Nat.reduceSub, List.replicate_succ, List.replicate_zero, List.cons_append, List.nil_append]
 refine sR ?_
 refine hops_cons rfl (hop_alloc (zl := [.bool false, .int .i64 0, .int .i64 0, .bool false, .int .i64 0, .slice none 0 0, .int .u64 0, .int .u64 0, .int .u64 0, .int .u64 0, .int .u64 0, .int .u64 0, .int .u64 0, .int .u64 0, .int .u64 0, .int .u64 0, .int .u64 0, .int .u64 0]) rfl ?_)
 intro b1 hb1
 have hb1' := hb1
 try simp only [Hp.set_none, Hp.del_none] at hb1'
 have hb1_n : H b1 = none := by first | exact hb1' | exact hb1'.2 | exact hb1'.2.2 | exact hb1'.2.2.2 | exact hb1'.2.2.2.2 | exact hb1'.2.2.2.2.2 | exact hb1'.2.2.2.2.2.2
 have hb1_m : b1 ≠ m := (Hp.ne_of hm hb1_n).symm
 have hb1_tb : b1 ≠ tb := (Hp.ne_of htb hb1_n).symm
 clear hb1'
 try simp only [nfa, Nat.reduceAdd]
 refine hops_nil ?_
 try simp only [nfa, Nat.reduceAdd]
 refine hc_seq ?_
 refine sR ?_
 refine oM ?_
 try simp only [nfa, Nat.reduceAdd]
 refine hops_cons rfl (hop_bin rfl rfl rfl ?_)
 try simp only [nfa, Nat.reduceAdd]
 refine hops_nil ?_
 try simp only [nfa, Nat.reduceAdd]
 refine hc_F rfl (by first | rfl | assumption | (simp; done) | (simp; omega) | (simp [*]; done)) ?_
 refine hc_skip ?_
 try simp only [nfa, Nat.reduceAdd]
 refine sR ?_
 refine oM ?_
 refine oN rfl ?_
 refine oF rfl ?_
 refine hops_cons rfl (hop_load rfl (by (repeat' first | assumption | exact hS | exact Hp.one_get _ _ | refine hT (by first | assumption | exact Ne.symm ‹_›) ?_)) (by first | rfl | assumption | exact mid_get0 rfl | exact mid_get rfl | (simp; done)) ?_)
 try simp only [nfa, Nat.reduceAdd]
 refine hops_cons rfl (hop_indexAddr (i := 0) rfl rfl (by omega) (by omega) ?_)
 simp only [Int.toNat_zero, Nat.zero_mul, Nat.add_zero]
 try simp only [nf, nf2]
 refine hops_cons rfl (hop_loadA rfl (by (repeat' first | assumption | exact hS | exact Hp.one_get _ _ | refine hT (by first | assumption | exact Ne.symm ‹_›) ?_)) (by omega) ?_)
 rw [hx3]
 try simp only [nf, nf2]
 refine hops_cons rfl (hop_alloc (zl := [.int .i64 0, .int .i64 0, .int .i64 0]) rfl ?_)
 intro b2 hb2
 have hb2' := hb2
 try simp only [Hp.set_none, Hp.del_none] at hb2'
 have hb2_n : H b2 = none := by first | exact hb2' | exact hb2'.2 | exact hb2'.2.2 | exact hb2'.2.2.2 | exact hb2'.2.2.2.2 | exact hb2'.2.2.2.2.2 | exact hb2'.2.2.2.2.2.2
 have hb2_b1 : b2 ≠ b1 := by first | exact hb2'.1 | exact hb2'.2.1 | exact hb2'.2.2.1 | exact hb2'.2.2.2.1 | exact hb2'.2.2.2.2.1 | exact hb2'.2.2.2.2.2.1
 have hb2_m : b2 ≠ m := (Hp.ne_of hm hb2_n).symm
 have hb2_tb : b2 ≠ tb := (Hp.ne_of htb hb2_n).symm
 clear hb2'
 try simp only [nfa, Nat.reduceAdd]
 refine hops_cons rfl (hop_storeA rfl rfl (by rfl) (by first | assumption | (repeat' first | (intro _ h; cases h; done) | refine List.forall_mem_cons.2 ⟨by first | rfl | assumption, ?_⟩) | (simp [Value.oneCell']; done) | (simp [Value.oneCell', *]; done)) (by (repeat' first | assumption | exact hS | exact Hp.one_get _ _ | refine hT (by first | assumption | exact Ne.symm ‹_›) ?_)) (by first | assumption | omega | (simp; done) | (simp; omega) | (simp [frc] <;> omega)) (by decide) ?_)
 try simp only [nfa, Nat.reduceAdd]
 refine hops_nil ?_
 try simp only [nfa, Nat.reduceAdd]
 refine sR ?_
 refine oM ?_
 refine oM ?_
 refine oN rfl ?_
 refine oF rfl ?_
 refine hops_cons rfl (hop_load rfl (by (repeat' first | assumption | exact hS | exact Hp.one_get _ _ | refine hT (by first | assumption | exact Ne.symm ‹_›) ?_)) (by first | rfl | assumption | exact mid_get0 rfl | exact mid_get rfl | (simp; done)) ?_)
 try simp only [nfa, Nat.reduceAdd]
 refine hops_cons rfl (hop_sliceS (a := 1) (c := rest.length + 1) rfl (by simp [bd, ev]) (by simp [bd]) (by omega) (by omega) ?_)
 rw [Nat.add_sub_cancel]
 generalize (if tc = 1 then to' else to' + 1 * 3) = to2 at htl' ⊢
 generalize tc - 1 = tc2 at htl' ⊢
 try simp only [nf, nf2]
 refine oN rfl ?_
 refine oF rfl ?_
 refine hops_cons rfl (hop_store rfl rfl (by first | rfl | assumption) (by (repeat' first | assumption | exact hS | exact Hp.one_get _ _ | refine hT (by first | assumption | exact Ne.symm ‹_›) ?_)) (by first | assumption | omega | (simp; done) | (simp; omega) | (simp [frc] <;> omega)) ?_)
 try simp only [nfa, Nat.reduceAdd]
 refine hops_nil ?_
 try simp only [nfa, Nat.reduceAdd]
 refine sR ?_
 refine hops_cons rfl (hop_alloc (zl := [.bool false, .int .i64 0, .int .i64 0, .bool false, .int .i64 0, .slice none 0 0, .int .u64 0, .int .u64 0, .int .u64 0, .int .u64 0, .int .u64 0, .int .u64 0, .int .u64 0, .int .u64 0, .int .u64 0, .int .u64 0, .int .u64 0, .int .u64 0]) rfl ?_)
 intro b3 hb3
 have hb3' := hb3
 try simp only [Hp.set_none, Hp.del_none] at hb3'
 have hb3_n : H b3 = none := by first | exact hb3' | exact hb3'.2 | exact hb3'.2.2 | exact hb3'.2.2.2 | exact hb3'.2.2.2.2 | exact hb3'.2.2.2.2.2 | exact hb3'.2.2.2.2.2.2
 have hb3_b1 : b3 ≠ b1 := by first | exact hb3'.1 | exact hb3'.2.1 | exact hb3'.2.2.1 | exact hb3'.2.2.2.1 | exact hb3'.2.2.2.2.1 | exact hb3'.2.2.2.2.2.1
 have hb3_b2 : b3 ≠ b2 := by first | exact hb3'.1 | exact hb3'.2.1 | exact hb3'.2.2.1 | exact hb3'.2.2.2.1 | exact hb3'.2.2.2.2.1 | exact hb3'.2.2.2.2.2.1
 have hb3_m : b3 ≠ m := (Hp.ne_of hm hb3_n).symm
 have hb3_tb : b3 ≠ tb := (Hp.ne_of htb hb3_n).symm
 clear hb3'
 try simp only [nfa, Nat.reduceAdd]
 refine hops_nil ?_
 try simp only [nfa, Nat.reduceAdd]
 refine hc_seq ?_
 refine hc_block ?_
 refine sR ?_
 refine oF rfl ?_
 refine hops_cons rfl (hop_load rfl (by (repeat' first | assumption | exact hS | exact Hp.one_get _ _ | refine hT (by first | assumption | exact Ne.symm ‹_›) ?_)) (by first | rfl | assumption | exact mid_get0 rfl | exact mid_get rfl | (simp; done)) ?_)
 try simp only [nfa, Nat.reduceAdd]
 refine hops_cons rfl (hop_bin rfl rfl rfl ?_)
 try simp only [nfa, Nat.reduceAdd]
 refine oM ?_
 try simp only [nfa, Nat.reduceAdd]
 first
  | refine hops_off' rfl rfl (by rfl) ?_
  | refine hops_un rfl rfl ?_
  | (refine hops_on' rfl rfl (by rfl) (hop_fieldAddr rfl ?_))
  | (refine hops_gp (v := ?vg4) rfl rfl (fun hgp => ?hv4) ?hh4; case hv4 => ((try simp only [hgp, if_true, ev, List.getD_cons_zero, List.getD_cons_succ]); refine hop_fieldAddr rfl ?_; rfl))
 try simp only [nfa, Nat.reduceAdd]
 first
  | refine hops_off' rfl rfl (by rfl) ?_
  | refine hops_un rfl rfl ?_
  | (refine hops_on' rfl rfl (by rfl) (hop_load rfl (by (repeat' first | assumption | exact hS | exact Hp.one_get _ _ | refine hT (by first | assumption | exact Ne.symm ‹_›) ?_)) (by first | rfl | assumption | exact mid_get0 rfl | exact mid_get rfl | (simp; done)) ?_))
  | (refine hops_gp (v := ?vg5) rfl rfl (fun hgp => ?hv5) ?hh5; case hv5 => ((try simp only [hgp, if_true, ev, List.getD_cons_zero, List.getD_cons_succ]); refine hop_load rfl (by (repeat' first | assumption | exact hS | exact Hp.one_get _ _ | refine hT (by first | assumption | exact Ne.symm ‹_›) ?_)) (by first | rfl | assumption | exact mid_get0 rfl | exact mid_get rfl | (simp; done)) ?_; rfl))
 try simp only [nfa, Nat.reduceAdd]
 first
  | refine hops_off' rfl rfl (by rfl) ?_
  | refine hops_un rfl rfl ?_
  | (refine hops_on' rfl rfl (by rfl) (hop_bin rfl rfl rfl ?_))
  | (refine hops_gp (v := ?vg6) rfl rfl (fun hgp => ?hv6) ?hh6; case hv6 => ((try simp only [hgp, if_true, ev, List.getD_cons_zero, List.getD_cons_succ]); refine hop_bin rfl rfl rfl ?_; rfl))
 try simp only [nfa, Nat.reduceAdd]
 refine hops_cons rfl (hop_pick rfl ?_)
 try simp only [nfa, Nat.reduceAdd]
 refine oA ?_
 try simp only [nfa, Nat.reduceAdd]
 refine hops_nil ?_
 try simp only [nfa, Nat.reduceAdd]
 refine hc_F rfl (by first | rfl | assumption | (simp; done) | (simp; omega) | (simp [*]; done)) ?_
 refine sR ?_
 refine oF rfl ?_
 refine hops_cons rfl (hop_load rfl (by (repeat' first | assumption | exact hS | exact Hp.one_get _ _ | refine hT (by first | assumption | exact Ne.symm ‹_›) ?_)) (by first | rfl | assumption | exact mid_get0 rfl | exact mid_get rfl | (simp; done)) ?_)
 try simp only [nfa, Nat.reduceAdd]
 refine hops_cons rfl (hop_bin rfl rfl rfl ?_)
 try simp only [nfa, Nat.reduceAdd]
 refine oA ?_
 try simp only [nfa, Nat.reduceAdd]
 refine hops_nil ?_
 try simp only [nfa, Nat.reduceAdd]
 refine hc_T rfl (by first | rfl | assumption | (simp; done) | (simp; omega) | (simp [*]; done)) ?_
 refine hc_region ?_
 refine oM ?_
 refine oM ?_
 refine oN rfl ?_
 refine oF rfl ?_
 refine hops_cons rfl (hop_load rfl (by (repeat' first | assumption | exact hS | exact Hp.one_get _ _ | refine hT (by first | assumption | exact Ne.symm ‹_›) ?_)) (by first | rfl | assumption | exact mid_get0 rfl | exact mid_get rfl | (simp; done)) ?_)
 try simp only [nfa, Nat.reduceAdd]
 refine oM ?_
 try simp only [nfa, Nat.reduceAdd]
 refine hops_cons rfl (hop_appendW (H0 := _) (v := gv) (n := got.length) (m := bs.length) (A := got.map byv) (ys := bs.map byv) rfl (by (repeat' first | exact hown | refine OwnS.upd ?_ (by (repeat' first | assumption | exact hS | exact Hp.one_get _ _ | refine hT (by first | assumption | exact Ne.symm ‹_›) ?_)) (by decide) | refine OwnS.new ?_ (by assumption))) (Sub.refl _) (rdS.src (T := 5) (by (repeat' first | exact hbv | refine rdS.upd ?_ (by (repeat' first | assumption | exact hS | exact Hp.one_get _ _ | refine hT (by first | assumption | exact Ne.symm ‹_›) ?_)) (by decide) | refine rdS.new ?_ (by assumption)))) (one_map bs) (by rfl) (by decide) (by omega) (by decide) ?_)
 intro gv2 H2 hg2 hd2
 try simp only [nf, nf2]
 have ho2 := hg2.one
 have hs2 := hd2.trans (Sub.drop H2 gv2)
 have hP2 : PartH H2 p s := PartH.sub (PartH.drop (n := got.length) (sz := 1) (A := got.map byv) (T := 5) (by (repeat' first | assumption | refine PartH.upd ?_ (by (repeat' first | assumption | exact hS | exact Hp.one_get _ _ | refine hT (by first | assumption | exact Ne.symm ‹_›) ?_)) (by exact npOf) | refine PartH.new ?_ (by assumption))) (by (repeat' first | exact hown | refine OwnS.upd ?_ (by (repeat' first | assumption | exact hS | exact Hp.one_get _ _ | refine hT (by first | assumption | exact Ne.symm ‹_›) ?_)) (by decide) | refine OwnS.new ?_ (by assumption)))) hs2
 have htl2 : rdS H2 (.slice (some ⟨tb, to2, none⟩) rest.length tc2) rest.length (flat ioc rest) 106 3 := rdS.sub (rdS.drop (n := got.length) (sz := 1) (A := got.map byv) (t := 5) (by (repeat' first | exact htl' | refine rdS.upd ?_ (by (repeat' first | assumption | exact hS | exact Hp.one_get _ _ | refine hT (by first | assumption | exact Ne.symm ‹_›) ?_)) (by decide) | refine rdS.new ?_ (by assumption))) (by (repeat' first | exact hown | refine OwnS.upd ?_ (by (repeat' first | assumption | exact hS | exact Hp.one_get _ _ | refine hT (by first | assumption | exact Ne.symm ‹_›) ?_)) (by decide) | refine OwnS.new ?_ (by assumption))) (by decide)) hs2
 have hg3 : OwnS H2 gv2 (got ++ bs).length ((got ++ bs).map byv) 5 1 := by rw [List.length_append, List.map_append]; exact hg2
 have H2_b1 := hs2 _ _ (OwnS.drop_get (n := got.length) (sz := 1) (A := got.map byv) (t := 5) (c := b1) (by (repeat' first | exact hown | refine OwnS.upd ?_ (by (repeat' first | assumption | exact hS | exact Hp.one_get _ _ | refine hT (by first | assumption | exact Ne.symm ‹_›) ?_)) (by decide) | refine OwnS.new ?_ (by assumption))) (by (repeat' first | assumption | exact hS | exact Hp.one_get _ _ | refine hT (by first | assumption | exact Ne.symm ‹_›) ?_)) (by decide))
 have H2_b2 := hs2 _ _ (OwnS.drop_get (n := got.length) (sz := 1) (A := got.map byv) (t := 5) (c := b2) (by (repeat' first | exact hown | refine OwnS.upd ?_ (by (repeat' first | assumption | exact hS | exact Hp.one_get _ _ | refine hT (by first | assumption | exact Ne.symm ‹_›) ?_)) (by decide) | refine OwnS.new ?_ (by assumption))) (by (repeat' first | assumption | exact hS | exact Hp.one_get _ _ | refine hT (by first | assumption | exact Ne.symm ‹_›) ?_)) (by decide))
 have H2_b3 := hs2 _ _ (OwnS.drop_get (n := got.length) (sz := 1) (A := got.map byv) (t := 5) (c := b3) (by (repeat' first | exact hown | refine OwnS.upd ?_ (by (repeat' first | assumption | exact hS | exact Hp.one_get _ _ | refine hT (by first | assumption | exact Ne.symm ‹_›) ?_)) (by decide) | refine OwnS.new ?_ (by assumption))) (by (repeat' first | assumption | exact hS | exact Hp.one_get _ _ | refine hT (by first | assumption | exact Ne.symm ‹_›) ?_)) (by decide))
 have H2_m := hs2 _ _ (OwnS.drop_get (n := got.length) (sz := 1) (A := got.map byv) (t := 5) (c := m) (by (repeat' first | exact hown | refine OwnS.upd ?_ (by (repeat' first | assumption | exact hS | exact Hp.one_get _ _ | refine hT (by first | assumption | exact Ne.symm ‹_›) ?_)) (by decide) | refine OwnS.new ?_ (by assumption))) (by (repeat' first | assumption | exact hS | exact Hp.one_get _ _ | refine hT (by first | assumption | exact Ne.symm ‹_›) ?_)) (by decide))
 refine oN rfl ?_
 refine oF rfl ?_
 refine hops_cons rfl (hop_store rfl rfl (by first | rfl | assumption) (by (repeat' first | assumption | exact hS | exact Hp.one_get _ _ | refine hT (by first | assumption | exact Ne.symm ‹_›) ?_)) (by first | assumption | omega | (simp; done) | (simp; omega) | (simp [frc] <;> omega)) ?_)
 try simp only [nfa, Nat.reduceAdd]
 refine hops_nil ?_
 try simp only [nfa, Nat.reduceAdd]
 refine hc_seq ?_
 refine sR ?_
 refine oM ?_
 refine hops_cons rfl (hop_call ?_)
 simp only [nfa, Nat.reduceAdd]
 refine HT.mono (machine_Busy (by (repeat' first | assumption | exact hS | exact Hp.one_get _ _ | refine hT (by first | assumption | exact Ne.symm ‹_›) ?_)) rfl) ?_
 rintro _ _ ⟨rfl, rfl⟩
 try simp only [nfa, Nat.reduceAdd]
 refine hops_nil ?_
 try simp only [nfa, Nat.reduceAdd]
 refine hc_T rfl (by first | rfl | assumption | (simp; done) | (simp; omega) | (simp [*]; done)) ?_
 refine sR ?_
 refine hops_cons rfl (hop_loadA rfl (by (repeat' first | assumption | exact hS | exact Hp.one_get _ _ | refine hT (by first | assumption | exact Ne.symm ‹_›) ?_)) (by first | assumption | omega | (simp; done) | (simp; omega) | (simp [frc] <;> omega)) ?_)
 try simp only [nfa, Nat.reduceAdd]
 refine hops_cons rfl (hop_storeA rfl rfl (by rfl) (by first | assumption | (repeat' first | (intro _ h; cases h; done) | refine List.forall_mem_cons.2 ⟨by first | rfl | assumption, ?_⟩) | (simp [Value.oneCell']; done) | (simp [Value.oneCell', *]; done)) (by (repeat' first | assumption | exact hS | exact Hp.one_get _ _ | refine hT (by first | assumption | exact Ne.symm ‹_›) ?_)) (by first | assumption | omega | (simp; done) | (simp; omega) | (simp [frc] <;> omega)) (by decide) ?_)
 try simp only [nfa, Nat.reduceAdd]
 refine hops_nil ?_
 try simp only [nfa, Nat.reduceAdd]
 refine hc_ret ?_
 try simp only [hng, hthen, hblock]
 apply hend_1 rfl ?es (RV.cellW rfl (by (repeat' first | assumption | exact hS | exact Hp.one_get _ _ | refine hT (by first | assumption | exact Ne.symm ‹_›) ?_)) (by simp)) ?eR
 case es => exact Sub.refl _
 case eR =>
  refine ⟨rfl, _, gv2, by (repeat' first | assumption | exact hS | exact Hp.one_get _ _ | refine hT (by first | assumption | exact Ne.symm ‹_›) ?_), by (repeat' first | exact htl2 | refine rdS.upd ?_ (by (repeat' first | assumption | exact hS | exact Hp.one_get _ _ | refine hT (by first | assumption | exact Ne.symm ‹_›) ?_)) (by decide) | refine rdS.new ?_ (by assumption)), by (repeat' first | exact hg3 | refine OwnS.upd ?_ (by (repeat' first | assumption | exact hS | exact Hp.one_get _ _ | refine hT (by first | assumption | exact Ne.symm ‹_›) ?_)) (by decide) | refine OwnS.new ?_ (by assumption)), fun h => absurd h hgne, by (repeat' first | assumption | refine PartH.upd ?_ (by (repeat' first | assumption | exact hS | exact Hp.one_get _ _ | refine hT (by first | assumption | exact Ne.symm ‹_›) ?_)) (by exact npOf) | refine PartH.new ?_ (by assumption))⟩
theorem End_final {H : Hp} {m p : Nat} {op pg : Int} {tv gv : Value} {s : Pt} {i : Nat} (hm : H m = some (row [.pointer (some ⟨p, 0, none⟩), .int .i64 op, .int .i64 pg, tv, .int .i64 (i : Int), gv] 86)) (hP : PartH H p s) {x : Io} {rest : List Io} {got bs : List UInt8} (hrd : rdS H tv (rest.length + 1) (flat ioc (x :: rest)) 106 3) (hown : OwnS H gv got.length (got.map byv) 5 1) {ba : Option Addr} {bc : Nat} (hbv : dOkU H (.slice ba bs.length bc) bs) (hgl : got.length ≤ 16) (hbl : bs.length = 16) (hk : x.kind = 1) (hr : rest = []) (ho : op = 1) {f : Fr} (hi : s.fr[i]? = some f) (hz : f.used = false) (hnf : findPage s.fr pg = none) (hgf : (got ++ bs).length = 32) :
    HT prog 28 #[.pointer (some ⟨m, 0, none⟩), .int .i64 0, .slice ba bs.length bc] H (fun v H' => v = .agg #[.bool true, .int .i64 0, .int .i64 0, .bool false, .int .i64 0, .slice none 0 0, .int .u64 0, .int .u64 0, .int .u64 0, .int .u64 0, .int .u64 0, .int .u64 0, .int .u64 0, .int .u64 0, .int .u64 0, .int .u64 0, .int .u64 0, .int .u64 0] ∧ H' m = some (row [.pointer (some ⟨p, 0, none⟩), .int .i64 0, .int .i64 0, .slice none 0 0, .int .i64 0, .slice none 0 0] 86) ∧ PartH H' p ((s.with i ⟨true, false, false, 0, pg, got ++ bs⟩).pin pg).2) := by
 obtain ⟨tb, to', tc, L, rfl, htb, hl, hy, hc⟩ := hrd.pos (by omega)
 have hx3 : (L.drop to').take 3 = [.int .i64 x.kind, .int .i64 x.page, .int .i64 x.k] := by
   have h := congrArg (List.take 3) hy
   rw [List.take_take, Nat.min_eq_left (by omega)] at h
   rw [← h]; rfl
 have htl := rd_tail htb hl hy hc
 have htl' : rdS H (.slice (some ⟨tb, if tc = 1 then to' else to' + 1 * 3, none⟩) rest.length (tc - 1)) rest.length (flat ioc rest) 106 3 := htl
 clear htl
 have hgo := hown.one
 have hmt := ne_row hm htb (by decide)
 have hk2 : ((x.kind == 2) && (x.k == 1)) = false := by simp [hk]
 have hgne : got ++ bs ≠ [] := by
   intro h
   have h2 : (got ++ bs).length = 0 := by rw [h]; rfl
   rw [List.length_append] at h2; omega
 refine ht_of_body (args := [.pointer (some ⟨m, 0, none⟩), .int .i64 0, .slice ba bs.length bc]) func28 rfl ?_
 simp only [ntmps28, List.length_cons, List.length_nil, Nat.reduceAdd, Nat.reduceSub, List.replicate_succ, List.replicate_zero, List.cons_append, List.nil_append]
 refine sR ?_
 refine hops_cons rfl (hop_alloc (zl := [.bool false, .int .i64 0, .int .i64 0, .bool false, .int .i64 0, .slice none 0 0, .int .u64 0, .int .u64 0, .int .u64 0, .int .u64 0, .int .u64 0, .int .u64 0, .int .u64 0, .int .u64 0, .int .u64 0, .int .u64 0, .int .u64 0, .int .u64 0]) rfl ?_)
 intro b1 hb1
 have hb1' := hb1
 try simp only [Hp.set_none, Hp.del_none] at hb1'
 have hb1_n : H b1 = none := by first | exact hb1' | exact hb1'.2 | exact hb1'.2.2 | exact hb1'.2.2.2 | exact hb1'.2.2.2.2 | exact hb1'.2.2.2.2.2 | exact hb1'.2.2.2.2.2.2
 have hb1_m : b1 ≠ m := (Hp.ne_of hm hb1_n).symm
 have hb1_tb : b1 ≠ tb := (Hp.ne_of htb hb1_n).symm
 clear hb1'
 try simp only [nfa, Nat.reduceAdd]
 refine hops_nil ?_
 try simp only [nfa, Nat.reduceAdd]
 refine hc_seq ?_
 refine sR ?_
 refine oM ?_
 try simp only [nfa, Nat.reduceAdd]
 refine hops_cons rfl (hop_bin rfl rfl rfl ?_)
 try simp only [nfa, Nat.reduceAdd]
 refine hops_nil ?_
 try simp only [nfa, Nat.reduceAdd]
 refine hc_F rfl (by first | rfl | assumption | (simp; done) | (simp; omega) | (simp [*]; done)) ?_
 refine hc_skip ?_
 try simp only [nfa, Nat.reduceAdd]
 refine sR ?_
 refine oM ?_
 refine oN rfl ?_
 refine oF rfl ?_
 refine hops_cons rfl (hop_load rfl (by (repeat' first | assumption | exact hS | exact Hp.one_get _ _ | refine hT (by first | assumption | exact Ne.symm ‹_›) ?_)) (by first | rfl | assumption | exact mid_get0 rfl | exact mid_get rfl | (simp; done)) ?_)
 try simp only [nfa, Nat.reduceAdd]
 refine hops_cons rfl (hop_indexAddr (i := 0) rfl rfl (by omega) (by omega) ?_)
 simp only [Int.toNat_zero, Nat.zero_mul, Nat.add_zero]
 try simp only [nf, nf2]
 refine hops_cons rfl (hop_loadA rfl (by (repeat' first | assumption | exact hS | exact Hp.one_get _ _ | refine hT (by first | assumption | exact Ne.symm ‹_›) ?_)) (by omega) ?_)
 rw [hx3]
 try simp only [nf, nf2]
 refine hops_cons rfl (hop_alloc (zl := [.int .i64 0, .int .i64 0, .int .i64 0]) rfl ?_)
 intro b2 hb2
 have hb2' := hb2
 try simp only [Hp.set_none, Hp.del_none] at hb2'
 have hb2_n : H b2 = none := by first | exact hb2' | exact hb2'.2 | exact hb2'.2.2 | exact hb2'.2.2.2 | exact hb2'.2.2.2.2 | exact hb2'.2.2.2.2.2 | exact hb2'.2.2.2.2.2.2
 have hb2_b1 : b2 ≠ b1 := by first | exact hb2'.1 | exact hb2'.2.1 | exact hb2'.2.2.1 | exact hb2'.2.2.2.1 | exact hb2'.2.2.2.2.1 | exact hb2'.2.2.2.2.2.1
 have hb2_m : b2 ≠ m := (Hp.ne_of hm hb2_n).symm
 have hb2_tb : b2 ≠ tb := (Hp.ne_of htb hb2_n).symm
 clear hb2'
 try simp only [nfa, Nat.reduceAdd]
 refine hops_cons rfl (hop_storeA rfl rfl (by rfl) (by first | assumption | (repeat' first | (intro _ h; cases h; done) | refine List.forall_mem_cons.2 ⟨by first | rfl | assumption, ?_⟩) | (simp [Value.oneCell']; done) | (simp [Value.oneCell', *]; done)) (by (repeat' first | assumption | exact hS | exact Hp.one_get _ _ | refine hT (by first | assumption | exact Ne.symm ‹_›) ?_)) (by first | assumption | omega | (simp; done) | (simp; omega) | (simp [frc] <;> omega)) (by decide) ?_)
 try simp only [nfa, Nat.reduceAdd]
 refine hops_nil ?_
 try simp only [nfa, Nat.reduceAdd]
 refine sR ?_
 refine oM ?_
 refine oM ?_
 refine oN rfl ?_
 refine oF rfl ?_
 refine hops_cons rfl (hop_load rfl (by (repeat' first | assumption | exact hS | exact Hp.one_get _ _ | refine hT (by first | assumption | exact Ne.symm ‹_›) ?_)) (by first | rfl | assumption | exact mid_get0 rfl | exact mid_get rfl | (simp; done)) ?_)
 try simp only [nfa, Nat.reduceAdd]
 refine hops_cons rfl (hop_sliceS (a := 1) (c := rest.length + 1) rfl (by simp [bd, ev]) (by simp [bd]) (by omega) (by omega) ?_)
 rw [Nat.add_sub_cancel]
 generalize (if tc = 1 then to' else to' + 1 * 3) = to2 at htl' ⊢
 generalize tc - 1 = tc2 at htl' ⊢
 try simp only [nf, nf2]
 refine oN rfl ?_
 refine oF rfl ?_
 refine hops_cons rfl (hop_store rfl rfl (by first | rfl | assumption) (by (repeat' first | assumption | exact hS | exact Hp.one_get _ _ | refine hT (by first | assumption | exact Ne.symm ‹_›) ?_)) (by first | assumption | omega | (simp; done) | (simp; omega) | (simp [frc] <;> omega)) ?_)
 try simp only [nfa, Nat.reduceAdd]
 refine hops_nil ?_
 try simp only [nfa, Nat.reduceAdd]
 refine sR ?_
 refine hops_cons rfl (hop_alloc (zl := [.bool false, .int .i64 0, .int .i64 0, .bool false, .int .i64 0, .slice none 0 0, .int .u64 0, .int .u64 0, .int .u64 0, .int .u64 0, .int .u64 0, .int .u64 0, .int .u64 0, .int .u64 0, .int .u64 0, .int .u64 0, .int .u64 0, .int .u64 0]) rfl ?_)
 intro b3 hb3
 have hb3' := hb3
 try simp only [Hp.set_none, Hp.del_none] at hb3'
 have hb3_n : H b3 = none := by first | exact hb3' | exact hb3'.2 | exact hb3'.2.2 | exact hb3'.2.2.2 | exact hb3'.2.2.2.2 | exact hb3'.2.2.2.2.2 | exact hb3'.2.2.2.2.2.2
 have hb3_b1 : b3 ≠ b1 := by first | exact hb3'.1 | exact hb3'.2.1 | exact hb3'.2.2.1 | exact hb3'.2.2.2.1 | exact hb3'.2.2.2.2.1 | exact hb3'.2.2.2.2.2.1
 have hb3_b2 : b3 ≠ b2 := by first | exact hb3'.1 | exact hb3'.2.1 | exact hb3'.2.2.1 | exact hb3'.2.2.2.1 | exact hb3'.2.2.2.2.1 | exact hb3'.2.2.2.2.2.1
 have hb3_m : b3 ≠ m := (Hp.ne_of hm hb3_n).symm
 have hb3_tb : b3 ≠ tb := (Hp.ne_of htb hb3_n).symm
 clear hb3'
 try simp only [nfa, Nat.reduceAdd]
 refine hops_nil ?_
 try simp only [nfa, Nat.reduceAdd]
 refine hc_seq ?_
 refine hc_block ?_
 refine sR ?_
 refine oF rfl ?_
 refine hops_cons rfl (hop_load rfl (by (repeat' first | assumption | exact hS | exact Hp.one_get _ _ | refine hT (by first | assumption | exact Ne.symm ‹_›) ?_)) (by first | rfl | assumption | exact mid_get0 rfl | exact mid_get rfl | (simp; done)) ?_)
 try simp only [nfa, Nat.reduceAdd]
 refine hops_cons rfl (hop_bin rfl rfl rfl ?_)
 try simp only [nfa, Nat.reduceAdd]
 refine oM ?_
 try simp only [nfa, Nat.reduceAdd]
 first
  | refine hops_off' rfl rfl (by rfl) ?_
  | refine hops_un rfl rfl ?_
  | (refine hops_on' rfl rfl (by rfl) (hop_fieldAddr rfl ?_))
  | (refine hops_gp (v := ?vg4) rfl rfl (fun hgp => ?hv4) ?hh4; case hv4 => ((try simp only [hgp, if_true, ev, List.getD_cons_zero, List.getD_cons_succ]); refine hop_fieldAddr rfl ?_; rfl))
 try simp only [nfa, Nat.reduceAdd]
 first
  | refine hops_off' rfl rfl (by rfl) ?_
  | refine hops_un rfl rfl ?_
  | (refine hops_on' rfl rfl (by rfl) (hop_load rfl (by (repeat' first | assumption | exact hS | exact Hp.one_get _ _ | refine hT (by first | assumption | exact Ne.symm ‹_›) ?_)) (by first | rfl | assumption | exact mid_get0 rfl | exact mid_get rfl | (simp; done)) ?_))
  | (refine hops_gp (v := ?vg5) rfl rfl (fun hgp => ?hv5) ?hh5; case hv5 => ((try simp only [hgp, if_true, ev, List.getD_cons_zero, List.getD_cons_succ]); refine hop_load rfl (by (repeat' first | assumption | exact hS | exact Hp.one_get _ _ | refine hT (by first | assumption | exact Ne.symm ‹_›) ?_)) (by first | rfl | assumption | exact mid_get0 rfl | exact mid_get rfl | (simp; done)) ?_; rfl))
 try simp only [nfa, Nat.reduceAdd]
 first
  | refine hops_off' rfl rfl (by rfl) ?_
  | refine hops_un rfl rfl ?_
  | (refine hops_on' rfl rfl (by rfl) (hop_bin rfl rfl rfl ?_))
  | (refine hops_gp (v := ?vg6) rfl rfl (fun hgp => ?hv6) ?hh6; case hv6 => ((try simp only [hgp, if_true, ev, List.getD_cons_zero, List.getD_cons_succ]); refine hop_bin rfl rfl rfl ?_; rfl))
 try simp only [nfa, Nat.reduceAdd]
 refine hops_cons rfl (hop_pick rfl ?_)
 try simp only [nfa, Nat.reduceAdd]
 refine oA ?_
 try simp only [nfa, Nat.reduceAdd]
 refine hops_nil ?_
 try simp only [nfa, Nat.reduceAdd]
 refine hc_F rfl (by first | rfl | assumption | (simp; done) | (simp; omega) | (simp [*]; done)) ?_
 refine sR ?_
 refine oF rfl ?_
 refine hops_cons rfl (hop_load rfl (by (repeat' first | assumption | exact hS | exact Hp.one_get _ _ | refine hT (by first | assumption | exact Ne.symm ‹_›) ?_)) (by first | rfl | assumption | exact mid_get0 rfl | exact mid_get rfl | (simp; done)) ?_)
 try simp only [nfa, Nat.reduceAdd]
 refine hops_cons rfl (hop_bin rfl rfl rfl ?_)
 try simp only [nfa, Nat.reduceAdd]
 refine oA ?_
 try simp only [nfa, Nat.reduceAdd]
 refine hops_nil ?_
 try simp only [nfa, Nat.reduceAdd]
 refine hc_T rfl (by first | rfl | assumption | (simp; done) | (simp; omega) | (simp [*]; done)) ?_
 refine hc_region ?_
 refine oM ?_
 refine oM ?_
 refine oN rfl ?_
 refine oF rfl ?_
 refine hops_cons rfl (hop_load rfl (by (repeat' first | assumption | exact hS | exact Hp.one_get _ _ | refine hT (by first | assumption | exact Ne.symm ‹_›) ?_)) (by first | rfl | assumption | exact mid_get0 rfl | exact mid_get rfl | (simp; done)) ?_)
 try simp only [nfa, Nat.reduceAdd]
 refine oM ?_
 try simp only [nfa, Nat.reduceAdd]
 refine hops_cons rfl (hop_appendW (H0 := _) (v := gv) (n := got.length) (m := bs.length) (A := got.map byv) (ys := bs.map byv) rfl (by (repeat' first | exact hown | refine OwnS.upd ?_ (by (repeat' first | assumption | exact hS | exact Hp.one_get _ _ | refine hT (by first | assumption | exact Ne.symm ‹_›) ?_)) (by decide) | refine OwnS.new ?_ (by assumption))) (Sub.refl _) (rdS.src (T := 5) (by (repeat' first | exact hbv | refine rdS.upd ?_ (by (repeat' first | assumption | exact hS | exact Hp.one_get _ _ | refine hT (by first | assumption | exact Ne.symm ‹_›) ?_)) (by decide) | refine rdS.new ?_ (by assumption)))) (one_map bs) (by rfl) (by decide) (by omega) (by decide) ?_)
 intro gv2 H2 hg2 hd2
 try simp only [nf, nf2]
 have ho2 := hg2.one
 have hs2 := hd2.trans (Sub.drop H2 gv2)
 have hP2 : PartH H2 p s := PartH.sub (PartH.drop (n := got.length) (sz := 1) (A := got.map byv) (T := 5) (by (repeat' first | assumption | refine PartH.upd ?_ (by (repeat' first | assumption | exact hS | exact Hp.one_get _ _ | refine hT (by first | assumption | exact Ne.symm ‹_›) ?_)) (by exact npOf) | refine PartH.new ?_ (by assumption))) (by (repeat' first | exact hown | refine OwnS.upd ?_ (by (repeat' first | assumption | exact hS | exact Hp.one_get _ _ | refine hT (by first | assumption | exact Ne.symm ‹_›) ?_)) (by decide) | refine OwnS.new ?_ (by assumption)))) hs2
 have htl2 : rdS H2 (.slice (some ⟨tb, to2, none⟩) rest.length tc2) rest.length (flat ioc rest) 106 3 := rdS.sub (rdS.drop (n := got.length) (sz := 1) (A := got.map byv) (t := 5) (by (repeat' first | exact htl' | refine rdS.upd ?_ (by (repeat' first | assumption | exact hS | exact Hp.one_get _ _ | refine hT (by first | assumption | exact Ne.symm ‹_›) ?_)) (by decide) | refine rdS.new ?_ (by assumption))) (by (repeat' first | exact hown | refine OwnS.upd ?_ (by (repeat' first | assumption | exact hS | exact Hp.one_get _ _ | refine hT (by first | assumption | exact Ne.symm ‹_›) ?_)) (by decide) | refine OwnS.new ?_ (by assumption))) (by decide)) hs2
 have hg3 : OwnS H2 gv2 (got ++ bs).length ((got ++ bs).map byv) 5 1 := by rw [List.length_append, List.map_append]; exact hg2
 have H2_b1 := hs2 _ _ (OwnS.drop_get (n := got.length) (sz := 1) (A := got.map byv) (t := 5) (c := b1) (by (repeat' first | exact hown | refine OwnS.upd ?_ (by (repeat' first | assumption | exact hS | exact Hp.one_get _ _ | refine hT (by first | assumption | exact Ne.symm ‹_›) ?_)) (by decide) | refine OwnS.new ?_ (by assumption))) (by (repeat' first | assumption | exact hS | exact Hp.one_get _ _ | refine hT (by first | assumption | exact Ne.symm ‹_›) ?_)) (by decide))
 have H2_b2 := hs2 _ _ (OwnS.drop_get (n := got.length) (sz := 1) (A := got.map byv) (t := 5) (c := b2) (by (repeat' first | exact hown | refine OwnS.upd ?_ (by (repeat' first | assumption | exact hS | exact Hp.one_get _ _ | refine hT (by first | assumption | exact Ne.symm ‹_›) ?_)) (by decide) | refine OwnS.new ?_ (by assumption))) (by (repeat' first | assumption | exact hS | exact Hp.one_get _ _ | refine hT (by first | assumption | exact Ne.symm ‹_›) ?_)) (by decide))
 have H2_b3 := hs2 _ _ (OwnS.drop_get (n := got.length) (sz := 1) (A := got.map byv) (t := 5) (c := b3) (by (repeat' first | exact hown | refine OwnS.upd ?_ (by (repeat' first | assumption | exact hS | exact Hp.one_get _ _ | refine hT (by first | assumption | exact Ne.symm ‹_›) ?_)) (by decide) | refine OwnS.new ?_ (by assumption))) (by (repeat' first | assumption | exact hS | exact Hp.one_get _ _ | refine hT (by first | assumption | exact Ne.symm ‹_›) ?_)) (by decide))
 have H2_m := hs2 _ _ (OwnS.drop_get (n := got.length) (sz := 1) (A := got.map byv) (t := 5) (c := m) (by (repeat' first | exact hown | refine OwnS.upd ?_ (by (repeat' first | assumption | exact hS | exact Hp.one_get _ _ | refine hT (by first | assumption | exact Ne.symm ‹_›) ?_)) (by decide) | refine OwnS.new ?_ (by assumption))) (by (repeat' first | assumption | exact hS | exact Hp.one_get _ _ | refine hT (by first | assumption | exact Ne.symm ‹_›) ?_)) (by decide))
 refine oN rfl ?_
 refine oF rfl ?_
 refine hops_cons rfl (hop_store rfl rfl (by first | rfl | assumption) (by (repeat' first | assumption | exact hS | exact Hp.one_get _ _ | refine hT (by first | assumption | exact Ne.symm ‹_›) ?_)) (by first | assumption | omega | (simp; done) | (simp; omega) | (simp [frc] <;> omega)) ?_)
 try simp only [nfa, Nat.reduceAdd]
 refine hops_nil ?_
 try simp only [nfa, Nat.reduceAdd]
 refine hc_seq ?_
 refine sR ?_
 refine oM ?_
 refine hops_cons rfl (hop_call ?_)
 simp only [nfa, Nat.reduceAdd]
 refine HT.mono (machine_Busy (by (repeat' first | assumption | exact hS | exact Hp.one_get _ _ | refine hT (by first | assumption | exact Ne.symm ‹_›) ?_)) rfl) ?_
 rintro _ _ ⟨rfl, rfl⟩
 try simp only [nfa, Nat.reduceAdd]
 refine hops_nil ?_
 try simp only [nfa, Nat.reduceAdd]
 refine hc_F rfl (by first | rfl | assumption | (simp; done) | (simp; omega) | (simp [*]; done)) ?_
 refine hc_skip ?_
 try simp only [nfa, Nat.reduceAdd]
 refine hc_seq ?_
 refine sR ?_
 refine oM ?_
 refine oN rfl ?_
 refine oF rfl ?_
 refine hops_cons rfl (hop_load rfl (by (repeat' first | assumption | exact hS | exact Hp.one_get _ _ | refine hT (by first | assumption | exact Ne.symm ‹_›) ?_)) (by first | rfl | assumption | exact mid_get0 rfl | exact mid_get rfl | (simp; done)) ?_)
 try simp only [nfa, Nat.reduceAdd]
 refine hops_cons rfl (hop_bin rfl rfl rfl ?_)
 try simp only [nfa, Nat.reduceAdd]
 refine hops_nil ?_
 try simp only [nfa, Nat.reduceAdd]
 refine hc_T rfl (by first | rfl | assumption | (simp; done) | (simp; omega) | (simp [*]; done)) ?_
 refine hc_seq ?_
 refine hc_drawP follows (by intros; simp [hng, hthen, hblock, hend]) ?_
 refine dT 0 rfl (by decide +kernel) rfl (by first | exact flt_sub _ | exact PFr.flt (by assumption) | exact Sub.trans (flt_sub _) (by first | ((repeat' first | assumption | exact Sub.refl _ | refine Sub.over ?_ ‹_› _); done) | (intro _ _ h; simp only [Hp.set] at h ⊢; grind))) (hop_move ?_)
 try simp only [nfa, Nat.reduceAdd]
 refine dT 1 rfl (by decide +kernel) rfl (by first | exact flt_sub _ | exact PFr.flt (by assumption) | exact Sub.trans (flt_sub _) (by first | ((repeat' first | assumption | exact Sub.refl _ | refine Sub.over ?_ ‹_› _); done) | (intro _ _ h; simp only [Hp.set] at h ⊢; grind))) (hop_nilCheck rfl ?_)
 try simp only [nfa, Nat.reduceAdd]
 refine dT 2 rfl (by decide +kernel) rfl (by first | exact flt_sub _ | exact PFr.flt (by assumption) | exact Sub.trans (flt_sub _) (by first | ((repeat' first | assumption | exact Sub.refl _ | refine Sub.over ?_ ‹_› _); done) | (intro _ _ h; simp only [Hp.set] at h ⊢; grind))) (hop_fieldAddr rfl ?_)
 try simp only [nfa, Nat.reduceAdd]
 refine dT 3 rfl (by decide +kernel) rfl (by first | exact flt_sub _ | exact PFr.flt (by assumption) | exact Sub.trans (flt_sub _) (by first | ((repeat' first | assumption | exact Sub.refl _ | refine Sub.over ?_ ‹_› _); done) | (intro _ _ h; simp only [Hp.set] at h ⊢; grind))) (hop_load rfl (by refine hFl (by (repeat' first | assumption | exact hS | exact Hp.one_get _ _ | refine hT (by first | assumption | exact Ne.symm ‹_›) ?_)) ?_; exact npOf) (by first | rfl | assumption | exact mid_get0 rfl | exact mid_get rfl | (simp; done)) ?_)
 try simp only [nfa, Nat.reduceAdd]
 refine dT 4 rfl (by decide +kernel) rfl (by first | exact flt_sub _ | exact PFr.flt (by assumption) | exact Sub.trans (flt_sub _) (by first | ((repeat' first | assumption | exact Sub.refl _ | refine Sub.over ?_ ‹_› _); done) | (intro _ _ h; simp only [Hp.set] at h ⊢; grind))) (hop_move ?_)
 try simp only [nfa, Nat.reduceAdd]
 refine dT 5 rfl (by decide +kernel) rfl (by first | exact flt_sub _ | exact PFr.flt (by assumption) | exact Sub.trans (flt_sub _) (by first | ((repeat' first | assumption | exact Sub.refl _ | refine Sub.over ?_ ‹_› _); done) | (intro _ _ h; simp only [Hp.set] at h ⊢; grind))) (hop_nilCheck rfl ?_)
 try simp only [nfa, Nat.reduceAdd]
 refine dT 6 rfl (by decide +kernel) rfl (by first | exact flt_sub _ | exact PFr.flt (by assumption) | exact Sub.trans (flt_sub _) (by first | ((repeat' first | assumption | exact Sub.refl _ | refine Sub.over ?_ ‹_› _); done) | (intro _ _ h; simp only [Hp.set] at h ⊢; grind))) (hop_fieldAddr rfl ?_)
 try simp only [nfa, Nat.reduceAdd]
 refine dT 7 rfl (by decide +kernel) rfl (by first | exact flt_sub _ | exact PFr.flt (by assumption) | exact Sub.trans (flt_sub _) (by first | ((repeat' first | assumption | exact Sub.refl _ | refine Sub.over ?_ ‹_› _); done) | (intro _ _ h; simp only [Hp.set] at h ⊢; grind))) (hop_load rfl (by refine hFl (by (repeat' first | assumption | exact hS | exact Hp.one_get _ _ | refine hT (by first | assumption | exact Ne.symm ‹_›) ?_)) ?_; exact npOf) (by first | rfl | assumption | exact mid_get0 rfl | exact mid_get rfl | (simp; done)) ?_)
 try simp only [nfa, Nat.reduceAdd]
 refine dT 8 rfl (by decide +kernel) rfl (by first | exact flt_sub _ | exact PFr.flt (by assumption) | exact Sub.trans (flt_sub _) (by first | ((repeat' first | assumption | exact Sub.refl _ | refine Sub.over ?_ ‹_› _); done) | (intro _ _ h; simp only [Hp.set] at h ⊢; grind))) (hop_move ?_)
 try simp only [nfa, Nat.reduceAdd]
 refine dT 9 rfl (by decide +kernel) rfl (by first | exact flt_sub _ | exact PFr.flt (by assumption) | exact Sub.trans (flt_sub _) (by first | ((repeat' first | assumption | exact Sub.refl _ | refine Sub.over ?_ ‹_› _); done) | (intro _ _ h; simp only [Hp.set] at h ⊢; grind))) (hop_nilCheck rfl ?_)
 try simp only [nfa, Nat.reduceAdd]
 refine dT 10 rfl (by decide +kernel) rfl (by first | exact flt_sub _ | exact PFr.flt (by assumption) | exact Sub.trans (flt_sub _) (by first | ((repeat' first | assumption | exact Sub.refl _ | refine Sub.over ?_ ‹_› _); done) | (intro _ _ h; simp only [Hp.set] at h ⊢; grind))) (hop_fieldAddr rfl ?_)
 try simp only [nfa, Nat.reduceAdd]
 refine dT 11 rfl (by decide +kernel) rfl (by first | exact flt_sub _ | exact PFr.flt (by assumption) | exact Sub.trans (flt_sub _) (by first | ((repeat' first | assumption | exact Sub.refl _ | refine Sub.over ?_ ‹_› _); done) | (intro _ _ h; simp only [Hp.set] at h ⊢; grind))) (hop_load rfl (by refine hFl (by (repeat' first | assumption | exact hS | exact Hp.one_get _ _ | refine hT (by first | assumption | exact Ne.symm ‹_›) ?_)) ?_; exact npOf) (by first | rfl | assumption | exact mid_get0 rfl | exact mid_get rfl | (simp; done)) ?_)
 try simp only [nfa, Nat.reduceAdd]
 refine dT 12 rfl (by decide +kernel) rfl (by first | exact flt_sub _ | exact PFr.flt (by assumption) | exact Sub.trans (flt_sub _) (by first | ((repeat' first | assumption | exact Sub.refl _ | refine Sub.over ?_ ‹_› _); done) | (intro _ _ h; simp only [Hp.set] at h ⊢; grind))) (hop_move ?_)
 try simp only [nfa, Nat.reduceAdd]
 refine dT 13 rfl (by decide +kernel) rfl (by first | exact flt_sub _ | exact PFr.flt (by assumption) | exact Sub.trans (flt_sub _) (by first | ((repeat' first | assumption | exact Sub.refl _ | refine Sub.over ?_ ‹_› _); done) | (intro _ _ h; simp only [Hp.set] at h ⊢; grind))) (hop_nilCheck rfl ?_)
 try simp only [nfa, Nat.reduceAdd]
 refine dT 14 rfl (by decide +kernel) rfl (by first | exact flt_sub _ | exact PFr.flt (by assumption) | exact Sub.trans (flt_sub _) (by first | ((repeat' first | assumption | exact Sub.refl _ | refine Sub.over ?_ ‹_› _); done) | (intro _ _ h; simp only [Hp.set] at h ⊢; grind))) (hop_fieldAddr rfl ?_)
 try simp only [nfa, Nat.reduceAdd]
 refine dT 15 rfl (by decide +kernel) rfl (by first | exact flt_sub _ | exact PFr.flt (by assumption) | exact Sub.trans (flt_sub _) (by first | ((repeat' first | assumption | exact Sub.refl _ | refine Sub.over ?_ ‹_› _); done) | (intro _ _ h; simp only [Hp.set] at h ⊢; grind))) (hop_load rfl (by refine hFl (by (repeat' first | assumption | exact hS | exact Hp.one_get _ _ | refine hT (by first | assumption | exact Ne.symm ‹_›) ?_)) ?_; exact npOf) (by first | rfl | assumption | exact mid_get0 rfl | exact mid_get rfl | (simp; done)) ?_)
 try simp only [nfa, Nat.reduceAdd]
 refine hD_do 16 rfl (by decide +kernel) rfl (hop_call ?_)
 simp only [nfa, Nat.reduceAdd]
 refine HT.mono (ph_Load (s := s) (by (repeat' first | assumption | refine PartH.upd ?_ (by (repeat' first | assumption | exact hS | exact Hp.one_get _ _ | refine hT (by first | assumption | exact Ne.symm ‹_›) ?_)) (by exact npOf) | refine PartH.new ?_ (by assumption))) hi hz hnf hgf (OwnS.rd (by (repeat' first | exact hg3 | refine OwnS.upd ?_ (by (repeat' first | assumption | exact hS | exact Hp.one_get _ _ | refine hT (by first | assumption | exact Ne.symm ‹_›) ?_)) (by decide) | refine OwnS.new ?_ (by assumption))))) ?_
 rintro _ H3 ⟨rfl, hP3, f3⟩
 try simp only [nf, nf2]
 have H3_b1 := f3.keep' (b := b1) (by (repeat' first | assumption | exact hS | exact Hp.one_get _ _ | refine hT (by first | assumption | exact Ne.symm ‹_›) ?_)) (by exact npOf)
 have H3_b2 := f3.keep' (b := b2) (by (repeat' first | assumption | exact hS | exact Hp.one_get _ _ | refine hT (by first | assumption | exact Ne.symm ‹_›) ?_)) (by exact npOf)
 have H3_b3 := f3.keep' (b := b3) (by (repeat' first | assumption | exact hS | exact Hp.one_get _ _ | refine hT (by first | assumption | exact Ne.symm ‹_›) ?_)) (by exact npOf)
 have H3_m := f3.keep' (b := m) (by (repeat' first | assumption | exact hS | exact Hp.one_get _ _ | refine hT (by first | assumption | exact Ne.symm ‹_›) ?_)) (by exact npOf)
 refine ⟨.inl (by decide +kernel), ?_⟩
 try simp only [nfa, Nat.reduceAdd]
 refine hD_done (by decide +kernel) ?_
 try simp only [nfa, Nat.reduceAdd]
 refine hc_drawP follows (by intros; simp [hng, hthen, hblock, hend]) ?_
 refine dT 0 rfl (by decide +kernel) rfl (by first | exact flt_sub _ | exact PFr.flt (by assumption) | exact Sub.trans (flt_sub _) (by first | ((repeat' first | assumption | exact Sub.refl _ | refine Sub.over ?_ ‹_› _); done) | (intro _ _ h; simp only [Hp.set] at h ⊢; grind))) (hop_move ?_)
 try simp only [nfa, Nat.reduceAdd]
 refine dT 1 rfl (by decide +kernel) rfl (by first | exact flt_sub _ | exact PFr.flt (by assumption) | exact Sub.trans (flt_sub _) (by first | ((repeat' first | assumption | exact Sub.refl _ | refine Sub.over ?_ ‹_› _); done) | (intro _ _ h; simp only [Hp.set] at h ⊢; grind))) (hop_nilCheck rfl ?_)
 try simp only [nfa, Nat.reduceAdd]
 refine dT 2 rfl (by decide +kernel) rfl (by first | exact flt_sub _ | exact PFr.flt (by assumption) | exact Sub.trans (flt_sub _) (by first | ((repeat' first | assumption | exact Sub.refl _ | refine Sub.over ?_ ‹_› _); done) | (intro _ _ h; simp only [Hp.set] at h ⊢; grind))) (hop_fieldAddr rfl ?_)
 try simp only [nfa, Nat.reduceAdd]
 refine dT 3 rfl (by decide +kernel) rfl (by first | exact flt_sub _ | exact PFr.flt (by assumption) | exact Sub.trans (flt_sub _) (by first | ((repeat' first | assumption | exact Sub.refl _ | refine Sub.over ?_ ‹_› _); done) | (intro _ _ h; simp only [Hp.set] at h ⊢; grind))) (hop_load rfl (by refine hFl (by (repeat' first | assumption | exact hS | exact Hp.one_get _ _ | refine hT (by first | assumption | exact Ne.symm ‹_›) ?_)) ?_; exact npOf) (by first | rfl | assumption | exact mid_get0 rfl | exact mid_get rfl | (simp; done)) ?_)
 try simp only [nfa, Nat.reduceAdd]
 refine dT 4 rfl (by decide +kernel) rfl (by first | exact flt_sub _ | exact PFr.flt (by assumption) | exact Sub.trans (flt_sub _) (by first | ((repeat' first | assumption | exact Sub.refl _ | refine Sub.over ?_ ‹_› _); done) | (intro _ _ h; simp only [Hp.set] at h ⊢; grind))) (hop_move ?_)
 try simp only [nfa, Nat.reduceAdd]
 refine dT 5 rfl (by decide +kernel) rfl (by first | exact flt_sub _ | exact PFr.flt (by assumption) | exact Sub.trans (flt_sub _) (by first | ((repeat' first | assumption | exact Sub.refl _ | refine Sub.over ?_ ‹_› _); done) | (intro _ _ h; simp only [Hp.set] at h ⊢; grind))) (hop_nilCheck rfl ?_)
 try simp only [nfa, Nat.reduceAdd]
 refine dT 6 rfl (by decide +kernel) rfl (by first | exact flt_sub _ | exact PFr.flt (by assumption) | exact Sub.trans (flt_sub _) (by first | ((repeat' first | assumption | exact Sub.refl _ | refine Sub.over ?_ ‹_› _); done) | (intro _ _ h; simp only [Hp.set] at h ⊢; grind))) (hop_fieldAddr rfl ?_)
 try simp only [nfa, Nat.reduceAdd]
 refine dT 7 rfl (by decide +kernel) rfl (by first | exact flt_sub _ | exact PFr.flt (by assumption) | exact Sub.trans (flt_sub _) (by first | ((repeat' first | assumption | exact Sub.refl _ | refine Sub.over ?_ ‹_› _); done) | (intro _ _ h; simp only [Hp.set] at h ⊢; grind))) (hop_load rfl (by refine hFl (by (repeat' first | assumption | exact hS | exact Hp.one_get _ _ | refine hT (by first | assumption | exact Ne.symm ‹_›) ?_)) ?_; exact npOf) (by first | rfl | assumption | exact mid_get0 rfl | exact mid_get rfl | (simp; done)) ?_)
 try simp only [nfa, Nat.reduceAdd]
 refine hD_do 8 rfl (by decide +kernel) rfl (hop_call ?_)
 simp only [nfa, Nat.reduceAdd]
 refine HT.mono (ph_Pin (s := s.with i ⟨true, false, false, 0, pg, got ++ bs⟩) (by (repeat' first | assumption | refine PartH.upd ?_ (by (repeat' first | assumption | exact hS | exact Hp.one_get _ _ | refine hT (by first | assumption | exact Ne.symm ‹_›) ?_)) (by exact npOf) | refine PartH.new ?_ (by assumption)))) ?_
 rintro _ H4 ⟨rfl, hP4, f4⟩
 try simp only [nf, nf2]
 have H4_b1 := f4.keep' (b := b1) (by (repeat' first | assumption | exact hS | exact Hp.one_get _ _ | refine hT (by first | assumption | exact Ne.symm ‹_›) ?_)) (by exact npOf)
 have H4_b2 := f4.keep' (b := b2) (by (repeat' first | assumption | exact hS | exact Hp.one_get _ _ | refine hT (by first | assumption | exact Ne.symm ‹_›) ?_)) (by exact npOf)
 have H4_b3 := f4.keep' (b := b3) (by (repeat' first | assumption | exact hS | exact Hp.one_get _ _ | refine hT (by first | assumption | exact Ne.symm ‹_›) ?_)) (by exact npOf)
 have H4_m := f4.keep' (b := m) (by (repeat' first | assumption | exact hS | exact Hp.one_get _ _ | refine hT (by first | assumption | exact Ne.symm ‹_›) ?_)) (by exact npOf)
 refine ⟨.inl (by decide +kernel), ?_⟩
 try simp only [nfa, Nat.reduceAdd]
 refine hD_done (by decide +kernel) ?_
 try simp only [nfa, Nat.reduceAdd]
 refine sR ?_
 refine oM ?_
 refine hops_cons rfl (hop_call ?_)
 simp only [nfa, Nat.reduceAdd]
 refine HT.mono (machine_Stop (by (repeat' first | assumption | exact hS | exact Hp.one_get _ _ | refine hT (by first | assumption | exact Ne.symm ‹_›) ?_))) ?_
 rintro _ _ ⟨rfl, rfl⟩
 try simp only [nfa, Nat.reduceAdd]
 refine hops_nil ?_
 try simp only [nfa, Nat.reduceAdd]
 refine sR ?_
 refine oF rfl ?_
 refine hops_cons rfl (hop_store rfl rfl (by first | rfl | assumption) (by (repeat' first | assumption | exact hS | exact Hp.one_get _ _ | refine hT (by first | assumption | exact Ne.symm ‹_›) ?_)) (by first | assumption | omega | (simp; done) | (simp; omega) | (simp [frc] <;> omega)) ?_)
 try simp only [nfa, Nat.reduceAdd]
 refine hops_nil ?_
 try simp only [nfa, Nat.reduceAdd]
 refine sR ?_
 refine hops_cons rfl (hop_loadA rfl (by (repeat' first | assumption | exact hS | exact Hp.one_get _ _ | refine hT (by first | assumption | exact Ne.symm ‹_›) ?_)) (by first | assumption | omega | (simp; done) | (simp; omega) | (simp [frc] <;> omega)) ?_)
 try simp only [nfa, Nat.reduceAdd]
 refine hops_cons rfl (hop_storeA rfl rfl (by rfl) (by first | assumption | (repeat' first | (intro _ h; cases h; done) | refine List.forall_mem_cons.2 ⟨by first | rfl | assumption, ?_⟩) | (simp [Value.oneCell']; done) | (simp [Value.oneCell', *]; done)) (by (repeat' first | assumption | exact hS | exact Hp.one_get _ _ | refine hT (by first | assumption | exact Ne.symm ‹_›) ?_)) (by first | assumption | omega | (simp; done) | (simp; omega) | (simp [frc] <;> omega)) (by decide) ?_)
 try simp only [nfa, Nat.reduceAdd]
 refine hops_nil ?_
 try simp only [nfa, Nat.reduceAdd]
 refine hc_ret ?_
 try simp only [hng, hthen, hblock]
 apply hend_1 rfl ?es (RV.cellW rfl (by (repeat' first | assumption | exact hS | exact Hp.one_get _ _ | refine hT (by first | assumption | exact Ne.symm ‹_›) ?_)) (by simp)) ?eR
 case es => exact Sub.refl _
 case eR =>
  exact ⟨rfl, by (repeat' first | assumption | exact hS | exact Hp.one_get _ _ | refine hT (by first | assumption | exact Ne.symm ‹_›) ?_), by (repeat' first | assumption | refine PartH.upd ?_ (by (repeat' first | assumption | exact hS | exact Hp.one_get _ _ | refine hT (by first | assumption | exact Ne.symm ‹_›) ?_)) (by exact npOf) | refine PartH.new ?_ (by assumption))⟩
end Go.Proofs.Try
