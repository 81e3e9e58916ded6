/- A part of the proofs over the tenants of a page cache: lemmas on what is known of the memory, and contracts of the Go functions. -/
import Derived.Test.YtckokpmljhhhcaaP1
import Derived.Test.YtckokpmljhhhcaaF4
import Derived.Test.YtckokpmljhhhcaaF6
set_option linter.unusedVariables false
set_option linter.unusedSimpArgs false
namespace Go.Proofs.Try
open Go Go.H
set_option linter.unusedSimpArgs false
set_option linter.unusedVariables false
set_option maxRecDepth 100000
set_option maxHeartbeats 2000000
def z6 : List Nat := [0, 0, 0, 0, 0, 0]
structure Rs where
  done : Bool
  errno : Int
  hit : Bool
  data : List UInt8
  add : List Nat
/-- what a call tells, as cells -/
def resC (r : Rs) (dv : Value) : List Value := .bool r.done :: .int .i64 0 :: .int .i64 r.errno :: .bool r.hit :: .int .i64 0 :: dv :: (cnc z6 ++ cnc r.add)
def Rs.fin (e : Int) : Rs := ⟨true, e, false, [], z6⟩
structure Ms where
  pt : Pt
  op : Int
  page : Int
  todo : List Io
  to : Nat
  got : List UInt8
def MachH (H : Hp) (m p : Nat) (s : Ms) : Prop := PartH H p s.pt ∧ ∃ tv gv, H m = some (row [.pointer (some ⟨p, 0, none⟩), .int .i64 s.op, .int .i64 s.page, tv, .int .i64 (s.to : Int), gv] 86) ∧
  rdS H tv s.todo.length (flat ioc s.todo) 106 3 ∧ OwnS H gv s.got.length (s.got.map byv) 5 1 ∧ (s.got = [] → gv = .slice none 0 0)
theorem MachH.sub {H H' : Hp} {m p : Nat} {s : Ms} (h : MachH H m p s) (k : Sub H H') : MachH H' m p s := by
  obtain ⟨h1, tv, gv, h2, h3, h4, h5⟩ := h
  exact ⟨h1.sub k, tv, gv, k _ _ h2, h3.sub k, h4.sub k, h5⟩
/-- the pages of the dirty frames; of one page, if it is not below 0 -/
def dirtyPg (fr : List Fr) (pg : Int) : List Int := (fr.filter fun f => f.dirty && (decide (pg < 0) || f.page == pg)).map Fr.page
theorem machine_done {H : Hp} {e : Int} :
    HT prog 41 #[.int .i64 e] H (fun v H' => v = .agg #[.bool true, .int .i64 0, .int .i64 e, .bool false, .int .i64 0, .slice none 0 0, .int .u64 0, .int .u64 0, .int .u64 0, .int .u64 0, .int .u64 0, .int .u64 0, .int .u64 0, .int .u64 0, .int .u64 0, .int .u64 0, .int .u64 0, .int .u64 0] ∧ H = H') := by
 refine ht_of_body (args := [.int .i64 e]) func41 rfl ?_
 simp only [ntmps41, List.length_cons, List.length_nil, Nat.reduceAdd, Nat.reduceSub, List.replicate_succ, List.replicate_zero, List.cons_append, List.nil_append]
 refine sR ?_
 refine hops_cons rfl (hop_alloc (zl := [.bool false, .int .i64 0, .int .i64 0, .bool false, .int .i64 0, .slice none 0 0, .int .u64 0, .int .u64 0, .int .u64 0, .int .u64 0, .int .u64 0, .int .u64 0, .int .u64 0, .int .u64 0, .int .u64 0, .int .u64 0, .int .u64 0, .int .u64 0]) rfl ?_)
 intro b1 hb1
 have hb1' := hb1
 try simp only [Hp.set_none, Hp.del_none] at hb1'
 have hb1_n : H b1 = none := by first | exact hb1' | exact hb1'.2 | exact hb1'.2.2 | exact hb1'.2.2.2 | exact hb1'.2.2.2.2 | exact hb1'.2.2.2.2.2 | exact hb1'.2.2.2.2.2.2
 clear hb1'
 try simp only [nfa, Nat.reduceAdd]
 refine hops_nil ?_
 try simp only [nfa, Nat.reduceAdd]
 refine sR ?_
 refine oM ?_
 try simp only [nfa, Nat.reduceAdd]
 refine hops_cons rfl (hop_build (by simp only [fillL, wr, Value.cells, List.map_cons, List.map_nil, nf, nf2]; rfl) ?_)
 try simp only [nfa, Nat.reduceAdd]
 refine hops_cons rfl (hop_build (by simp only [fillL, wr, Value.cells, List.map_cons, List.map_nil, nf, nf2]; rfl) ?_)
 try simp only [nfa, Nat.reduceAdd]
 refine hops_cons rfl (hop_storeA rfl rfl (by rfl) (by first | assumption | (repeat' first | (intro _ h; cases h; done) | refine List.forall_mem_cons.2 ⟨by first | rfl | assumption, ?_⟩) | (simp [Value.oneCell']; done) | (simp [Value.oneCell', *]; done)) (by (repeat' first | assumption | exact hS | exact Hp.one_get _ _ | refine hT (by first | assumption | exact Ne.symm ‹_›) ?_)) (by first | assumption | omega | (simp; done) | (simp; omega) | (simp [frc] <;> omega)) (by decide) ?_)
 try simp only [nfa, Nat.reduceAdd]
 refine hops_nil ?_
 try simp only [nfa, Nat.reduceAdd]
 refine hc_ret ?_
 try simp only [hng, hthen, hblock]
 apply hend_1 rfl ?es (RV.cellW rfl (by (repeat' first | assumption | exact hS | exact Hp.one_get _ _ | refine hT (by first | assumption | exact Ne.symm ‹_›) ?_)) (by simp)) ?eR
 case eR =>
  first | exact ⟨rfl, rfl⟩ | (refine ⟨?_, rfl⟩; simp)
 case es => first | ((repeat' first | assumption | exact Sub.refl _ | refine Sub.over ?_ ‹_› _); done) | (intro _ _ h; simp only [Hp.set] at h ⊢; grind)
theorem machine_counted_no {H : Hp} {e a0 a1 a2 a3 a4 a5 : Int} {dv : Value} (he : e ≠ 0) :
    HT prog 66 #[.int .i64 e, dv, .agg #[.int .u64 a0, .int .u64 a1, .int .u64 a2, .int .u64 a3, .int .u64 a4, .int .u64 a5]] H (fun v H' => v = .agg #[.bool true, .int .i64 0, .int .i64 e, .bool false, .int .i64 0, .slice none 0 0, .int .u64 0, .int .u64 0, .int .u64 0, .int .u64 0, .int .u64 0, .int .u64 0, .int .u64 0, .int .u64 0, .int .u64 0, .int .u64 0, .int .u64 0, .int .u64 0] ∧ H = H') := by
 refine ht_of_body (args := [.int .i64 e, dv, .agg #[.int .u64 a0, .int .u64 a1, .int .u64 a2, .int .u64 a3, .int .u64 a4, .int .u64 a5]]) func66 rfl ?_
 simp only [ntmps66, List.length_cons, List.length_nil, Nat.reduceAdd, Nat.reduceSub, List.replicate_succ, List.replicate_zero, List.cons_append, List.nil_append]
 refine sR ?_
 refine hops_cons rfl (hop_box rfl rfl ?_)
 intro b1 hb1
 have hb1' := hb1
 try simp only [Hp.set_none, Hp.del_none] at hb1'
 have hb1_n : H b1 = none := by first | exact hb1' | exact hb1'.2 | exact hb1'.2.2 | exact hb1'.2.2.2 | exact hb1'.2.2.2.2 | exact hb1'.2.2.2.2.2 | exact hb1'.2.2.2.2.2.2
 clear hb1'
 try simp only [nfa, Nat.reduceAdd]
 refine hops_cons rfl (hop_alloc (zl := [.bool false, .int .i64 0, .int .i64 0, .bool false, .int .i64 0, .slice none 0 0, .int .u64 0, .int .u64 0, .int .u64 0, .int .u64 0, .int .u64 0, .int .u64 0, .int .u64 0, .int .u64 0, .int .u64 0, .int .u64 0, .int .u64 0, .int .u64 0]) rfl ?_)
 intro b2 hb2
 have hb2' := hb2
 try simp only [Hp.set_none, Hp.del_none] at hb2'
 have hb2_n : H b2 = none := by first | exact hb2' | exact hb2'.2 | exact hb2'.2.2 | exact hb2'.2.2.2 | exact hb2'.2.2.2.2 | exact hb2'.2.2.2.2.2 | exact hb2'.2.2.2.2.2.2
 have hb2_b1 : b2 ≠ b1 := by first | exact hb2'.1 | exact hb2'.2.1 | exact hb2'.2.2.1 | exact hb2'.2.2.2.1 | exact hb2'.2.2.2.2.1 | exact hb2'.2.2.2.2.2.1
 clear hb2'
 try simp only [nfa, Nat.reduceAdd]
 refine hops_nil ?_
 try simp only [nfa, Nat.reduceAdd]
 refine hc_seq ?_
 refine sR ?_
 refine oM ?_
 try simp only [nfa, Nat.reduceAdd]
 refine hops_cons rfl (hop_bin rfl rfl rfl ?_)
 try simp only [nfa, Nat.reduceAdd]
 refine hops_nil ?_
 try simp only [nfa, Nat.reduceAdd]
 refine hc_T rfl (by first | rfl | assumption | (simp; done) | (simp; omega) | (simp [*]; done)) ?_
 refine sR ?_
 refine oM ?_
 refine hops_cons rfl (hop_call ?_)
 simp only [nfa, Nat.reduceAdd]
 refine HT.mono (machine_done) ?_
 rintro _ _ ⟨rfl, rfl⟩
 try simp only [nfa, Nat.reduceAdd]
 refine hops_cons rfl (hop_storeA rfl rfl (by rfl) (by first | assumption | (repeat' first | (intro _ h; cases h; done) | refine List.forall_mem_cons.2 ⟨by first | rfl | assumption, ?_⟩) | (simp [Value.oneCell']; done) | (simp [Value.oneCell', *]; done)) (by (repeat' first | assumption | exact hS | exact Hp.one_get _ _ | refine hT (by first | assumption | exact Ne.symm ‹_›) ?_)) (by first | assumption | omega | (simp; done) | (simp; omega) | (simp [frc] <;> omega)) (by decide) ?_)
 try simp only [nfa, Nat.reduceAdd]
 refine hops_nil ?_
 try simp only [nfa, Nat.reduceAdd]
 refine hc_ret ?_
 try simp only [hng, hthen, hblock]
 apply hend_1 rfl ?es (RV.cellW rfl (by (repeat' first | assumption | exact hS | exact Hp.one_get _ _ | refine hT (by first | assumption | exact Ne.symm ‹_›) ?_)) (by simp)) ?eR
 case eR =>
  first | exact ⟨rfl, rfl⟩ | (refine ⟨?_, rfl⟩; simp)
 case es => first | ((repeat' first | assumption | exact Sub.refl _ | refine Sub.over ?_ ‹_› _); done) | (intro _ _ h; simp only [Hp.set] at h ⊢; grind)
theorem machine_counted_ok {H : Hp} {a0 a1 a2 a3 a4 a5 : Int} {dv : Value} (hd : ∃ a n c, dv = .slice a n c) :
    HT prog 66 #[.int .i64 0, dv, .agg #[.int .u64 a0, .int .u64 a1, .int .u64 a2, .int .u64 a3, .int .u64 a4, .int .u64 a5]] H (fun v H' => v = .agg #[.bool true, .int .i64 0, .int .i64 0, .bool false, .int .i64 0, dv, .int .u64 0, .int .u64 0, .int .u64 0, .int .u64 0, .int .u64 0, .int .u64 0, .int .u64 a0, .int .u64 a1, .int .u64 a2, .int .u64 a3, .int .u64 a4, .int .u64 a5] ∧ H = H') := by
 obtain ⟨a, n, c, rfl⟩ := hd
 refine ht_of_body (args := [.int .i64 0, .slice a n c, .agg #[.int .u64 a0, .int .u64 a1, .int .u64 a2, .int .u64 a3, .int .u64 a4, .int .u64 a5]]) func66 rfl ?_
 simp only [ntmps66, List.length_cons, List.length_nil, Nat.reduceAdd, Nat.reduceSub, List.replicate_succ, List.replicate_zero, List.cons_append, List.nil_append]
 refine sR ?_
 refine hops_cons rfl (hop_box rfl rfl ?_)
 intro b1 hb1
 have hb1' := hb1
 try simp only [Hp.set_none, Hp.del_none] at hb1'
 have hb1_n : H b1 = none := by first | exact hb1' | exact hb1'.2 | exact hb1'.2.2 | exact hb1'.2.2.2 | exact hb1'.2.2.2.2 | exact hb1'.2.2.2.2.2 | exact hb1'.2.2.2.2.2.2
 clear hb1'
 try simp only [nfa, Nat.reduceAdd]
 refine hops_cons rfl (hop_alloc (zl := [.bool false, .int .i64 0, .int .i64 0, .bool false, .int .i64 0, .slice none 0 0, .int .u64 0, .int .u64 0, .int .u64 0, .int .u64 0, .int .u64 0, .int .u64 0, .int .u64 0, .int .u64 0, .int .u64 0, .int .u64 0, .int .u64 0, .int .u64 0]) rfl ?_)
 intro b2 hb2
 have hb2' := hb2
 try simp only [Hp.set_none, Hp.del_none] at hb2'
 have hb2_n : H b2 = none := by first | exact hb2' | exact hb2'.2 | exact hb2'.2.2 | exact hb2'.2.2.2 | exact hb2'.2.2.2.2 | exact hb2'.2.2.2.2.2 | exact hb2'.2.2.2.2.2.2
 have hb2_b1 : b2 ≠ b1 := by first | exact hb2'.1 | exact hb2'.2.1 | exact hb2'.2.2.1 | exact hb2'.2.2.2.1 | exact hb2'.2.2.2.2.1 | exact hb2'.2.2.2.2.2.1
 clear hb2'
 try simp only [nfa, Nat.reduceAdd]
 refine hops_nil ?_
 try simp only [nfa, Nat.reduceAdd]
 refine hc_seq ?_
 refine sR ?_
 refine oM ?_
 try simp only [nfa, Nat.reduceAdd]
 refine hops_cons rfl (hop_bin rfl rfl rfl ?_)
 try simp only [nfa, Nat.reduceAdd]
 refine hops_nil ?_
 try simp only [nfa, Nat.reduceAdd]
 refine hc_F rfl (by first | rfl | assumption | (simp; done) | (simp; omega) | (simp [*]; done)) ?_
 refine hc_skip ?_
 try simp only [nfa, Nat.reduceAdd]
 refine sR ?_
 refine oM ?_
 try simp only [nfa, Nat.reduceAdd]
 refine hops_cons rfl (hop_build (by simp only [fillL, wr, Value.cells, List.map_cons, List.map_nil, nf, nf2]; rfl) ?_)
 try simp only [nfa, Nat.reduceAdd]
 refine hops_cons rfl (hop_loadA rfl (by (repeat' first | assumption | exact hS | exact Hp.one_get _ _ | refine hT (by first | assumption | exact Ne.symm ‹_›) ?_)) (by first | assumption | omega | (simp; done) | (simp; omega) | (simp [frc] <;> omega)) ?_)
 try simp only [nfa, Nat.reduceAdd]
 refine hops_cons rfl (hop_build (by simp only [fillL, wr, Value.cells, List.map_cons, List.map_nil, nf, nf2]; rfl) ?_)
 try simp only [nfa, Nat.reduceAdd]
 refine hops_cons rfl (hop_storeA rfl rfl (by rfl) (by first | assumption | (repeat' first | (intro _ h; cases h; done) | refine List.forall_mem_cons.2 ⟨by first | rfl | assumption, ?_⟩) | (simp [Value.oneCell']; done) | (simp [Value.oneCell', *]; done)) (by (repeat' first | assumption | exact hS | exact Hp.one_get _ _ | refine hT (by first | assumption | exact Ne.symm ‹_›) ?_)) (by first | assumption | omega | (simp; done) | (simp; omega) | (simp [frc] <;> omega)) (by decide) ?_)
 try simp only [nfa, Nat.reduceAdd]
 refine hops_nil ?_
 try simp only [nfa, Nat.reduceAdd]
 refine hc_ret ?_
 try simp only [hng, hthen, hblock]
 apply hend_1 rfl ?es (RV.cellW rfl (by (repeat' first | assumption | exact hS | exact Hp.one_get _ _ | refine hT (by first | assumption | exact Ne.symm ‹_›) ?_)) (by simp)) ?eR
 case eR =>
  first | exact ⟨rfl, rfl⟩ | (refine ⟨?_, rfl⟩; simp)
 case es => first | ((repeat' first | assumption | exact Sub.refl _ | refine Sub.over ?_ ‹_› _); done) | (intro _ _ h; simp only [Hp.set] at h ⊢; grind)
theorem machine_Busy {H : Hp} {m p : Nat} {op pg to : Int} {tv gv : Value} (hm : H m = some (row [.pointer (some ⟨p, 0, none⟩), .int .i64 op, .int .i64 pg, tv, .int .i64 to, gv] 86)) {a : Option Addr} {n c : Nat} (ht : tv = .slice a n c) :
    HT prog 13 #[.pointer (some ⟨m, 0, none⟩)] H (fun v H' => v = .bool (decide (0 < n)) ∧ H = H') := by
 subst ht
 refine ht_of_body (args := [.pointer (some ⟨m, 0, none⟩)]) func13 rfl ?_
 simp only [ntmps13, List.length_cons, List.length_nil, Nat.reduceAdd, Nat.reduceSub, List.replicate_succ, List.replicate_zero, List.cons_append, List.nil_append]
 refine sR ?_
 refine oA ?_
 try simp only [nfa, Nat.reduceAdd]
 refine hops_nil ?_
 try simp only [nfa, Nat.reduceAdd]
 refine sR ?_
 refine oM ?_
 refine oN rfl ?_
 refine oF rfl ?_
 refine hops_cons rfl (hop_load rfl (by (repeat' first | assumption | exact hS | exact Hp.one_get _ _ | refine hT (by first | assumption | exact Ne.symm ‹_›) ?_)) (by first | rfl | assumption | exact mid_get0 rfl | exact mid_get rfl | (simp; done)) ?_)
 try simp only [nfa, Nat.reduceAdd]
 refine hops_cons rfl (hop_lenS rfl ?_)
 try simp only [nfa, Nat.reduceAdd]
 refine hops_cons rfl (hop_bin rfl rfl rfl ?_)
 try simp only [nfa, Nat.reduceAdd]
 refine oA ?_
 try simp only [nfa, Nat.reduceAdd]
 refine hops_nil ?_
 try simp only [nfa, Nat.reduceAdd]
 refine hc_ret ?_
 try simp only [hng, hthen, hblock]
 apply hend_1 rfl ?es RV.tmp ?eR
 case eR =>
  exact ⟨by simp, rfl⟩
 case es => first | ((repeat' first | assumption | exact Sub.refl _ | refine Sub.over ?_ ‹_› _); done) | (intro _ _ h; simp only [Hp.set] at h ⊢; grind)
theorem machine_Stop {H : Hp} {m p : Nat} {op pg to : Int} {tv gv : Value} (hm : H m = some (row [.pointer (some ⟨p, 0, none⟩), .int .i64 op, .int .i64 pg, tv, .int .i64 to, gv] 86)) :
    HT prog 40 #[.pointer (some ⟨m, 0, none⟩)] H (fun v H' => v = .tuple #[] ∧ H' = H.set m (row [.pointer (some ⟨p, 0, none⟩), .int .i64 0, .int .i64 0, .slice none 0 0, .int .i64 0, .slice none 0 0] 86)) := by
 refine ht_of_body (args := [.pointer (some ⟨m, 0, none⟩)]) func40 rfl ?_
 simp only [ntmps40, List.length_cons, List.length_nil, Nat.reduceAdd, Nat.reduceSub, List.replicate_succ, List.replicate_zero, List.cons_append, List.nil_append]
 refine hc_region ?_
 refine oM ?_
 refine oM ?_
 refine oN rfl ?_
 refine oF rfl ?_
 refine hops_cons rfl (hop_load rfl (by (repeat' first | assumption | exact hS | exact Hp.one_get _ _ | refine hT (by first | assumption | exact Ne.symm ‹_›) ?_)) (by first | rfl | assumption | exact mid_get0 rfl | exact mid_get rfl | (simp; done)) ?_)
 try simp only [nfa, Nat.reduceAdd]
 refine hops_cons rfl (hop_build (by simp only [fillL, wr, Value.cells, List.map_cons, List.map_nil, nf, nf2]; rfl) ?_)
 try simp only [nfa, Nat.reduceAdd]
 refine oN rfl ?_
 refine hops_cons rfl (hop_storeA rfl rfl (by rfl) (by first | assumption | (repeat' first | (intro _ h; cases h; done) | refine List.forall_mem_cons.2 ⟨by first | rfl | assumption, ?_⟩) | (simp [Value.oneCell']; done) | (simp [Value.oneCell', *]; done)) (by (repeat' first | assumption | exact hS | exact Hp.one_get _ _ | refine hT (by first | assumption | exact Ne.symm ‹_›) ?_)) (by first | assumption | omega | (simp; done) | (simp; omega) | (simp [frc] <;> omega)) (by decide) ?_)
 try simp only [nfa, Nat.reduceAdd]
 refine hops_nil ?_
 try simp only [nfa, Nat.reduceAdd]
 apply hend_none_sub rfl ?es ?eR
 case eR =>
  first | exact ⟨rfl, rfl⟩ | (refine ⟨?_, rfl⟩; simp)
 case es => first | ((repeat' first | assumption | exact Sub.refl _ | refine Sub.over ?_ ‹_› _); done) | (intro _ _ h; simp only [Hp.set] at h ⊢; grind)
theorem machine_New {H : Hp} {p : Nat} :
    HT prog 19 #[.pointer (some ⟨p, 0, none⟩)] H (fun v H' => ∃ m, H m = none ∧ v = .pointer (some ⟨m, 0, none⟩) ∧ H' = H.set m (row [.pointer (some ⟨p, 0, none⟩), .int .i64 0, .int .i64 0, .slice none 0 0, .int .i64 0, .slice none 0 0] 86)) := by
 refine ht_of_body (args := [.pointer (some ⟨p, 0, none⟩)]) func19 rfl ?_
 simp only [ntmps19, List.length_cons, List.length_nil, Nat.reduceAdd, Nat.reduceSub, List.replicate_succ, List.replicate_zero, List.cons_append, List.nil_append]
 refine sR ?_
 refine oA ?_
 try simp only [nfa, Nat.reduceAdd]
 refine hops_nil ?_
 try simp only [nfa, Nat.reduceAdd]
 refine sR ?_
 refine oM ?_
 try simp only [nfa, Nat.reduceAdd]
 refine hops_cons rfl (hop_build (by simp only [fillL, wr, Value.cells, List.map_cons, List.map_nil, nf, nf2]; rfl) ?_)
 try simp only [nfa, Nat.reduceAdd]
 refine hops_cons rfl (hop_box rfl rfl ?_)
 intro m hm
 have hm' := hm
 try simp only [Hp.set_none, Hp.del_none] at hm'
 have hm_n : H m = none := by first | exact hm' | exact hm'.2 | exact hm'.2.2 | exact hm'.2.2.2 | exact hm'.2.2.2.2 | exact hm'.2.2.2.2.2 | exact hm'.2.2.2.2.2.2
 clear hm'
 try simp only [nfa, Nat.reduceAdd]
 refine oA ?_
 try simp only [nfa, Nat.reduceAdd]
 refine hops_nil ?_
 try simp only [nfa, Nat.reduceAdd]
 refine hc_ret ?_
 try simp only [hng, hthen, hblock]
 apply hend_1 rfl ?es RV.tmp ?eR
 case eR =>
  exact ⟨m, hm, rfl, rfl⟩
 case es => first | ((repeat' first | assumption | exact Sub.refl _ | refine Sub.over ?_ ‹_› _); done) | (intro _ _ h; simp only [Hp.set] at h ⊢; grind)
theorem fetch_hit_no {H : Hp} {m p : Nat} {op pg to : Int} {tv : Value} {s : Pt} (hm : H m = some (row [.pointer (some ⟨p, 0, none⟩), .int .i64 op, .int .i64 pg, tv, .int .i64 to, .slice none 0 0] 86)) (hP : PartH H p s) {rop rpg roff rlen : Int} {da : Option Addr} {dn dc : Nat} {i : Nat} (hf : findPage s.fr rpg = some i) (he : (s.pin rpg).1 ≠ 0) :
    HT prog 63 #[.pointer (some ⟨m, 0, none⟩), .agg #[.int .i64 rop, .int .i64 rpg, .int .i64 roff, .int .i64 rlen, .slice da dn dc]] H (fun v H' => v = .agg #[.bool true, .int .i64 0, .int .i64 (s.pin rpg).1, .bool false, .int .i64 0, .slice none 0 0, .int .u64 0, .int .u64 0, .int .u64 0, .int .u64 0, .int .u64 0, .int .u64 0, .int .u64 0, .int .u64 0, .int .u64 0, .int .u64 0, .int .u64 0, .int .u64 0] ∧ PartH H' p (s.pin rpg).2 ∧ PFr H H') := by
 refine ht_of_body (args := [.pointer (some ⟨m, 0, none⟩), .agg #[.int .i64 rop, .int .i64 rpg, .int .i64 roff, .int .i64 rlen, .slice da dn dc]]) func63 rfl ?_
 simp only [ntmps63, List.length_cons, List.length_nil, Nat.reduceAdd, Nat.reduceSub, List.replicate_succ, List.replicate_zero, List.cons_append, List.nil_append]
 refine sR ?_
 refine hops_cons rfl (hop_box rfl rfl ?_)
 intro b1 hb1
 have hb1' := hb1
 try simp only [Hp.set_none, Hp.del_none] at hb1'
 have hb1_n : H b1 = none := by first | exact hb1' | exact hb1'.2 | exact hb1'.2.2 | exact hb1'.2.2.2 | exact hb1'.2.2.2.2 | exact hb1'.2.2.2.2.2 | exact hb1'.2.2.2.2.2.2
 have hb1_m : b1 ≠ m := (Hp.ne_of hm hb1_n).symm
 clear hb1'
 try simp only [nfa, Nat.reduceAdd]
 refine hops_cons rfl (hop_alloc (zl := [.bool false, .int .i64 0, .int .i64 0, .bool false, .int .i64 0, .slice none 0 0, .int .u64 0, .int .u64 0, .int .u64 0, .int .u64 0, .int .u64 0, .int .u64 0, .int .u64 0, .int .u64 0, .int .u64 0, .int .u64 0, .int .u64 0, .int .u64 0]) rfl ?_)
 intro b2 hb2
 have hb2' := hb2
 try simp only [Hp.set_none, Hp.del_none] at hb2'
 have hb2_n : H b2 = none := by first | exact hb2' | exact hb2'.2 | exact hb2'.2.2 | exact hb2'.2.2.2 | exact hb2'.2.2.2.2 | exact hb2'.2.2.2.2.2 | exact hb2'.2.2.2.2.2.2
 have hb2_b1 : b2 ≠ b1 := by first | exact hb2'.1 | exact hb2'.2.1 | exact hb2'.2.2.1 | exact hb2'.2.2.2.1 | exact hb2'.2.2.2.2.1 | exact hb2'.2.2.2.2.2.1
 have hb2_m : b2 ≠ m := (Hp.ne_of hm hb2_n).symm
 clear hb2'
 try simp only [nfa, Nat.reduceAdd]
 refine hops_nil ?_
 try simp only [nfa, Nat.reduceAdd]
 refine hc_seq ?_
 refine hc_seq ?_
 refine hc_draw0 follows (by intros; simp [hng, hthen, hblock, hend]) ?_
 refine dT 0 rfl (by decide +kernel) rfl (by first | ((repeat' first | assumption | exact Sub.refl _ | refine Sub.over ?_ ‹_› _); done) | (intro _ _ h; simp only [Hp.set] at h ⊢; grind)) (hop_move ?_)
 try simp only [nfa, Nat.reduceAdd]
 refine dT 1 rfl (by decide +kernel) rfl (by first | ((repeat' first | assumption | exact Sub.refl _ | refine Sub.over ?_ ‹_› _); done) | (intro _ _ h; simp only [Hp.set] at h ⊢; grind)) (hop_nilCheck rfl ?_)
 try simp only [nfa, Nat.reduceAdd]
 refine dT 2 rfl (by decide +kernel) rfl (by first | ((repeat' first | assumption | exact Sub.refl _ | refine Sub.over ?_ ‹_› _); done) | (intro _ _ h; simp only [Hp.set] at h ⊢; grind)) (hop_fieldAddr rfl ?_)
 try simp only [nfa, Nat.reduceAdd]
 refine dT 3 rfl (by decide +kernel) rfl (by first | ((repeat' first | assumption | exact Sub.refl _ | refine Sub.over ?_ ‹_› _); done) | (intro _ _ h; simp only [Hp.set] at h ⊢; grind)) (hop_load rfl (by (repeat' first | assumption | exact hS | exact Hp.one_get _ _ | refine hT (by first | assumption | exact Ne.symm ‹_›) ?_)) (by first | rfl | assumption | exact mid_get0 rfl | exact mid_get rfl | (simp; done)) ?_)
 try simp only [nfa, Nat.reduceAdd]
 refine dT 4 rfl (by decide +kernel) rfl (by first | ((repeat' first | assumption | exact Sub.refl _ | refine Sub.over ?_ ‹_› _); done) | (intro _ _ h; simp only [Hp.set] at h ⊢; grind)) (hop_fieldAddr rfl ?_)
 try simp only [nfa, Nat.reduceAdd]
 refine dT 5 rfl (by decide +kernel) rfl (by first | ((repeat' first | assumption | exact Sub.refl _ | refine Sub.over ?_ ‹_› _); done) | (intro _ _ h; simp only [Hp.set] at h ⊢; grind)) (hop_load rfl (by (repeat' first | assumption | exact hS | exact Hp.one_get _ _ | refine hT (by first | assumption | exact Ne.symm ‹_›) ?_)) (by first | rfl | assumption | exact mid_get0 rfl | exact mid_get rfl | (simp; done)) ?_)
 try simp only [nfa, Nat.reduceAdd]
 refine hD_do 6 rfl (by decide +kernel) rfl (hop_call ?_)
 simp only [nfa, Nat.reduceAdd]
 refine HT.mono (ph_Find_yes (hP.sub (by first | ((repeat' first | assumption | exact Sub.refl _ | refine Sub.over ?_ ‹_› _); done) | (intro _ _ h; simp only [Hp.set] at h ⊢; grind))) hf) ?_
 rintro _ _ ⟨rfl, rfl⟩
 try simp only [nfa, Nat.reduceAdd]
 refine ⟨.inr (by first | ((repeat' first | assumption | exact Sub.refl _ | refine Sub.over ?_ ‹_› _); done) | (intro _ _ h; simp only [Hp.set] at h ⊢; grind)), ?_⟩
 try simp only [nfa, Nat.reduceAdd]
 refine dT 7 rfl (by decide +kernel) rfl (by first | ((repeat' first | assumption | exact Sub.refl _ | refine Sub.over ?_ ‹_› _); done) | (intro _ _ h; simp only [Hp.set] at h ⊢; grind)) (hop_move ?_)
 try simp only [nfa, Nat.reduceAdd]
 refine dT 8 rfl (by decide +kernel) rfl (by first | ((repeat' first | assumption | exact Sub.refl _ | refine Sub.over ?_ ‹_› _); done) | (intro _ _ h; simp only [Hp.set] at h ⊢; grind)) (hop_extract rfl rfl ?_)
 try simp only [nfa, Nat.reduceAdd]
 refine dT 9 rfl (by decide +kernel) rfl (by first | ((repeat' first | assumption | exact Sub.refl _ | refine Sub.over ?_ ‹_› _); done) | (intro _ _ h; simp only [Hp.set] at h ⊢; grind)) (hop_extract rfl rfl ?_)
 try simp only [nfa, Nat.reduceAdd]
 refine dT 10 rfl (by decide +kernel) rfl (by first | ((repeat' first | assumption | exact Sub.refl _ | refine Sub.over ?_ ‹_› _); done) | (intro _ _ h; simp only [Hp.set] at h ⊢; grind)) (hop_assign ?_)
 try simp only [nfa, Nat.reduceAdd]
 refine dT 11 rfl (by decide +kernel) rfl (by first | ((repeat' first | assumption | exact Sub.refl _ | refine Sub.over ?_ ‹_› _); done) | (intro _ _ h; simp only [Hp.set] at h ⊢; grind)) (hop_assign ?_)
 try simp only [nfa, Nat.reduceAdd]
 refine hD_done (by decide +kernel) ?_
 try simp only [nfa, Nat.reduceAdd]
 refine sR ?_
 refine oM ?_
 try simp only [nfa, Nat.reduceAdd]
 refine hops_nil ?_
 try simp only [nfa, Nat.reduceAdd]
 refine hc_T rfl (by first | rfl | assumption | (simp; done) | (simp; omega) | (simp [*]; done)) ?_
 refine hc_seq ?_
 refine hc_seq ?_
 refine hc_drawP follows (by intros; simp [hng, hthen, hblock, hend]) ?_
 refine dT 0 rfl (by decide +kernel) rfl (by first | exact flt_sub _ | exact PFr.flt (by assumption) | exact Sub.trans (flt_sub _) (by first | ((repeat' first | assumption | exact Sub.refl _ | refine Sub.over ?_ ‹_› _); done) | (intro _ _ h; simp only [Hp.set] at h ⊢; grind))) (hop_move ?_)
 try simp only [nfa, Nat.reduceAdd]
 refine dT 1 rfl (by decide +kernel) rfl (by first | exact flt_sub _ | exact PFr.flt (by assumption) | exact Sub.trans (flt_sub _) (by first | ((repeat' first | assumption | exact Sub.refl _ | refine Sub.over ?_ ‹_› _); done) | (intro _ _ h; simp only [Hp.set] at h ⊢; grind))) (hop_nilCheck rfl ?_)
 try simp only [nfa, Nat.reduceAdd]
 refine dT 2 rfl (by decide +kernel) rfl (by first | exact flt_sub _ | exact PFr.flt (by assumption) | exact Sub.trans (flt_sub _) (by first | ((repeat' first | assumption | exact Sub.refl _ | refine Sub.over ?_ ‹_› _); done) | (intro _ _ h; simp only [Hp.set] at h ⊢; grind))) (hop_fieldAddr rfl ?_)
 try simp only [nfa, Nat.reduceAdd]
 refine dT 3 rfl (by decide +kernel) rfl (by first | exact flt_sub _ | exact PFr.flt (by assumption) | exact Sub.trans (flt_sub _) (by first | ((repeat' first | assumption | exact Sub.refl _ | refine Sub.over ?_ ‹_› _); done) | (intro _ _ h; simp only [Hp.set] at h ⊢; grind))) (hop_load rfl (by refine hFl (by (repeat' first | assumption | exact hS | exact Hp.one_get _ _ | refine hT (by first | assumption | exact Ne.symm ‹_›) ?_)) ?_; exact npOf) (by first | rfl | assumption | exact mid_get0 rfl | exact mid_get rfl | (simp; done)) ?_)
 try simp only [nfa, Nat.reduceAdd]
 refine dT 4 rfl (by decide +kernel) rfl (by first | exact flt_sub _ | exact PFr.flt (by assumption) | exact Sub.trans (flt_sub _) (by first | ((repeat' first | assumption | exact Sub.refl _ | refine Sub.over ?_ ‹_› _); done) | (intro _ _ h; simp only [Hp.set] at h ⊢; grind))) (hop_fieldAddr rfl ?_)
 try simp only [nfa, Nat.reduceAdd]
 refine dT 5 rfl (by decide +kernel) rfl (by first | exact flt_sub _ | exact PFr.flt (by assumption) | exact Sub.trans (flt_sub _) (by first | ((repeat' first | assumption | exact Sub.refl _ | refine Sub.over ?_ ‹_› _); done) | (intro _ _ h; simp only [Hp.set] at h ⊢; grind))) (hop_load rfl (by refine hFl (by (repeat' first | assumption | exact hS | exact Hp.one_get _ _ | refine hT (by first | assumption | exact Ne.symm ‹_›) ?_)) ?_; exact npOf) (by first | rfl | assumption | exact mid_get0 rfl | exact mid_get rfl | (simp; done)) ?_)
 try simp only [nfa, Nat.reduceAdd]
 refine hD_do 6 rfl (by decide +kernel) rfl (hop_call ?_)
 simp only [nfa, Nat.reduceAdd]
 refine HT.mono (ph_Pin (hP.sub (by first | ((repeat' first | assumption | exact Sub.refl _ | refine Sub.over ?_ ‹_› _); done) | (intro _ _ h; simp only [Hp.set] at h ⊢; grind)))) ?_
 rintro _ H1 ⟨rfl, hP1, f1⟩
 try simp only [nf, nf2]
 have H1_b1 := f1.keep' (b := b1) (by (repeat' first | assumption | exact hS | exact Hp.one_get _ _ | refine hT (by first | assumption | exact Ne.symm ‹_›) ?_)) (by exact npOf)
 have H1_b2 := f1.keep' (b := b2) (by (repeat' first | assumption | exact hS | exact Hp.one_get _ _ | refine hT (by first | assumption | exact Ne.symm ‹_›) ?_)) (by exact npOf)
 have H1_m := f1.keep' (b := m) (by (repeat' first | assumption | exact hS | exact Hp.one_get _ _ | refine hT (by first | assumption | exact Ne.symm ‹_›) ?_)) (by exact npOf)
 refine ⟨.inr (by first | exact flt_sub _ | exact PFr.flt (by assumption) | exact Sub.trans (flt_sub _) (by first | ((repeat' first | assumption | exact Sub.refl _ | refine Sub.over ?_ ‹_› _); done) | (intro _ _ h; simp only [Hp.set] at h ⊢; grind))), ?_⟩
 try simp only [nfa, Nat.reduceAdd]
 refine dT 7 rfl (by decide +kernel) rfl (by first | exact flt_sub _ | exact PFr.flt (by assumption) | exact Sub.trans (flt_sub _) (by first | ((repeat' first | assumption | exact Sub.refl _ | refine Sub.over ?_ ‹_› _); done) | (intro _ _ h; simp only [Hp.set] at h ⊢; grind))) (hop_assign ?_)
 try simp only [nfa, Nat.reduceAdd]
 refine hD_done (by decide +kernel) ?_
 try simp only [nfa, Nat.reduceAdd]
 refine sR ?_
 refine oM ?_
 try simp only [nfa, Nat.reduceAdd]
 refine hops_cons rfl (hop_bin rfl rfl rfl ?_)
 try simp only [nfa, Nat.reduceAdd]
 refine hops_nil ?_
 try simp only [nfa, Nat.reduceAdd]
 refine hc_T rfl (by first | rfl | assumption | (simp; done) | (simp; omega) | (simp [*]; done)) ?_
 refine sR ?_
 refine oM ?_
 refine hops_cons rfl (hop_call ?_)
 simp only [nfa, Nat.reduceAdd]
 refine HT.mono (machine_done) ?_
 rintro _ _ ⟨rfl, rfl⟩
 try simp only [nfa, Nat.reduceAdd]
 refine hops_cons rfl (hop_storeA rfl rfl (by rfl) (by first | assumption | (repeat' first | (intro _ h; cases h; done) | refine List.forall_mem_cons.2 ⟨by first | rfl | assumption, ?_⟩) | (simp [Value.oneCell']; done) | (simp [Value.oneCell', *]; done)) (by (repeat' first | assumption | exact hS | exact Hp.one_get _ _ | refine hT (by first | assumption | exact Ne.symm ‹_›) ?_)) (by first | assumption | omega | (simp; done) | (simp; omega) | (simp [frc] <;> omega)) (by decide) ?_)
 try simp only [nfa, Nat.reduceAdd]
 refine hops_nil ?_
 try simp only [nfa, Nat.reduceAdd]
 refine hc_ret ?_
 try simp only [hng, hthen, hblock]
 apply hend_1 rfl ?es (RV.cellW rfl (by (repeat' first | assumption | exact hS | exact Hp.one_get _ _ | refine hT (by first | assumption | exact Ne.symm ‹_›) ?_)) (by simp)) ?eR
 case es => exact Sub.refl _
 case eR =>
  exact ⟨rfl, by (repeat' first | assumption | refine PartH.upd ?_ (by (repeat' first | assumption | exact hS | exact Hp.one_get _ _ | refine hT (by first | assumption | exact Ne.symm ‹_›) ?_)) (by exact npOf) | refine PartH.new ?_ (by assumption)), by (repeat' first | exact f1.of (by first | ((repeat' first | assumption | exact Sub.refl _ | refine Sub.over ?_ ‹_› _); done) | (intro _ _ h; simp only [Hp.set] at h ⊢; grind)) | refine PFr.upd ?_ (by assumption))⟩
theorem fetch_hit_ok {H : Hp} {m p : Nat} {op pg to : Int} {tv : Value} {s : Pt} (hm : H m = some (row [.pointer (some ⟨p, 0, none⟩), .int .i64 op, .int .i64 pg, tv, .int .i64 to, .slice none 0 0] 86)) (hP : PartH H p s) {rop rpg roff rlen : Int} {da : Option Addr} {dn dc : Nat} {i : Nat} (hf : findPage s.fr rpg = some i) (he : (s.pin rpg).1 = 0) :
    HT prog 63 #[.pointer (some ⟨m, 0, none⟩), .agg #[.int .i64 rop, .int .i64 rpg, .int .i64 roff, .int .i64 rlen, .slice da dn dc]] H (fun v H' => v = .agg #[.bool true, .int .i64 0, .int .i64 0, .bool true, .int .i64 0, .slice none 0 0, .int .u64 0, .int .u64 0, .int .u64 0, .int .u64 0, .int .u64 0, .int .u64 0, .int .u64 1, .int .u64 0, .int .u64 0, .int .u64 0, .int .u64 0, .int .u64 0] ∧ PartH H' p (s.pin rpg).2 ∧ PFr H H') := by
 refine ht_of_body (args := [.pointer (some ⟨m, 0, none⟩), .agg #[.int .i64 rop, .int .i64 rpg, .int .i64 roff, .int .i64 rlen, .slice da dn dc]]) func63 rfl ?_
 simp only [ntmps63, List.length_cons, List.length_nil, Nat.reduceAdd, Nat.reduceSub, List.replicate_succ, List.replicate_zero, List.cons_append, List.nil_append]
 refine sR ?_
 refine hops_cons rfl (hop_box rfl rfl ?_)
 intro b1 hb1
 have hb1' := hb1
 try simp only [Hp.set_none, Hp.del_none] at hb1'
 have hb1_n : H b1 = none := by first | exact hb1' | exact hb1'.2 | exact hb1'.2.2 | exact hb1'.2.2.2 | exact hb1'.2.2.2.2 | exact hb1'.2.2.2.2.2 | exact hb1'.2.2.2.2.2.2
 have hb1_m : b1 ≠ m := (Hp.ne_of hm hb1_n).symm
 clear hb1'
 try simp only [nfa, Nat.reduceAdd]
 refine hops_cons rfl (hop_alloc (zl := [.bool false, .int .i64 0, .int .i64 0, .bool false, .int .i64 0, .slice none 0 0, .int .u64 0, .int .u64 0, .int .u64 0, .int .u64 0, .int .u64 0, .int .u64 0, .int .u64 0, .int .u64 0, .int .u64 0, .int .u64 0, .int .u64 0, .int .u64 0]) rfl ?_)
 intro b2 hb2
 have hb2' := hb2
 try simp only [Hp.set_none, Hp.del_none] at hb2'
 have hb2_n : H b2 = none := by first | exact hb2' | exact hb2'.2 | exact hb2'.2.2 | exact hb2'.2.2.2 | exact hb2'.2.2.2.2 | exact hb2'.2.2.2.2.2 | exact hb2'.2.2.2.2.2.2
 have hb2_b1 : b2 ≠ b1 := by first | exact hb2'.1 | exact hb2'.2.1 | exact hb2'.2.2.1 | exact hb2'.2.2.2.1 | exact hb2'.2.2.2.2.1 | exact hb2'.2.2.2.2.2.1
 have hb2_m : b2 ≠ m := (Hp.ne_of hm hb2_n).symm
 clear hb2'
 try simp only [nfa, Nat.reduceAdd]
 refine hops_nil ?_
 try simp only [nfa, Nat.reduceAdd]
 refine hc_seq ?_
 refine hc_seq ?_
 refine hc_draw0 follows (by intros; simp [hng, hthen, hblock, hend]) ?_
 refine dT 0 rfl (by decide +kernel) rfl (by first | ((repeat' first | assumption | exact Sub.refl _ | refine Sub.over ?_ ‹_› _); done) | (intro _ _ h; simp only [Hp.set] at h ⊢; grind)) (hop_move ?_)
 try simp only [nfa, Nat.reduceAdd]
 refine dT 1 rfl (by decide +kernel) rfl (by first | ((repeat' first | assumption | exact Sub.refl _ | refine Sub.over ?_ ‹_› _); done) | (intro _ _ h; simp only [Hp.set] at h ⊢; grind)) (hop_nilCheck rfl ?_)
 try simp only [nfa, Nat.reduceAdd]
 refine dT 2 rfl (by decide +kernel) rfl (by first | ((repeat' first | assumption | exact Sub.refl _ | refine Sub.over ?_ ‹_› _); done) | (intro _ _ h; simp only [Hp.set] at h ⊢; grind)) (hop_fieldAddr rfl ?_)
 try simp only [nfa, Nat.reduceAdd]
 refine dT 3 rfl (by decide +kernel) rfl (by first | ((repeat' first | assumption | exact Sub.refl _ | refine Sub.over ?_ ‹_› _); done) | (intro _ _ h; simp only [Hp.set] at h ⊢; grind)) (hop_load rfl (by (repeat' first | assumption | exact hS | exact Hp.one_get _ _ | refine hT (by first | assumption | exact Ne.symm ‹_›) ?_)) (by first | rfl | assumption | exact mid_get0 rfl | exact mid_get rfl | (simp; done)) ?_)
 try simp only [nfa, Nat.reduceAdd]
 refine dT 4 rfl (by decide +kernel) rfl (by first | ((repeat' first | assumption | exact Sub.refl _ | refine Sub.over ?_ ‹_› _); done) | (intro _ _ h; simp only [Hp.set] at h ⊢; grind)) (hop_fieldAddr rfl ?_)
 try simp only [nfa, Nat.reduceAdd]
 refine dT 5 rfl (by decide +kernel) rfl (by first | ((repeat' first | assumption | exact Sub.refl _ | refine Sub.over ?_ ‹_› _); done) | (intro _ _ h; simp only [Hp.set] at h ⊢; grind)) (hop_load rfl (by (repeat' first | assumption | exact hS | exact Hp.one_get _ _ | refine hT (by first | assumption | exact Ne.symm ‹_›) ?_)) (by first | rfl | assumption | exact mid_get0 rfl | exact mid_get rfl | (simp; done)) ?_)
 try simp only [nfa, Nat.reduceAdd]
 refine hD_do 6 rfl (by decide +kernel) rfl (hop_call ?_)
 simp only [nfa, Nat.reduceAdd]
 refine HT.mono (ph_Find_yes (hP.sub (by first | ((repeat' first | assumption | exact Sub.refl _ | refine Sub.over ?_ ‹_› _); done) | (intro _ _ h; simp only [Hp.set] at h ⊢; grind))) hf) ?_
 rintro _ _ ⟨rfl, rfl⟩
 try simp only [nfa, Nat.reduceAdd]
 refine ⟨.inr (by first | ((repeat' first | assumption | exact Sub.refl _ | refine Sub.over ?_ ‹_› _); done) | (intro _ _ h; simp only [Hp.set] at h ⊢; grind)), ?_⟩
 try simp only [nfa, Nat.reduceAdd]
 refine dT 7 rfl (by decide +kernel) rfl (by first | ((repeat' first | assumption | exact Sub.refl _ | refine Sub.over ?_ ‹_› _); done) | (intro _ _ h; simp only [Hp.set] at h ⊢; grind)) (hop_move ?_)
 try simp only [nfa, Nat.reduceAdd]
 refine dT 8 rfl (by decide +kernel) rfl (by first | ((repeat' first | assumption | exact Sub.refl _ | refine Sub.over ?_ ‹_› _); done) | (intro _ _ h; simp only [Hp.set] at h ⊢; grind)) (hop_extract rfl rfl ?_)
 try simp only [nfa, Nat.reduceAdd]
 refine dT 9 rfl (by decide +kernel) rfl (by first | ((repeat' first | assumption | exact Sub.refl _ | refine Sub.over ?_ ‹_› _); done) | (intro _ _ h; simp only [Hp.set] at h ⊢; grind)) (hop_extract rfl rfl ?_)
 try simp only [nfa, Nat.reduceAdd]
 refine dT 10 rfl (by decide +kernel) rfl (by first | ((repeat' first | assumption | exact Sub.refl _ | refine Sub.over ?_ ‹_› _); done) | (intro _ _ h; simp only [Hp.set] at h ⊢; grind)) (hop_assign ?_)
 try simp only [nfa, Nat.reduceAdd]
 refine dT 11 rfl (by decide +kernel) rfl (by first | ((repeat' first | assumption | exact Sub.refl _ | refine Sub.over ?_ ‹_› _); done) | (intro _ _ h; simp only [Hp.set] at h ⊢; grind)) (hop_assign ?_)
 try simp only [nfa, Nat.reduceAdd]
 refine hD_done (by decide +kernel) ?_
 try simp only [nfa, Nat.reduceAdd]
 refine sR ?_
 refine oM ?_
 try simp only [nfa, Nat.reduceAdd]
 refine hops_nil ?_
 try simp only [nfa, Nat.reduceAdd]
 refine hc_T rfl (by first | rfl | assumption | (simp; done) | (simp; omega) | (simp [*]; done)) ?_
 refine hc_seq ?_
 refine hc_seq ?_
 refine hc_drawP follows (by intros; simp [hng, hthen, hblock, hend]) ?_
 refine dT 0 rfl (by decide +kernel) rfl (by first | exact flt_sub _ | exact PFr.flt (by assumption) | exact Sub.trans (flt_sub _) (by first | ((repeat' first | assumption | exact Sub.refl _ | refine Sub.over ?_ ‹_› _); done) | (intro _ _ h; simp only [Hp.set] at h ⊢; grind))) (hop_move ?_)
 try simp only [nfa, Nat.reduceAdd]
 refine dT 1 rfl (by decide +kernel) rfl (by first | exact flt_sub _ | exact PFr.flt (by assumption) | exact Sub.trans (flt_sub _) (by first | ((repeat' first | assumption | exact Sub.refl _ | refine Sub.over ?_ ‹_› _); done) | (intro _ _ h; simp only [Hp.set] at h ⊢; grind))) (hop_nilCheck rfl ?_)
 try simp only [nfa, Nat.reduceAdd]
 refine dT 2 rfl (by decide +kernel) rfl (by first | exact flt_sub _ | exact PFr.flt (by assumption) | exact Sub.trans (flt_sub _) (by first | ((repeat' first | assumption | exact Sub.refl _ | refine Sub.over ?_ ‹_› _); done) | (intro _ _ h; simp only [Hp.set] at h ⊢; grind))) (hop_fieldAddr rfl ?_)
 try simp only [nfa, Nat.reduceAdd]
 refine dT 3 rfl (by decide +kernel) rfl (by first | exact flt_sub _ | exact PFr.flt (by assumption) | exact Sub.trans (flt_sub _) (by first | ((repeat' first | assumption | exact Sub.refl _ | refine Sub.over ?_ ‹_› _); done) | (intro _ _ h; simp only [Hp.set] at h ⊢; grind))) (hop_load rfl (by refine hFl (by (repeat' first | assumption | exact hS | exact Hp.one_get _ _ | refine hT (by first | assumption | exact Ne.symm ‹_›) ?_)) ?_; exact npOf) (by first | rfl | assumption | exact mid_get0 rfl | exact mid_get rfl | (simp; done)) ?_)
 try simp only [nfa, Nat.reduceAdd]
 refine dT 4 rfl (by decide +kernel) rfl (by first | exact flt_sub _ | exact PFr.flt (by assumption) | exact Sub.trans (flt_sub _) (by first | ((repeat' first | assumption | exact Sub.refl _ | refine Sub.over ?_ ‹_› _); done) | (intro _ _ h; simp only [Hp.set] at h ⊢; grind))) (hop_fieldAddr rfl ?_)
 try simp only [nfa, Nat.reduceAdd]
 refine dT 5 rfl (by decide +kernel) rfl (by first | exact flt_sub _ | exact PFr.flt (by assumption) | exact Sub.trans (flt_sub _) (by first | ((repeat' first | assumption | exact Sub.refl _ | refine Sub.over ?_ ‹_› _); done) | (intro _ _ h; simp only [Hp.set] at h ⊢; grind))) (hop_load rfl (by refine hFl (by (repeat' first | assumption | exact hS | exact Hp.one_get _ _ | refine hT (by first | assumption | exact Ne.symm ‹_›) ?_)) ?_; exact npOf) (by first | rfl | assumption | exact mid_get0 rfl | exact mid_get rfl | (simp; done)) ?_)
 try simp only [nfa, Nat.reduceAdd]
 refine hD_do 6 rfl (by decide +kernel) rfl (hop_call ?_)
 simp only [nfa, Nat.reduceAdd]
 refine HT.mono (ph_Pin (hP.sub (by first | ((repeat' first | assumption | exact Sub.refl _ | refine Sub.over ?_ ‹_› _); done) | (intro _ _ h; simp only [Hp.set] at h ⊢; grind)))) ?_
 rintro _ H1 ⟨rfl, hP1, f1⟩
 try simp only [nf, nf2]
 have H1_b1 := f1.keep' (b := b1) (by (repeat' first | assumption | exact hS | exact Hp.one_get _ _ | refine hT (by first | assumption | exact Ne.symm ‹_›) ?_)) (by exact npOf)
 have H1_b2 := f1.keep' (b := b2) (by (repeat' first | assumption | exact hS | exact Hp.one_get _ _ | refine hT (by first | assumption | exact Ne.symm ‹_›) ?_)) (by exact npOf)
 have H1_m := f1.keep' (b := m) (by (repeat' first | assumption | exact hS | exact Hp.one_get _ _ | refine hT (by first | assumption | exact Ne.symm ‹_›) ?_)) (by exact npOf)
 refine ⟨.inr (by first | exact flt_sub _ | exact PFr.flt (by assumption) | exact Sub.trans (flt_sub _) (by first | ((repeat' first | assumption | exact Sub.refl _ | refine Sub.over ?_ ‹_› _); done) | (intro _ _ h; simp only [Hp.set] at h ⊢; grind))), ?_⟩
 try simp only [nfa, Nat.reduceAdd]
 refine dT 7 rfl (by decide +kernel) rfl (by first | exact flt_sub _ | exact PFr.flt (by assumption) | exact Sub.trans (flt_sub _) (by first | ((repeat' first | assumption | exact Sub.refl _ | refine Sub.over ?_ ‹_› _); done) | (intro _ _ h; simp only [Hp.set] at h ⊢; grind))) (hop_assign ?_)
 try simp only [nfa, Nat.reduceAdd]
 refine hD_done (by decide +kernel) ?_
 try simp only [nfa, Nat.reduceAdd]
 refine sR ?_
 refine oM ?_
 try simp only [nfa, Nat.reduceAdd]
 refine hops_cons rfl (hop_bin rfl rfl rfl ?_)
 try simp only [nfa, Nat.reduceAdd]
 refine hops_nil ?_
 try simp only [nfa, Nat.reduceAdd]
 refine hc_F rfl (by first | rfl | assumption | (simp; done) | (simp; omega) | (simp [*]; done)) ?_
 refine hc_skip ?_
 try simp only [nfa, Nat.reduceAdd]
 refine sR ?_
 refine hops_cons rfl (hop_build (by simp only [fillL, wr, Value.cells, List.map_cons, List.map_nil, nf, nf2]; rfl) ?_)
 try simp only [nfa, Nat.reduceAdd]
 refine hops_cons rfl (hop_build (by simp only [fillL, wr, Value.cells, List.map_cons, List.map_nil, nf, nf2]; rfl) ?_)
 try simp only [nfa, Nat.reduceAdd]
 refine hops_cons rfl (hop_build (by simp only [fillL, wr, Value.cells, List.map_cons, List.map_nil, nf, nf2]; rfl) ?_)
 try simp only [nfa, Nat.reduceAdd]
 refine hops_cons rfl (hop_storeA rfl rfl (by rfl) (by first | assumption | (repeat' first | (intro _ h; cases h; done) | refine List.forall_mem_cons.2 ⟨by first | rfl | assumption, ?_⟩) | (simp [Value.oneCell']; done) | (simp [Value.oneCell', *]; done)) (by (repeat' first | assumption | exact hS | exact Hp.one_get _ _ | refine hT (by first | assumption | exact Ne.symm ‹_›) ?_)) (by first | assumption | omega | (simp; done) | (simp; omega) | (simp [frc] <;> omega)) (by decide) ?_)
 try simp only [nfa, Nat.reduceAdd]
 refine hops_nil ?_
 try simp only [nfa, Nat.reduceAdd]
 refine hc_ret ?_
 try simp only [hng, hthen, hblock]
 apply hend_1 rfl ?es (RV.cellW rfl (by (repeat' first | assumption | exact hS | exact Hp.one_get _ _ | refine hT (by first | assumption | exact Ne.symm ‹_›) ?_)) (by simp)) ?eR
 case es => exact Sub.refl _
 case eR =>
  exact ⟨rfl, by (repeat' first | assumption | refine PartH.upd ?_ (by (repeat' first | assumption | exact hS | exact Hp.one_get _ _ | refine hT (by first | assumption | exact Ne.symm ‹_›) ?_)) (by exact npOf) | refine PartH.new ?_ (by assumption)), by (repeat' first | exact f1.of (by first | ((repeat' first | assumption | exact Sub.refl _ | refine Sub.over ?_ ‹_› _); done) | (intro _ _ h; simp only [Hp.set] at h ⊢; grind)) | refine PFr.upd ?_ (by assumption))⟩
theorem fetch_none {H : Hp} {m p : Nat} {op pg to : Int} {tv : Value} {s : Pt} (hm : H m = some (row [.pointer (some ⟨p, 0, none⟩), .int .i64 op, .int .i64 pg, tv, .int .i64 to, .slice none 0 0] 86)) (hP : PartH H p s) {rop rpg roff rlen : Int} {da : Option Addr} {dn dc : Nat} (hf : findPage s.fr rpg = none) (hv : s.victim.1 = none) :
    HT prog 63 #[.pointer (some ⟨m, 0, none⟩), .agg #[.int .i64 rop, .int .i64 rpg, .int .i64 roff, .int .i64 rlen, .slice da dn dc]] H (fun v H' => v = .agg #[.bool true, .int .i64 0, .int .i64 7, .bool false, .int .i64 0, .slice none 0 0, .int .u64 0, .int .u64 0, .int .u64 0, .int .u64 0, .int .u64 0, .int .u64 0, .int .u64 0, .int .u64 1, .int .u64 0, .int .u64 0, .int .u64 0, .int .u64 0] ∧ PartH H' p s.victim.2 ∧ PFr H H') := by
 refine ht_of_body (args := [.pointer (some ⟨m, 0, none⟩), .agg #[.int .i64 rop, .int .i64 rpg, .int .i64 roff, .int .i64 rlen, .slice da dn dc]]) func63 rfl ?_
 simp only [ntmps63, List.length_cons, List.length_nil, Nat.reduceAdd, Nat.reduceSub, List.replicate_succ, List.replicate_zero, List.cons_append, List.nil_append]
 refine sR ?_
 refine hops_cons rfl (hop_box rfl rfl ?_)
 intro b1 hb1
 have hb1' := hb1
 try simp only [Hp.set_none, Hp.del_none] at hb1'
 have hb1_n : H b1 = none := by first | exact hb1' | exact hb1'.2 | exact hb1'.2.2 | exact hb1'.2.2.2 | exact hb1'.2.2.2.2 | exact hb1'.2.2.2.2.2 | exact hb1'.2.2.2.2.2.2
 have hb1_m : b1 ≠ m := (Hp.ne_of hm hb1_n).symm
 clear hb1'
 try simp only [nfa, Nat.reduceAdd]
 refine hops_cons rfl (hop_alloc (zl := [.bool false, .int .i64 0, .int .i64 0, .bool false, .int .i64 0, .slice none 0 0, .int .u64 0, .int .u64 0, .int .u64 0, .int .u64 0, .int .u64 0, .int .u64 0, .int .u64 0, .int .u64 0, .int .u64 0, .int .u64 0, .int .u64 0, .int .u64 0]) rfl ?_)
 intro b2 hb2
 have hb2' := hb2
 try simp only [Hp.set_none, Hp.del_none] at hb2'
 have hb2_n : H b2 = none := by first | exact hb2' | exact hb2'.2 | exact hb2'.2.2 | exact hb2'.2.2.2 | exact hb2'.2.2.2.2 | exact hb2'.2.2.2.2.2 | exact hb2'.2.2.2.2.2.2
 have hb2_b1 : b2 ≠ b1 := by first | exact hb2'.1 | exact hb2'.2.1 | exact hb2'.2.2.1 | exact hb2'.2.2.2.1 | exact hb2'.2.2.2.2.1 | exact hb2'.2.2.2.2.2.1
 have hb2_m : b2 ≠ m := (Hp.ne_of hm hb2_n).symm
 clear hb2'
 try simp only [nfa, Nat.reduceAdd]
 refine hops_nil ?_
 try simp only [nfa, Nat.reduceAdd]
 refine hc_seq ?_
 refine hc_seq ?_
 refine hc_draw0 follows (by intros; simp [hng, hthen, hblock, hend]) ?_
 refine dT 0 rfl (by decide +kernel) rfl (by first | ((repeat' first | assumption | exact Sub.refl _ | refine Sub.over ?_ ‹_› _); done) | (intro _ _ h; simp only [Hp.set] at h ⊢; grind)) (hop_move ?_)
 try simp only [nfa, Nat.reduceAdd]
 refine dT 1 rfl (by decide +kernel) rfl (by first | ((repeat' first | assumption | exact Sub.refl _ | refine Sub.over ?_ ‹_› _); done) | (intro _ _ h; simp only [Hp.set] at h ⊢; grind)) (hop_nilCheck rfl ?_)
 try simp only [nfa, Nat.reduceAdd]
 refine dT 2 rfl (by decide +kernel) rfl (by first | ((repeat' first | assumption | exact Sub.refl _ | refine Sub.over ?_ ‹_› _); done) | (intro _ _ h; simp only [Hp.set] at h ⊢; grind)) (hop_fieldAddr rfl ?_)
 try simp only [nfa, Nat.reduceAdd]
 refine dT 3 rfl (by decide +kernel) rfl (by first | ((repeat' first | assumption | exact Sub.refl _ | refine Sub.over ?_ ‹_› _); done) | (intro _ _ h; simp only [Hp.set] at h ⊢; grind)) (hop_load rfl (by (repeat' first | assumption | exact hS | exact Hp.one_get _ _ | refine hT (by first | assumption | exact Ne.symm ‹_›) ?_)) (by first | rfl | assumption | exact mid_get0 rfl | exact mid_get rfl | (simp; done)) ?_)
 try simp only [nfa, Nat.reduceAdd]
 refine dT 4 rfl (by decide +kernel) rfl (by first | ((repeat' first | assumption | exact Sub.refl _ | refine Sub.over ?_ ‹_› _); done) | (intro _ _ h; simp only [Hp.set] at h ⊢; grind)) (hop_fieldAddr rfl ?_)
 try simp only [nfa, Nat.reduceAdd]
 refine dT 5 rfl (by decide +kernel) rfl (by first | ((repeat' first | assumption | exact Sub.refl _ | refine Sub.over ?_ ‹_› _); done) | (intro _ _ h; simp only [Hp.set] at h ⊢; grind)) (hop_load rfl (by (repeat' first | assumption | exact hS | exact Hp.one_get _ _ | refine hT (by first | assumption | exact Ne.symm ‹_›) ?_)) (by first | rfl | assumption | exact mid_get0 rfl | exact mid_get rfl | (simp; done)) ?_)
 try simp only [nfa, Nat.reduceAdd]
 refine hD_do 6 rfl (by decide +kernel) rfl (hop_call ?_)
 simp only [nfa, Nat.reduceAdd]
 refine HT.mono (ph_Find_no (hP.sub (by first | ((repeat' first | assumption | exact Sub.refl _ | refine Sub.over ?_ ‹_› _); done) | (intro _ _ h; simp only [Hp.set] at h ⊢; grind))) hf) ?_
 rintro _ _ ⟨rfl, rfl⟩
 try simp only [nfa, Nat.reduceAdd]
 refine ⟨.inr (by first | ((repeat' first | assumption | exact Sub.refl _ | refine Sub.over ?_ ‹_› _); done) | (intro _ _ h; simp only [Hp.set] at h ⊢; grind)), ?_⟩
 try simp only [nfa, Nat.reduceAdd]
 refine dT 7 rfl (by decide +kernel) rfl (by first | ((repeat' first | assumption | exact Sub.refl _ | refine Sub.over ?_ ‹_› _); done) | (intro _ _ h; simp only [Hp.set] at h ⊢; grind)) (hop_move ?_)
 try simp only [nfa, Nat.reduceAdd]
 refine dT 8 rfl (by decide +kernel) rfl (by first | ((repeat' first | assumption | exact Sub.refl _ | refine Sub.over ?_ ‹_› _); done) | (intro _ _ h; simp only [Hp.set] at h ⊢; grind)) (hop_extract rfl rfl ?_)
 try simp only [nfa, Nat.reduceAdd]
 refine dT 9 rfl (by decide +kernel) rfl (by first | ((repeat' first | assumption | exact Sub.refl _ | refine Sub.over ?_ ‹_› _); done) | (intro _ _ h; simp only [Hp.set] at h ⊢; grind)) (hop_extract rfl rfl ?_)
 try simp only [nfa, Nat.reduceAdd]
 refine dT 10 rfl (by decide +kernel) rfl (by first | ((repeat' first | assumption | exact Sub.refl _ | refine Sub.over ?_ ‹_› _); done) | (intro _ _ h; simp only [Hp.set] at h ⊢; grind)) (hop_assign ?_)
 try simp only [nfa, Nat.reduceAdd]
 refine dT 11 rfl (by decide +kernel) rfl (by first | ((repeat' first | assumption | exact Sub.refl _ | refine Sub.over ?_ ‹_› _); done) | (intro _ _ h; simp only [Hp.set] at h ⊢; grind)) (hop_assign ?_)
 try simp only [nfa, Nat.reduceAdd]
 refine hD_done (by decide +kernel) ?_
 try simp only [nfa, Nat.reduceAdd]
 refine sR ?_
 refine oM ?_
 try simp only [nfa, Nat.reduceAdd]
 refine hops_nil ?_
 try simp only [nfa, Nat.reduceAdd]
 refine hc_F rfl (by first | rfl | assumption | (simp; done) | (simp; omega) | (simp [*]; done)) ?_
 refine hc_skip ?_
 try simp only [nfa, Nat.reduceAdd]
 refine sR ?_
 refine hops_cons rfl (hop_build (by simp only [fillL, wr, Value.cells, List.map_cons, List.map_nil, nf, nf2]; rfl) ?_)
 try simp only [nfa, Nat.reduceAdd]
 refine hops_cons rfl (hop_build (by simp only [fillL, wr, Value.cells, List.map_cons, List.map_nil, nf, nf2]; rfl) ?_)
 try simp only [nfa, Nat.reduceAdd]
 refine hops_cons rfl (hop_alloc (zl := [.bool false, .int .i64 0, .int .i64 0, .bool false, .int .i64 0, .slice none 0 0, .int .u64 0, .int .u64 0, .int .u64 0, .int .u64 0, .int .u64 0, .int .u64 0, .int .u64 0, .int .u64 0, .int .u64 0, .int .u64 0, .int .u64 0, .int .u64 0]) rfl ?_)
 intro b3 hb3
 have hb3' := hb3
 try simp only [Hp.set_none, Hp.del_none] at hb3'
 have hb3_n : H b3 = none := by first | exact hb3' | exact hb3'.2 | exact hb3'.2.2 | exact hb3'.2.2.2 | exact hb3'.2.2.2.2 | exact hb3'.2.2.2.2.2 | exact hb3'.2.2.2.2.2.2
 have hb3_b1 : b3 ≠ b1 := by first | exact hb3'.1 | exact hb3'.2.1 | exact hb3'.2.2.1 | exact hb3'.2.2.2.1 | exact hb3'.2.2.2.2.1 | exact hb3'.2.2.2.2.2.1
 have hb3_b2 : b3 ≠ b2 := by first | exact hb3'.1 | exact hb3'.2.1 | exact hb3'.2.2.1 | exact hb3'.2.2.2.1 | exact hb3'.2.2.2.2.1 | exact hb3'.2.2.2.2.2.1
 have hb3_m : b3 ≠ m := (Hp.ne_of hm hb3_n).symm
 clear hb3'
 try simp only [nfa, Nat.reduceAdd]
 refine hops_cons rfl (hop_storeA rfl rfl (by rfl) (by first | assumption | (repeat' first | (intro _ h; cases h; done) | refine List.forall_mem_cons.2 ⟨by first | rfl | assumption, ?_⟩) | (simp [Value.oneCell']; done) | (simp [Value.oneCell', *]; done)) (by (repeat' first | assumption | exact hS | exact Hp.one_get _ _ | refine hT (by first | assumption | exact Ne.symm ‹_›) ?_)) (by first | assumption | omega | (simp; done) | (simp; omega) | (simp [frc] <;> omega)) (by decide) ?_)
 try simp only [nfa, Nat.reduceAdd]
 refine hops_nil ?_
 try simp only [nfa, Nat.reduceAdd]
 refine sR ?_
 refine oM ?_
 refine oN rfl ?_
 refine oF rfl ?_
 refine hops_cons rfl (hop_load rfl (by (repeat' first | assumption | exact hS | exact Hp.one_get _ _ | refine hT (by first | assumption | exact Ne.symm ‹_›) ?_)) (by first | rfl | assumption | exact mid_get0 rfl | exact mid_get rfl | (simp; done)) ?_)
 try simp only [nfa, Nat.reduceAdd]
 refine hops_cons rfl (hop_call ?_)
 simp only [nfa, Nat.reduceAdd]
 refine HT.mono (ph_Victim (hP.sub (by first | ((repeat' first | assumption | exact Sub.refl _ | refine Sub.over ?_ ‹_› _); done) | (intro _ _ h; simp only [Hp.set] at h ⊢; grind)))) ?_
 rintro _ H1 ⟨rfl, hP1, f1⟩
 simp only [hv, Option.getD_some, Option.getD_none, Option.isSome_some, Option.isSome_none]
 try simp only [nf, nf2]
 have H1_b1 := f1.keep' (b := b1) (by (repeat' first | assumption | exact hS | exact Hp.one_get _ _ | refine hT (by first | assumption | exact Ne.symm ‹_›) ?_)) (by exact npOf)
 have H1_b2 := f1.keep' (b := b2) (by (repeat' first | assumption | exact hS | exact Hp.one_get _ _ | refine hT (by first | assumption | exact Ne.symm ‹_›) ?_)) (by exact npOf)
 have H1_b3 := f1.keep' (b := b3) (by (repeat' first | assumption | exact hS | exact Hp.one_get _ _ | refine hT (by first | assumption | exact Ne.symm ‹_›) ?_)) (by exact npOf)
 have H1_m := f1.keep' (b := m) (by (repeat' first | assumption | exact hS | exact Hp.one_get _ _ | refine hT (by first | assumption | exact Ne.symm ‹_›) ?_)) (by exact npOf)
 refine oM ?_
 refine hops_cons rfl (hop_extract rfl rfl ?_)
 refine hops_cons rfl (hop_extract rfl rfl ?_)
 refine oA ?_
 refine oA ?_
 try simp only [nfa, Nat.reduceAdd]
 refine hops_nil ?_
 try simp only [nfa, Nat.reduceAdd]
 refine hc_seq ?_
 refine sR ?_
 refine oM ?_
 try simp only [nfa, Nat.reduceAdd]
 refine hops_cons rfl (hop_not rfl ?_)
 try simp only [nfa, Nat.reduceAdd]
 refine hops_nil ?_
 try simp only [nfa, Nat.reduceAdd]
 refine hc_T rfl (by first | rfl | assumption | (simp; done) | (simp; omega) | (simp [*]; done)) ?_
 refine sR ?_
 refine oF rfl ?_
 refine hops_cons rfl (hop_store rfl rfl (by first | rfl | assumption) (by (repeat' first | assumption | exact hS | exact Hp.one_get _ _ | refine hT (by first | assumption | exact Ne.symm ‹_›) ?_)) (by first | assumption | omega | (simp; done) | (simp; omega) | (simp [frc] <;> omega)) ?_)
 try simp only [nfa, Nat.reduceAdd]
 refine oF rfl ?_
 refine oF rfl ?_
 refine hops_cons rfl (hop_store rfl rfl (by first | rfl | assumption) (by (repeat' first | assumption | exact hS | exact Hp.one_get _ _ | refine hT (by first | assumption | exact Ne.symm ‹_›) ?_)) (by first | assumption | omega | (simp; done) | (simp; omega) | (simp [frc] <;> omega)) ?_)
 try simp only [nfa, Nat.reduceAdd]
 refine hops_nil ?_
 try simp only [nfa, Nat.reduceAdd]
 refine sR ?_
 refine hops_cons rfl (hop_loadA rfl (by (repeat' first | assumption | exact hS | exact Hp.one_get _ _ | refine hT (by first | assumption | exact Ne.symm ‹_›) ?_)) (by first | assumption | omega | (simp; done) | (simp; omega) | (simp [frc] <;> omega)) ?_)
 try simp only [nfa, Nat.reduceAdd]
 refine hops_cons rfl (hop_storeA rfl rfl (by rfl) (by first | assumption | (repeat' first | (intro _ h; cases h; done) | refine List.forall_mem_cons.2 ⟨by first | rfl | assumption, ?_⟩) | (simp [Value.oneCell']; done) | (simp [Value.oneCell', *]; done)) (by (repeat' first | assumption | exact hS | exact Hp.one_get _ _ | refine hT (by first | assumption | exact Ne.symm ‹_›) ?_)) (by first | assumption | omega | (simp; done) | (simp; omega) | (simp [frc] <;> omega)) (by decide) ?_)
 try simp only [nfa, Nat.reduceAdd]
 refine hops_nil ?_
 try simp only [nfa, Nat.reduceAdd]
 refine hc_ret ?_
 try simp only [hng, hthen, hblock]
 apply hend_1 rfl ?es (RV.cellW rfl (by (repeat' first | assumption | exact hS | exact Hp.one_get _ _ | refine hT (by first | assumption | exact Ne.symm ‹_›) ?_)) (by simp)) ?eR
 case es => exact Sub.refl _
 case eR =>
  exact ⟨rfl, by (repeat' first | assumption | refine PartH.upd ?_ (by (repeat' first | assumption | exact hS | exact Hp.one_get _ _ | refine hT (by first | assumption | exact Ne.symm ‹_›) ?_)) (by exact npOf) | refine PartH.new ?_ (by assumption)), by (repeat' first | exact f1.of (by first | ((repeat' first | assumption | exact Sub.refl _ | refine Sub.over ?_ ‹_› _); done) | (intro _ _ h; simp only [Hp.set] at h ⊢; grind)) | refine PFr.upd ?_ (by assumption))⟩
theorem plan_Fetch_all {H0 : Hp} {pg old : Int} {d : Bool} : HT prog 82 #[.int .i64 pg, .bool d, .int .i64 old] H0 (RetS H0 (flat ioc (fetchOf pg d old)) (fetchOf pg d old).length 106 3) := by
  cases d
  · exact plan_Fetch_n
  · exact plan_Fetch_d
theorem Pt.victim_ok_len (s : Pt) (ok : s.Ok) {i : Nat} {f : Fr} (hi : s.victim.2.fr[i]? = some f) : f.b.length = 32 := (victim_ok ok).len f (List.mem_of_getElem? hi)
theorem fetch_clean {H : Hp} {m p : Nat} {op pg to : Int} {tv : Value} {s : Pt} (hm : H m = some (row [.pointer (some ⟨p, 0, none⟩), .int .i64 op, .int .i64 pg, tv, .int .i64 to, .slice none 0 0] 86)) (hP : PartH H p s) {rop rpg roff rlen : Int} {da : Option Addr} {dn dc : Nat} {i : Nat} {f : Fr} (hf : findPage s.fr rpg = none) (hv : s.victim.1 = some i) (hi : s.victim.2.fr[i]? = some f) (hud : (f.used && !f.dirty) = true) (hpn : f.pins = 0) :
    HT prog 63 #[.pointer (some ⟨m, 0, none⟩), .agg #[.int .i64 rop, .int .i64 rpg, .int .i64 roff, .int .i64 rlen, .slice da dn dc]] H (fun v H' => v = .agg #[.bool false, .int .i64 0, .int .i64 0, .bool false, .int .i64 0, .slice none 0 0, .int .u64 0, .int .u64 0, .int .u64 0, .int .u64 0, .int .u64 0, .int .u64 0, .int .u64 0, .int .u64 1, .int .u64 1, .int .u64 0, .int .u64 0, .int .u64 0] ∧ ∃ tv', H' m = some (row [.pointer (some ⟨p, 0, none⟩), .int .i64 op, .int .i64 pg, tv', .int .i64 (i : Int), .slice none 0 0] 86) ∧ rdS H' tv' (fetchOf rpg f.dirty f.page).length (flat ioc (fetchOf rpg f.dirty f.page)) 106 3 ∧ PartH H' p (s.victim.2.with i Fr.zero)) := by
 have hfl := s.victim_ok_len hP.1 hi
 have hwf : wr (frc Fr.zero) 0 (frc f) = frc f := wr_all (by rw [frz_len, frc_length hfl])
 refine ht_of_body (args := [.pointer (some ⟨m, 0, none⟩), .agg #[.int .i64 rop, .int .i64 rpg, .int .i64 roff, .int .i64 rlen, .slice da dn dc]]) func63 rfl ?_
 simp only [ntmps63, List.length_cons, List.length_nil, Nat.reduceAdd, Nat.reduceSub, List.replicate_succ, List.replicate_zero, List.cons_append, List.nil_append]
 refine sR ?_
 refine hops_cons rfl (hop_box rfl rfl ?_)
 intro b1 hb1
 have hb1' := hb1
 try simp only [Hp.set_none, Hp.del_none] at hb1'
 have hb1_n : H b1 = none := by first | exact hb1' | exact hb1'.2 | exact hb1'.2.2 | exact hb1'.2.2.2 | exact hb1'.2.2.2.2 | exact hb1'.2.2.2.2.2 | exact hb1'.2.2.2.2.2.2
 have hb1_m : b1 ≠ m := (Hp.ne_of hm hb1_n).symm
 clear hb1'
 try simp only [nfa, Nat.reduceAdd, hwf]
 refine hops_cons rfl (hop_alloc (zl := [.bool false, .int .i64 0, .int .i64 0, .bool false, .int .i64 0, .slice none 0 0, .int .u64 0, .int .u64 0, .int .u64 0, .int .u64 0, .int .u64 0, .int .u64 0, .int .u64 0, .int .u64 0, .int .u64 0, .int .u64 0, .int .u64 0, .int .u64 0]) rfl ?_)
 intro b2 hb2
 have hb2' := hb2
 try simp only [Hp.set_none, Hp.del_none] at hb2'
 have hb2_n : H b2 = none := by first | exact hb2' | exact hb2'.2 | exact hb2'.2.2 | exact hb2'.2.2.2 | exact hb2'.2.2.2.2 | exact hb2'.2.2.2.2.2 | exact hb2'.2.2.2.2.2.2
 have hb2_b1 : b2 ≠ b1 := by first | exact hb2'.1 | exact hb2'.2.1 | exact hb2'.2.2.1 | exact hb2'.2.2.2.1 | exact hb2'.2.2.2.2.1 | exact hb2'.2.2.2.2.2.1
 have hb2_m : b2 ≠ m := (Hp.ne_of hm hb2_n).symm
 clear hb2'
 try simp only [nfa, Nat.reduceAdd, hwf]
 refine hops_nil ?_
 try simp only [nfa, Nat.reduceAdd, hwf]
 refine hc_seq ?_
 refine hc_seq ?_
 refine hc_draw0 follows (by intros; simp [hng, hthen, hblock, hend]) ?_
 refine dT 0 rfl (by decide +kernel) rfl (by first | ((repeat' first | assumption | exact Sub.refl _ | refine Sub.over ?_ ‹_› _); done) | (intro _ _ h; simp only [Hp.set] at h ⊢; grind)) (hop_move ?_)
 try simp only [nfa, Nat.reduceAdd, hwf]
 refine dT 1 rfl (by decide +kernel) rfl (by first | ((repeat' first | assumption | exact Sub.refl _ | refine Sub.over ?_ ‹_› _); done) | (intro _ _ h; simp only [Hp.set] at h ⊢; grind)) (hop_nilCheck rfl ?_)
 try simp only [nfa, Nat.reduceAdd, hwf]
 refine dT 2 rfl (by decide +kernel) rfl (by first | ((repeat' first | assumption | exact Sub.refl _ | refine Sub.over ?_ ‹_› _); done) | (intro _ _ h; simp only [Hp.set] at h ⊢; grind)) (hop_fieldAddr rfl ?_)
 try simp only [nfa, Nat.reduceAdd, hwf]
 refine dT 3 rfl (by decide +kernel) rfl (by first | ((repeat' first | assumption | exact Sub.refl _ | refine Sub.over ?_ ‹_› _); done) | (intro _ _ h; simp only [Hp.set] at h ⊢; grind)) (hop_load rfl (by (repeat' first | assumption | exact hS | exact Hp.one_get _ _ | refine hT (by first | assumption | exact Ne.symm ‹_›) ?_)) (by first | rfl | assumption | exact mid_get0 rfl | exact mid_get rfl | (simp; done)) ?_)
 try simp only [nfa, Nat.reduceAdd, hwf]
 refine dT 4 rfl (by decide +kernel) rfl (by first | ((repeat' first | assumption | exact Sub.refl _ | refine Sub.over ?_ ‹_› _); done) | (intro _ _ h; simp only [Hp.set] at h ⊢; grind)) (hop_fieldAddr rfl ?_)
 try simp only [nfa, Nat.reduceAdd, hwf]
 refine dT 5 rfl (by decide +kernel) rfl (by first | ((repeat' first | assumption | exact Sub.refl _ | refine Sub.over ?_ ‹_› _); done) | (intro _ _ h; simp only [Hp.set] at h ⊢; grind)) (hop_load rfl (by (repeat' first | assumption | exact hS | exact Hp.one_get _ _ | refine hT (by first | assumption | exact Ne.symm ‹_›) ?_)) (by first | rfl | assumption | exact mid_get0 rfl | exact mid_get rfl | (simp; done)) ?_)
 try simp only [nfa, Nat.reduceAdd, hwf]
 refine hD_do 6 rfl (by decide +kernel) rfl (hop_call ?_)
 simp only [nfa, Nat.reduceAdd, hwf]
 refine HT.mono (ph_Find_no (by (repeat' first | assumption | refine PartH.upd ?_ (by (repeat' first | assumption | exact hS | exact Hp.one_get _ _ | refine hT (by first | assumption | exact Ne.symm ‹_›) ?_)) (by exact npOf) | refine PartH.new ?_ (by assumption))) hf) ?_
 rintro _ _ ⟨rfl, rfl⟩
 try simp only [nfa, Nat.reduceAdd, hwf]
 refine ⟨.inr (by first | ((repeat' first | assumption | exact Sub.refl _ | refine Sub.over ?_ ‹_› _); done) | (intro _ _ h; simp only [Hp.set] at h ⊢; grind)), ?_⟩
 try simp only [nfa, Nat.reduceAdd, hwf]
 refine dT 7 rfl (by decide +kernel) rfl (by first | ((repeat' first | assumption | exact Sub.refl _ | refine Sub.over ?_ ‹_› _); done) | (intro _ _ h; simp only [Hp.set] at h ⊢; grind)) (hop_move ?_)
 try simp only [nfa, Nat.reduceAdd, hwf]
 refine dT 8 rfl (by decide +kernel) rfl (by first | ((repeat' first | assumption | exact Sub.refl _ | refine Sub.over ?_ ‹_› _); done) | (intro _ _ h; simp only [Hp.set] at h ⊢; grind)) (hop_extract rfl rfl ?_)
 try simp only [nfa, Nat.reduceAdd, hwf]
 refine dT 9 rfl (by decide +kernel) rfl (by first | ((repeat' first | assumption | exact Sub.refl _ | refine Sub.over ?_ ‹_› _); done) | (intro _ _ h; simp only [Hp.set] at h ⊢; grind)) (hop_extract rfl rfl ?_)
 try simp only [nfa, Nat.reduceAdd, hwf]
 refine dT 10 rfl (by decide +kernel) rfl (by first | ((repeat' first | assumption | exact Sub.refl _ | refine Sub.over ?_ ‹_› _); done) | (intro _ _ h; simp only [Hp.set] at h ⊢; grind)) (hop_assign ?_)
 try simp only [nfa, Nat.reduceAdd, hwf]
 refine dT 11 rfl (by decide +kernel) rfl (by first | ((repeat' first | assumption | exact Sub.refl _ | refine Sub.over ?_ ‹_› _); done) | (intro _ _ h; simp only [Hp.set] at h ⊢; grind)) (hop_assign ?_)
 try simp only [nfa, Nat.reduceAdd, hwf]
 refine hD_done (by decide +kernel) ?_
 try simp only [nfa, Nat.reduceAdd, hwf]
 refine sR ?_
 refine oM ?_
 try simp only [nfa, Nat.reduceAdd, hwf]
 refine hops_nil ?_
 try simp only [nfa, Nat.reduceAdd, hwf]
 refine hc_F rfl (by first | rfl | assumption | (simp; done) | (simp; omega) | (simp [*]; done)) ?_
 refine hc_skip ?_
 try simp only [nfa, Nat.reduceAdd, hwf]
 refine sR ?_
 refine hops_cons rfl (hop_build (by simp only [fillL, wr, Value.cells, List.map_cons, List.map_nil, nf, nf2]; rfl) ?_)
 try simp only [nfa, Nat.reduceAdd, hwf]
 refine hops_cons rfl (hop_build (by simp only [fillL, wr, Value.cells, List.map_cons, List.map_nil, nf, nf2]; rfl) ?_)
 try simp only [nfa, Nat.reduceAdd, hwf]
 refine hops_cons rfl (hop_alloc (zl := [.bool false, .int .i64 0, .int .i64 0, .bool false, .int .i64 0, .slice none 0 0, .int .u64 0, .int .u64 0, .int .u64 0, .int .u64 0, .int .u64 0, .int .u64 0, .int .u64 0, .int .u64 0, .int .u64 0, .int .u64 0, .int .u64 0, .int .u64 0]) rfl ?_)
 intro b3 hb3
 have hb3' := hb3
 try simp only [Hp.set_none, Hp.del_none] at hb3'
 have hb3_n : H b3 = none := by first | exact hb3' | exact hb3'.2 | exact hb3'.2.2 | exact hb3'.2.2.2 | exact hb3'.2.2.2.2 | exact hb3'.2.2.2.2.2 | exact hb3'.2.2.2.2.2.2
 have hb3_b1 : b3 ≠ b1 := by first | exact hb3'.1 | exact hb3'.2.1 | exact hb3'.2.2.1 | exact hb3'.2.2.2.1 | exact hb3'.2.2.2.2.1 | exact hb3'.2.2.2.2.2.1
 have hb3_b2 : b3 ≠ b2 := by first | exact hb3'.1 | exact hb3'.2.1 | exact hb3'.2.2.1 | exact hb3'.2.2.2.1 | exact hb3'.2.2.2.2.1 | exact hb3'.2.2.2.2.2.1
 have hb3_m : b3 ≠ m := (Hp.ne_of hm hb3_n).symm
 clear hb3'
 try simp only [nfa, Nat.reduceAdd, hwf]
 refine hops_cons rfl (hop_storeA rfl rfl (by rfl) (by first | assumption | (repeat' first | (intro _ h; cases h; done) | refine List.forall_mem_cons.2 ⟨by first | rfl | assumption, ?_⟩) | (simp [Value.oneCell']; done) | (simp [Value.oneCell', *]; done)) (by (repeat' first | assumption | exact hS | exact Hp.one_get _ _ | refine hT (by first | assumption | exact Ne.symm ‹_›) ?_)) (by first | assumption | omega | (simp; done) | (simp; omega) | (simp [frc] <;> omega)) (by decide) ?_)
 try simp only [nfa, Nat.reduceAdd, hwf]
 refine hops_nil ?_
 try simp only [nfa, Nat.reduceAdd, hwf]
 refine sR ?_
 refine oM ?_
 refine oN rfl ?_
 refine oF rfl ?_
 refine hops_cons rfl (hop_load rfl (by (repeat' first | assumption | exact hS | exact Hp.one_get _ _ | refine hT (by first | assumption | exact Ne.symm ‹_›) ?_)) (by first | rfl | assumption | exact mid_get0 rfl | exact mid_get rfl | (simp; done)) ?_)
 try simp only [nfa, Nat.reduceAdd, hwf]
 refine hops_cons rfl (hop_call ?_)
 simp only [nfa, Nat.reduceAdd, hwf]
 refine HT.mono (ph_Victim (hP.sub (by first | ((repeat' first | assumption | exact Sub.refl _ | refine Sub.over ?_ ‹_› _); done) | (intro _ _ h; simp only [Hp.set] at h ⊢; grind)))) ?_
 rintro _ H1 ⟨rfl, hP1, f1⟩
 simp only [hv, Option.getD_some, Option.getD_none, Option.isSome_some, Option.isSome_none]
 try simp only [nf, nf2]
 have H1_b1 := f1.keep' (b := b1) (by (repeat' first | assumption | exact hS | exact Hp.one_get _ _ | refine hT (by first | assumption | exact Ne.symm ‹_›) ?_)) (by exact npOf)
 have H1_b2 := f1.keep' (b := b2) (by (repeat' first | assumption | exact hS | exact Hp.one_get _ _ | refine hT (by first | assumption | exact Ne.symm ‹_›) ?_)) (by exact npOf)
 have H1_b3 := f1.keep' (b := b3) (by (repeat' first | assumption | exact hS | exact Hp.one_get _ _ | refine hT (by first | assumption | exact Ne.symm ‹_›) ?_)) (by exact npOf)
 have H1_m := f1.keep' (b := m) (by (repeat' first | assumption | exact hS | exact Hp.one_get _ _ | refine hT (by first | assumption | exact Ne.symm ‹_›) ?_)) (by exact npOf)
 refine oM ?_
 refine hops_cons rfl (hop_extract rfl rfl ?_)
 refine hops_cons rfl (hop_extract rfl rfl ?_)
 refine oA ?_
 refine oA ?_
 try simp only [nfa, Nat.reduceAdd, hwf]
 refine hops_nil ?_
 try simp only [nfa, Nat.reduceAdd, hwf]
 refine hc_seq ?_
 refine sR ?_
 refine oM ?_
 try simp only [nfa, Nat.reduceAdd, hwf]
 refine hops_cons rfl (hop_not rfl ?_)
 try simp only [nfa, Nat.reduceAdd, hwf]
 refine hops_nil ?_
 try simp only [nfa, Nat.reduceAdd, hwf]
 refine hc_F rfl (by first | rfl | assumption | (simp; done) | (simp; omega) | (simp [*]; done)) ?_
 refine hc_skip ?_
 try simp only [nfa, Nat.reduceAdd, hwf]
 refine sR ?_
 refine oM ?_
 refine oN rfl ?_
 refine oF rfl ?_
 refine hops_cons rfl (hop_load rfl (by (repeat' first | assumption | exact hS | exact Hp.one_get _ _ | refine hT (by first | assumption | exact Ne.symm ‹_›) ?_)) (by first | rfl | assumption | exact mid_get0 rfl | exact mid_get rfl | (simp; done)) ?_)
 try simp only [nfa, Nat.reduceAdd, hwf]
 refine oM ?_
 refine hops_cons rfl (hop_call ?_)
 simp only [nfa, Nat.reduceAdd, hwf]
 refine HT.mono (ph_At (by (repeat' first | assumption | refine PartH.upd ?_ (by (repeat' first | assumption | exact hS | exact Hp.one_get _ _ | refine hT (by first | assumption | exact Ne.symm ‹_›) ?_)) (by exact npOf) | refine PartH.new ?_ (by assumption))) hi) ?_
 rintro _ _ ⟨rfl, rfl⟩
 try simp only [nfa, Nat.reduceAdd, hwf]
 refine hops_cons rfl (hop_allocFr ?_)
 intro b4 hb4
 have hb4' := hb4
 try simp only [Hp.set_none, Hp.del_none] at hb4'
 have hb4_n : H1 b4 = none := by first | exact hb4' | exact hb4'.2 | exact hb4'.2.2 | exact hb4'.2.2.2 | exact hb4'.2.2.2.2 | exact hb4'.2.2.2.2.2 | exact hb4'.2.2.2.2.2.2
 have hb4_b1 : b4 ≠ b1 := (Hp.ne_of H1_b1 hb4_n).symm
 have hb4_b2 : b4 ≠ b2 := (Hp.ne_of H1_b2 hb4_n).symm
 have hb4_b3 : b4 ≠ b3 := (Hp.ne_of H1_b3 hb4_n).symm
 have hb4_m : b4 ≠ m := (Hp.ne_of H1_m hb4_n).symm
 clear hb4'
 try simp only [nfa, Nat.reduceAdd, hwf]
 refine hops_cons rfl (hop_storeA (vs := frc f) rfl rfl (frc_length hfl) (one_frc f) (by (repeat' first | assumption | exact hS | exact Hp.one_get _ _ | refine hT (by first | assumption | exact Ne.symm ‹_›) ?_)) (by rw [frz_len]; omega) (by decide) ?_)
 try simp only [nfa, Nat.reduceAdd, hwf]
 refine hops_nil ?_
 try simp only [nfa, Nat.reduceAdd, hwf]
 refine hc_seq ?_
 refine sR ?_
 refine oF rfl ?_
 refine oF rfl ?_
 refine hops_cons rfl (hop_load rfl (by (repeat' first | assumption | exact hS | exact Hp.one_get _ _ | refine hT (by first | assumption | exact Ne.symm ‹_›) ?_)) (by first | rfl | assumption | exact mid_get0 rfl | exact mid_get rfl | (simp; done)) ?_)
 try simp only [nfa, Nat.reduceAdd, hwf]
 refine oM ?_
 try simp only [nfa, Nat.reduceAdd, hwf]
 first
  | refine hops_off' rfl rfl (by rfl) ?_
  | refine hops_un rfl rfl ?_
  | (refine hops_on' rfl rfl (by rfl) (hop_fieldAddr rfl ?_))
  | (refine hops_gp (v := ?vg5) rfl rfl (fun hgp => ?hv5) ?hh5; case hv5 => ((try simp only [hgp, if_true, ev, List.getD_cons_zero, List.getD_cons_succ]); refine hop_fieldAddr rfl ?_; rfl))
 try simp only [nfa, Nat.reduceAdd, hwf]
 first
  | refine hops_off' rfl rfl (by rfl) ?_
  | refine hops_un rfl rfl ?_
  | (refine hops_on' rfl rfl (by rfl) (hop_fieldAddr rfl ?_))
  | (refine hops_gp (v := ?vg6) rfl rfl (fun hgp => ?hv6) ?hh6; case hv6 => ((try simp only [hgp, if_true, ev, List.getD_cons_zero, List.getD_cons_succ]); refine hop_fieldAddr rfl ?_; rfl))
 try simp only [nfa, Nat.reduceAdd, hwf]
 first
  | refine hops_off' rfl rfl (by rfl) ?_
  | refine hops_un rfl rfl ?_
  | (refine hops_on' rfl rfl (by rfl) (hop_load rfl (by (repeat' first | assumption | exact hS | exact Hp.one_get _ _ | refine hT (by first | assumption | exact Ne.symm ‹_›) ?_)) (by first | rfl | assumption | exact mid_get0 rfl | exact mid_get rfl | (simp; done)) ?_))
  | (refine hops_gp (v := ?vg7) rfl rfl (fun hgp => ?hv7) ?hh7; case hv7 => ((try simp only [hgp, if_true, ev, List.getD_cons_zero, List.getD_cons_succ]); refine hop_load rfl (by (repeat' first | assumption | exact hS | exact Hp.one_get _ _ | refine hT (by first | assumption | exact Ne.symm ‹_›) ?_)) (by first | rfl | assumption | exact mid_get0 rfl | exact mid_get rfl | (simp; done)) ?_; rfl))
 try simp only [nfa, Nat.reduceAdd, hwf]
 first
  | refine hops_off' rfl rfl (by rfl) ?_
  | refine hops_un rfl rfl ?_
  | (refine hops_on' rfl rfl (by rfl) (hop_not rfl ?_))
  | (refine hops_gp (v := ?vg8) rfl rfl (fun hgp => ?hv8) ?hh8; case hv8 => ((try simp only [hgp, if_true, ev, List.getD_cons_zero, List.getD_cons_succ]); refine hop_not rfl ?_; rfl))
 try simp only [nfa, Nat.reduceAdd, hwf]
 refine hops_cons rfl (hop_pick rfl ?_)
 try simp only [nfa, Nat.reduceAdd, hwf]
 refine hops_nil ?_
 try simp only [nfa, Nat.reduceAdd, hwf]
 refine hc_T rfl (by first | rfl | assumption | (simp; done) | (simp; omega) | (simp [*]; done)) ?_
 refine sR ?_
 refine oM ?_
 refine oN rfl ?_
 refine oF rfl ?_
 refine hops_cons rfl (hop_load rfl (by (repeat' first | assumption | exact hS | exact Hp.one_get _ _ | refine hT (by first | assumption | exact Ne.symm ‹_›) ?_)) (by first | rfl | assumption | exact mid_get0 rfl | exact mid_get rfl | (simp; done)) ?_)
 try simp only [nfa, Nat.reduceAdd, hwf]
 refine oM ?_
 refine hops_cons rfl (hop_call ?_)
 simp only [nfa, Nat.reduceAdd, hwf]
 refine HT.mono (HT.frame (Sub.set_new hb4) (ph_Release (by (repeat' first | assumption | refine PartH.upd ?_ (by (repeat' first | assumption | exact hS | exact Hp.one_get _ _ | refine hT (by first | assumption | exact Ne.symm ‹_›) ?_)) (by exact npOf) | refine PartH.new ?_ (by assumption))) hi hpn)) ?_
 rintro _ H2 ⟨H2x, ⟨rfl, hP2x, f2⟩, sx2, fx2⟩
 try simp only [nf, nf2]
 have H2_b4 := (fx2 b4 _ hb4 (Hp.set_same _ _ _)).2
 have hP2 := hP2x.sub sx2
 have H2_b1 := sx2 _ _ (f2.keep' (b := b1) (by (repeat' first | assumption | exact hS | exact Hp.one_get _ _ | refine hT (by first | assumption | exact Ne.symm ‹_›) ?_)) (by exact npOf))
 have H2_b2 := sx2 _ _ (f2.keep' (b := b2) (by (repeat' first | assumption | exact hS | exact Hp.one_get _ _ | refine hT (by first | assumption | exact Ne.symm ‹_›) ?_)) (by exact npOf))
 have H2_b3 := sx2 _ _ (f2.keep' (b := b3) (by (repeat' first | assumption | exact hS | exact Hp.one_get _ _ | refine hT (by first | assumption | exact Ne.symm ‹_›) ?_)) (by exact npOf))
 have H2_m := sx2 _ _ (f2.keep' (b := m) (by (repeat' first | assumption | exact hS | exact Hp.one_get _ _ | refine hT (by first | assumption | exact Ne.symm ‹_›) ?_)) (by exact npOf))
 refine hops_nil ?_
 try simp only [nfa, Nat.reduceAdd, hwf]
 refine hc_region ?_
 refine oF rfl ?_
 refine oF rfl ?_
 refine hops_cons rfl (hop_store rfl rfl (by first | rfl | assumption) (by (repeat' first | assumption | exact hS | exact Hp.one_get _ _ | refine hT (by first | assumption | exact Ne.symm ‹_›) ?_)) (by first | assumption | omega | (simp; done) | (simp; omega) | (simp [frc] <;> omega)) ?_)
 try simp only [nfa, Nat.reduceAdd, hwf]
 refine hops_nil ?_
 try simp only [nfa, Nat.reduceAdd, hwf]
 refine sR ?_
 refine oM ?_
 refine oM ?_
 refine oM ?_
 refine oF rfl ?_
 refine hops_cons rfl (hop_load rfl (by (repeat' first | assumption | exact hS | exact Hp.one_get _ _ | refine hT (by first | assumption | exact Ne.symm ‹_›) ?_)) (by first | rfl | assumption | exact mid_get0 rfl | exact mid_get rfl | (simp; done)) ?_)
 try simp only [nfa, Nat.reduceAdd, hwf]
 refine oF rfl ?_
 refine oF rfl ?_
 refine hops_cons rfl (hop_load rfl (by (repeat' first | assumption | exact hS | exact Hp.one_get _ _ | refine hT (by first | assumption | exact Ne.symm ‹_›) ?_)) (by first | rfl | assumption | exact mid_get0 rfl | exact mid_get rfl | (simp; done)) ?_)
 try simp only [nfa, Nat.reduceAdd, hwf]
 refine oF rfl ?_
 refine hops_cons rfl (hop_load rfl (by (repeat' first | assumption | exact hS | exact Hp.one_get _ _ | refine hT (by first | assumption | exact Ne.symm ‹_›) ?_)) (by first | rfl | assumption | exact mid_get0 rfl | exact mid_get rfl | (simp; done)) ?_)
 try simp only [nfa, Nat.reduceAdd, hwf]
 refine hops_cons rfl (hop_call ?_)
 simp only [nfa, Nat.reduceAdd, hwf]
 refine HT.mono (plan_Fetch_all) ?_
 intro v3 H3 hq3
 try simp only [nf, nf2]
 have sq3 := hq3.le
 have ho3 := hq3.1.one
 have H3_b1 := sq3 b1 _ (by (repeat' first | assumption | exact hS | exact Hp.one_get _ _ | refine hT (by first | assumption | exact Ne.symm ‹_›) ?_))
 have H3_b2 := sq3 b2 _ (by (repeat' first | assumption | exact hS | exact Hp.one_get _ _ | refine hT (by first | assumption | exact Ne.symm ‹_›) ?_))
 have H3_b3 := sq3 b3 _ (by (repeat' first | assumption | exact hS | exact Hp.one_get _ _ | refine hT (by first | assumption | exact Ne.symm ‹_›) ?_))
 have H3_m := sq3 m _ (by (repeat' first | assumption | exact hS | exact Hp.one_get _ _ | refine hT (by first | assumption | exact Ne.symm ‹_›) ?_))
 have H3_b4 := sq3 b4 _ (by (repeat' first | assumption | exact hS | exact Hp.one_get _ _ | refine hT (by first | assumption | exact Ne.symm ‹_›) ?_))
 refine oN rfl ?_
 refine oF rfl ?_
 refine hops_cons rfl (hop_store rfl rfl (by first | rfl | assumption) (by (repeat' first | assumption | exact hS | exact Hp.one_get _ _ | refine hT (by first | assumption | exact Ne.symm ‹_›) ?_)) (by first | assumption | omega | (simp; done) | (simp; omega) | (simp [frc] <;> omega)) ?_)
 try simp only [nfa, Nat.reduceAdd, hwf]
 refine oN rfl ?_
 refine oF rfl ?_
 refine hops_cons rfl (hop_store rfl rfl (by first | rfl | assumption) (by (repeat' first | assumption | exact hS | exact Hp.one_get _ _ | refine hT (by first | assumption | exact Ne.symm ‹_›) ?_)) (by first | assumption | omega | (simp; done) | (simp; omega) | (simp [frc] <;> omega)) ?_)
 try simp only [nfa, Nat.reduceAdd, hwf]
 refine hops_nil ?_
 try simp only [nfa, Nat.reduceAdd, hwf]
 refine sR ?_
 refine hops_cons rfl (hop_loadA rfl (by (repeat' first | assumption | exact hS | exact Hp.one_get _ _ | refine hT (by first | assumption | exact Ne.symm ‹_›) ?_)) (by first | assumption | omega | (simp; done) | (simp; omega) | (simp [frc] <;> omega)) ?_)
 try simp only [nfa, Nat.reduceAdd, hwf]
 refine hops_cons rfl (hop_storeA rfl rfl (by rfl) (by first | assumption | (repeat' first | (intro _ h; cases h; done) | refine List.forall_mem_cons.2 ⟨by first | rfl | assumption, ?_⟩) | (simp [Value.oneCell']; done) | (simp [Value.oneCell', *]; done)) (by (repeat' first | assumption | exact hS | exact Hp.one_get _ _ | refine hT (by first | assumption | exact Ne.symm ‹_›) ?_)) (by first | assumption | omega | (simp; done) | (simp; omega) | (simp [frc] <;> omega)) (by decide) ?_)
 try simp only [nfa, Nat.reduceAdd, hwf]
 refine hops_nil ?_
 try simp only [nfa, Nat.reduceAdd, hwf]
 refine hc_ret ?_
 try simp only [hng, hthen, hblock]
 apply hend_1 rfl ?es (RV.cellW rfl (by (repeat' first | assumption | exact hS | exact Hp.one_get _ _ | refine hT (by first | assumption | exact Ne.symm ‹_›) ?_)) (by simp)) ?eR
 case es => exact Sub.refl _
 case eR =>
  refine ⟨rfl, v3, by (repeat' first | assumption | exact hS | exact Hp.one_get _ _ | refine hT (by first | assumption | exact Ne.symm ‹_›) ?_), by (repeat' first | exact hq3.1.rd | refine rdS.upd ?_ (by (repeat' first | assumption | exact hS | exact Hp.one_get _ _ | refine hT (by first | assumption | exact Ne.symm ‹_›) ?_)) (by decide) | refine rdS.new ?_ (by assumption)), ?_⟩
  have hPz : PartH H3 p (s.victim.2.with i Fr.zero) := PartH.sub (by (repeat' first | assumption | refine PartH.upd ?_ (by (repeat' first | assumption | exact hS | exact Hp.one_get _ _ | refine hT (by first | assumption | exact Ne.symm ‹_›) ?_)) (by exact npOf) | refine PartH.new ?_ (by assumption))) sq3
  exact by (repeat' first | assumption | refine PartH.upd ?_ (by (repeat' first | assumption | exact hS | exact Hp.one_get _ _ | refine hT (by first | assumption | exact Ne.symm ‹_›) ?_)) (by exact npOf) | refine PartH.new ?_ (by assumption))
theorem fetch_other {H : Hp} {m p : Nat} {op pg to : Int} {tv : Value} {s : Pt} (hm : H m = some (row [.pointer (some ⟨p, 0, none⟩), .int .i64 op, .int .i64 pg, tv, .int .i64 to, .slice none 0 0] 86)) (hP : PartH H p s) {rop rpg roff rlen : Int} {da : Option Addr} {dn dc : Nat} {i : Nat} {f : Fr} (hf : findPage s.fr rpg = none) (hv : s.victim.1 = some i) (hi : s.victim.2.fr[i]? = some f) (hud : (f.used && !f.dirty) = false) :
    HT prog 63 #[.pointer (some ⟨m, 0, none⟩), .agg #[.int .i64 rop, .int .i64 rpg, .int .i64 roff, .int .i64 rlen, .slice da dn dc]] H (fun v H' => v = .agg #[.bool false, .int .i64 0, .int .i64 0, .bool false, .int .i64 0, .slice none 0 0, .int .u64 0, .int .u64 0, .int .u64 0, .int .u64 0, .int .u64 0, .int .u64 0, .int .u64 0, .int .u64 1, .int .u64 0, .int .u64 0, .int .u64 0, .int .u64 0] ∧ ∃ tv', H' m = some (row [.pointer (some ⟨p, 0, none⟩), .int .i64 op, .int .i64 pg, tv', .int .i64 (i : Int), .slice none 0 0] 86) ∧ rdS H' tv' (fetchOf rpg f.dirty f.page).length (flat ioc (fetchOf rpg f.dirty f.page)) 106 3 ∧ PartH H' p s.victim.2) := by
 have hfl := s.victim_ok_len hP.1 hi
 have hwf : wr (frc Fr.zero) 0 (frc f) = frc f := wr_all (by rw [frz_len, frc_length hfl])
 refine ht_of_body (args := [.pointer (some ⟨m, 0, none⟩), .agg #[.int .i64 rop, .int .i64 rpg, .int .i64 roff, .int .i64 rlen, .slice da dn dc]]) func63 rfl ?_
 simp only [ntmps63, List.length_cons, List.length_nil, Nat.reduceAdd, Nat.reduceSub, List.replicate_succ, List.replicate_zero, List.cons_append, List.nil_append]
 refine sR ?_
 refine hops_cons rfl (hop_box rfl rfl ?_)
 intro b1 hb1
 have hb1' := hb1
 try simp only [Hp.set_none, Hp.del_none] at hb1'
 have hb1_n : H b1 = none := by first | exact hb1' | exact hb1'.2 | exact hb1'.2.2 | exact hb1'.2.2.2 | exact hb1'.2.2.2.2 | exact hb1'.2.2.2.2.2 | exact hb1'.2.2.2.2.2.2
 have hb1_m : b1 ≠ m := (Hp.ne_of hm hb1_n).symm
 clear hb1'
 try simp only [nfa, Nat.reduceAdd, hwf]
 refine hops_cons rfl (hop_alloc (zl := [.bool false, .int .i64 0, .int .i64 0, .bool false, .int .i64 0, .slice none 0 0, .int .u64 0, .int .u64 0, .int .u64 0, .int .u64 0, .int .u64 0, .int .u64 0, .int .u64 0, .int .u64 0, .int .u64 0, .int .u64 0, .int .u64 0, .int .u64 0]) rfl ?_)
 intro b2 hb2
 have hb2' := hb2
 try simp only [Hp.set_none, Hp.del_none] at hb2'
 have hb2_n : H b2 = none := by first | exact hb2' | exact hb2'.2 | exact hb2'.2.2 | exact hb2'.2.2.2 | exact hb2'.2.2.2.2 | exact hb2'.2.2.2.2.2 | exact hb2'.2.2.2.2.2.2
 have hb2_b1 : b2 ≠ b1 := by first | exact hb2'.1 | exact hb2'.2.1 | exact hb2'.2.2.1 | exact hb2'.2.2.2.1 | exact hb2'.2.2.2.2.1 | exact hb2'.2.2.2.2.2.1
 have hb2_m : b2 ≠ m := (Hp.ne_of hm hb2_n).symm
 clear hb2'
 try simp only [nfa, Nat.reduceAdd, hwf]
 refine hops_nil ?_
 try simp only [nfa, Nat.reduceAdd, hwf]
 refine hc_seq ?_
 refine hc_seq ?_
 refine hc_draw0 follows (by intros; simp [hng, hthen, hblock, hend]) ?_
 refine dT 0 rfl (by decide +kernel) rfl (by first | ((repeat' first | assumption | exact Sub.refl _ | refine Sub.over ?_ ‹_› _); done) | (intro _ _ h; simp only [Hp.set] at h ⊢; grind)) (hop_move ?_)
 try simp only [nfa, Nat.reduceAdd, hwf]
 refine dT 1 rfl (by decide +kernel) rfl (by first | ((repeat' first | assumption | exact Sub.refl _ | refine Sub.over ?_ ‹_› _); done) | (intro _ _ h; simp only [Hp.set] at h ⊢; grind)) (hop_nilCheck rfl ?_)
 try simp only [nfa, Nat.reduceAdd, hwf]
 refine dT 2 rfl (by decide +kernel) rfl (by first | ((repeat' first | assumption | exact Sub.refl _ | refine Sub.over ?_ ‹_› _); done) | (intro _ _ h; simp only [Hp.set] at h ⊢; grind)) (hop_fieldAddr rfl ?_)
 try simp only [nfa, Nat.reduceAdd, hwf]
 refine dT 3 rfl (by decide +kernel) rfl (by first | ((repeat' first | assumption | exact Sub.refl _ | refine Sub.over ?_ ‹_› _); done) | (intro _ _ h; simp only [Hp.set] at h ⊢; grind)) (hop_load rfl (by (repeat' first | assumption | exact hS | exact Hp.one_get _ _ | refine hT (by first | assumption | exact Ne.symm ‹_›) ?_)) (by first | rfl | assumption | exact mid_get0 rfl | exact mid_get rfl | (simp; done)) ?_)
 try simp only [nfa, Nat.reduceAdd, hwf]
 refine dT 4 rfl (by decide +kernel) rfl (by first | ((repeat' first | assumption | exact Sub.refl _ | refine Sub.over ?_ ‹_› _); done) | (intro _ _ h; simp only [Hp.set] at h ⊢; grind)) (hop_fieldAddr rfl ?_)
 try simp only [nfa, Nat.reduceAdd, hwf]
 refine dT 5 rfl (by decide +kernel) rfl (by first | ((repeat' first | assumption | exact Sub.refl _ | refine Sub.over ?_ ‹_› _); done) | (intro _ _ h; simp only [Hp.set] at h ⊢; grind)) (hop_load rfl (by (repeat' first | assumption | exact hS | exact Hp.one_get _ _ | refine hT (by first | assumption | exact Ne.symm ‹_›) ?_)) (by first | rfl | assumption | exact mid_get0 rfl | exact mid_get rfl | (simp; done)) ?_)
 try simp only [nfa, Nat.reduceAdd, hwf]
 refine hD_do 6 rfl (by decide +kernel) rfl (hop_call ?_)
 simp only [nfa, Nat.reduceAdd, hwf]
 refine HT.mono (ph_Find_no (by (repeat' first | assumption | refine PartH.upd ?_ (by (repeat' first | assumption | exact hS | exact Hp.one_get _ _ | refine hT (by first | assumption | exact Ne.symm ‹_›) ?_)) (by exact npOf) | refine PartH.new ?_ (by assumption))) hf) ?_
 rintro _ _ ⟨rfl, rfl⟩
 try simp only [nfa, Nat.reduceAdd, hwf]
 refine ⟨.inr (by first | ((repeat' first | assumption | exact Sub.refl _ | refine Sub.over ?_ ‹_› _); done) | (intro _ _ h; simp only [Hp.set] at h ⊢; grind)), ?_⟩
 try simp only [nfa, Nat.reduceAdd, hwf]
 refine dT 7 rfl (by decide +kernel) rfl (by first | ((repeat' first | assumption | exact Sub.refl _ | refine Sub.over ?_ ‹_› _); done) | (intro _ _ h; simp only [Hp.set] at h ⊢; grind)) (hop_move ?_)
 try simp only [nfa, Nat.reduceAdd, hwf]
 refine dT 8 rfl (by decide +kernel) rfl (by first | ((repeat' first | assumption | exact Sub.refl _ | refine Sub.over ?_ ‹_› _); done) | (intro _ _ h; simp only [Hp.set] at h ⊢; grind)) (hop_extract rfl rfl ?_)
 try simp only [nfa, Nat.reduceAdd, hwf]
 refine dT 9 rfl (by decide +kernel) rfl (by first | ((repeat' first | assumption | exact Sub.refl _ | refine Sub.over ?_ ‹_› _); done) | (intro _ _ h; simp only [Hp.set] at h ⊢; grind)) (hop_extract rfl rfl ?_)
 try simp only [nfa, Nat.reduceAdd, hwf]
 refine dT 10 rfl (by decide +kernel) rfl (by first | ((repeat' first | assumption | exact Sub.refl _ | refine Sub.over ?_ ‹_› _); done) | (intro _ _ h; simp only [Hp.set] at h ⊢; grind)) (hop_assign ?_)
 try simp only [nfa, Nat.reduceAdd, hwf]
 refine dT 11 rfl (by decide +kernel) rfl (by first | ((repeat' first | assumption | exact Sub.refl _ | refine Sub.over ?_ ‹_› _); done) | (intro _ _ h; simp only [Hp.set] at h ⊢; grind)) (hop_assign ?_)
 try simp only [nfa, Nat.reduceAdd, hwf]
 refine hD_done (by decide +kernel) ?_
 try simp only [nfa, Nat.reduceAdd, hwf]
 refine sR ?_
 refine oM ?_
 try simp only [nfa, Nat.reduceAdd, hwf]
 refine hops_nil ?_
 try simp only [nfa, Nat.reduceAdd, hwf]
 refine hc_F rfl (by first | rfl | assumption | (simp; done) | (simp; omega) | (simp [*]; done)) ?_
 refine hc_skip ?_
 try simp only [nfa, Nat.reduceAdd, hwf]
 refine sR ?_
 refine hops_cons rfl (hop_build (by simp only [fillL, wr, Value.cells, List.map_cons, List.map_nil, nf, nf2]; rfl) ?_)
 try simp only [nfa, Nat.reduceAdd, hwf]
 refine hops_cons rfl (hop_build (by simp only [fillL, wr, Value.cells, List.map_cons, List.map_nil, nf, nf2]; rfl) ?_)
 try simp only [nfa, Nat.reduceAdd, hwf]
 refine hops_cons rfl (hop_alloc (zl := [.bool false, .int .i64 0, .int .i64 0, .bool false, .int .i64 0, .slice none 0 0, .int .u64 0, .int .u64 0, .int .u64 0, .int .u64 0, .int .u64 0, .int .u64 0, .int .u64 0, .int .u64 0, .int .u64 0, .int .u64 0, .int .u64 0, .int .u64 0]) rfl ?_)
 intro b3 hb3
 have hb3' := hb3
 try simp only [Hp.set_none, Hp.del_none] at hb3'
 have hb3_n : H b3 = none := by first | exact hb3' | exact hb3'.2 | exact hb3'.2.2 | exact hb3'.2.2.2 | exact hb3'.2.2.2.2 | exact hb3'.2.2.2.2.2 | exact hb3'.2.2.2.2.2.2
 have hb3_b1 : b3 ≠ b1 := by first | exact hb3'.1 | exact hb3'.2.1 | exact hb3'.2.2.1 | exact hb3'.2.2.2.1 | exact hb3'.2.2.2.2.1 | exact hb3'.2.2.2.2.2.1
 have hb3_b2 : b3 ≠ b2 := by first | exact hb3'.1 | exact hb3'.2.1 | exact hb3'.2.2.1 | exact hb3'.2.2.2.1 | exact hb3'.2.2.2.2.1 | exact hb3'.2.2.2.2.2.1
 have hb3_m : b3 ≠ m := (Hp.ne_of hm hb3_n).symm
 clear hb3'
 try simp only [nfa, Nat.reduceAdd, hwf]
 refine hops_cons rfl (hop_storeA rfl rfl (by rfl) (by first | assumption | (repeat' first | (intro _ h; cases h; done) | refine List.forall_mem_cons.2 ⟨by first | rfl | assumption, ?_⟩) | (simp [Value.oneCell']; done) | (simp [Value.oneCell', *]; done)) (by (repeat' first | assumption | exact hS | exact Hp.one_get _ _ | refine hT (by first | assumption | exact Ne.symm ‹_›) ?_)) (by first | assumption | omega | (simp; done) | (simp; omega) | (simp [frc] <;> omega)) (by decide) ?_)
 try simp only [nfa, Nat.reduceAdd, hwf]
 refine hops_nil ?_
 try simp only [nfa, Nat.reduceAdd, hwf]
 refine sR ?_
 refine oM ?_
 refine oN rfl ?_
 refine oF rfl ?_
 refine hops_cons rfl (hop_load rfl (by (repeat' first | assumption | exact hS | exact Hp.one_get _ _ | refine hT (by first | assumption | exact Ne.symm ‹_›) ?_)) (by first | rfl | assumption | exact mid_get0 rfl | exact mid_get rfl | (simp; done)) ?_)
 try simp only [nfa, Nat.reduceAdd, hwf]
 refine hops_cons rfl (hop_call ?_)
 simp only [nfa, Nat.reduceAdd, hwf]
 refine HT.mono (ph_Victim (hP.sub (by first | ((repeat' first | assumption | exact Sub.refl _ | refine Sub.over ?_ ‹_› _); done) | (intro _ _ h; simp only [Hp.set] at h ⊢; grind)))) ?_
 rintro _ H1 ⟨rfl, hP1, f1⟩
 simp only [hv, Option.getD_some, Option.getD_none, Option.isSome_some, Option.isSome_none]
 try simp only [nf, nf2]
 have H1_b1 := f1.keep' (b := b1) (by (repeat' first | assumption | exact hS | exact Hp.one_get _ _ | refine hT (by first | assumption | exact Ne.symm ‹_›) ?_)) (by exact npOf)
 have H1_b2 := f1.keep' (b := b2) (by (repeat' first | assumption | exact hS | exact Hp.one_get _ _ | refine hT (by first | assumption | exact Ne.symm ‹_›) ?_)) (by exact npOf)
 have H1_b3 := f1.keep' (b := b3) (by (repeat' first | assumption | exact hS | exact Hp.one_get _ _ | refine hT (by first | assumption | exact Ne.symm ‹_›) ?_)) (by exact npOf)
 have H1_m := f1.keep' (b := m) (by (repeat' first | assumption | exact hS | exact Hp.one_get _ _ | refine hT (by first | assumption | exact Ne.symm ‹_›) ?_)) (by exact npOf)
 refine oM ?_
 refine hops_cons rfl (hop_extract rfl rfl ?_)
 refine hops_cons rfl (hop_extract rfl rfl ?_)
 refine oA ?_
 refine oA ?_
 try simp only [nfa, Nat.reduceAdd, hwf]
 refine hops_nil ?_
 try simp only [nfa, Nat.reduceAdd, hwf]
 refine hc_seq ?_
 refine sR ?_
 refine oM ?_
 try simp only [nfa, Nat.reduceAdd, hwf]
 refine hops_cons rfl (hop_not rfl ?_)
 try simp only [nfa, Nat.reduceAdd, hwf]
 refine hops_nil ?_
 try simp only [nfa, Nat.reduceAdd, hwf]
 refine hc_F rfl (by first | rfl | assumption | (simp; done) | (simp; omega) | (simp [*]; done)) ?_
 refine hc_skip ?_
 try simp only [nfa, Nat.reduceAdd, hwf]
 refine sR ?_
 refine oM ?_
 refine oN rfl ?_
 refine oF rfl ?_
 refine hops_cons rfl (hop_load rfl (by (repeat' first | assumption | exact hS | exact Hp.one_get _ _ | refine hT (by first | assumption | exact Ne.symm ‹_›) ?_)) (by first | rfl | assumption | exact mid_get0 rfl | exact mid_get rfl | (simp; done)) ?_)
 try simp only [nfa, Nat.reduceAdd, hwf]
 refine oM ?_
 refine hops_cons rfl (hop_call ?_)
 simp only [nfa, Nat.reduceAdd, hwf]
 refine HT.mono (ph_At (by (repeat' first | assumption | refine PartH.upd ?_ (by (repeat' first | assumption | exact hS | exact Hp.one_get _ _ | refine hT (by first | assumption | exact Ne.symm ‹_›) ?_)) (by exact npOf) | refine PartH.new ?_ (by assumption))) hi) ?_
 rintro _ _ ⟨rfl, rfl⟩
 try simp only [nfa, Nat.reduceAdd, hwf]
 refine hops_cons rfl (hop_allocFr ?_)
 intro b4 hb4
 have hb4' := hb4
 try simp only [Hp.set_none, Hp.del_none] at hb4'
 have hb4_n : H1 b4 = none := by first | exact hb4' | exact hb4'.2 | exact hb4'.2.2 | exact hb4'.2.2.2 | exact hb4'.2.2.2.2 | exact hb4'.2.2.2.2.2 | exact hb4'.2.2.2.2.2.2
 have hb4_b1 : b4 ≠ b1 := (Hp.ne_of H1_b1 hb4_n).symm
 have hb4_b2 : b4 ≠ b2 := (Hp.ne_of H1_b2 hb4_n).symm
 have hb4_b3 : b4 ≠ b3 := (Hp.ne_of H1_b3 hb4_n).symm
 have hb4_m : b4 ≠ m := (Hp.ne_of H1_m hb4_n).symm
 clear hb4'
 try simp only [nfa, Nat.reduceAdd, hwf]
 refine hops_cons rfl (hop_storeA (vs := frc f) rfl rfl (frc_length hfl) (one_frc f) (by (repeat' first | assumption | exact hS | exact Hp.one_get _ _ | refine hT (by first | assumption | exact Ne.symm ‹_›) ?_)) (by rw [frz_len]; omega) (by decide) ?_)
 try simp only [nfa, Nat.reduceAdd, hwf]
 refine hops_nil ?_
 try simp only [nfa, Nat.reduceAdd, hwf]
 refine hc_seq ?_
 refine sR ?_
 refine oF rfl ?_
 refine oF rfl ?_
 refine hops_cons rfl (hop_load rfl (by (repeat' first | assumption | exact hS | exact Hp.one_get _ _ | refine hT (by first | assumption | exact Ne.symm ‹_›) ?_)) (by first | rfl | assumption | exact mid_get0 rfl | exact mid_get rfl | (simp; done)) ?_)
 try simp only [nfa, Nat.reduceAdd, hwf]
 refine oM ?_
 try simp only [nfa, Nat.reduceAdd, hwf]
 first
  | refine hops_off' rfl rfl (by rfl) ?_
  | refine hops_un rfl rfl ?_
  | (refine hops_on' rfl rfl (by rfl) (hop_fieldAddr rfl ?_))
  | (refine hops_gp (v := ?vg5) rfl rfl (fun hgp => ?hv5) ?hh5; case hv5 => ((try simp only [hgp, if_true, ev, List.getD_cons_zero, List.getD_cons_succ]); refine hop_fieldAddr rfl ?_; rfl))
 try simp only [nfa, Nat.reduceAdd, hwf]
 first
  | refine hops_off' rfl rfl (by rfl) ?_
  | refine hops_un rfl rfl ?_
  | (refine hops_on' rfl rfl (by rfl) (hop_fieldAddr rfl ?_))
  | (refine hops_gp (v := ?vg6) rfl rfl (fun hgp => ?hv6) ?hh6; case hv6 => ((try simp only [hgp, if_true, ev, List.getD_cons_zero, List.getD_cons_succ]); refine hop_fieldAddr rfl ?_; rfl))
 try simp only [nfa, Nat.reduceAdd, hwf]
 first
  | refine hops_off' rfl rfl (by rfl) ?_
  | refine hops_un rfl rfl ?_
  | (refine hops_on' rfl rfl (by rfl) (hop_load rfl (by (repeat' first | assumption | exact hS | exact Hp.one_get _ _ | refine hT (by first | assumption | exact Ne.symm ‹_›) ?_)) (by first | rfl | assumption | exact mid_get0 rfl | exact mid_get rfl | (simp; done)) ?_))
  | (refine hops_gp (v := ?vg7) rfl rfl (fun hgp => ?hv7) ?hh7; case hv7 => ((try simp only [hgp, if_true, ev, List.getD_cons_zero, List.getD_cons_succ]); refine hop_load rfl (by (repeat' first | assumption | exact hS | exact Hp.one_get _ _ | refine hT (by first | assumption | exact Ne.symm ‹_›) ?_)) (by first | rfl | assumption | exact mid_get0 rfl | exact mid_get rfl | (simp; done)) ?_; rfl))
 try simp only [nfa, Nat.reduceAdd, hwf]
 first
  | refine hops_off' rfl rfl (by rfl) ?_
  | refine hops_un rfl rfl ?_
  | (refine hops_on' rfl rfl (by rfl) (hop_not rfl ?_))
  | (refine hops_gp (v := ?vg8) rfl rfl (fun hgp => ?hv8) ?hh8; case hv8 => ((try simp only [hgp, if_true, ev, List.getD_cons_zero, List.getD_cons_succ]); refine hop_not rfl ?_; rfl))
 try simp only [nfa, Nat.reduceAdd, hwf]
 refine hops_cons rfl (hop_pick rfl ?_)
 try simp only [nfa, Nat.reduceAdd, hwf]
 refine hops_nil ?_
 try simp only [nfa, Nat.reduceAdd, hwf]
 refine hc_F rfl (by first | rfl | assumption | (simp; done) | (simp; omega) | (simp [*]; done)) ?_
 refine hc_skip ?_
 try simp only [nfa, Nat.reduceAdd, hwf]
 refine sR ?_
 refine oM ?_
 refine oM ?_
 refine oM ?_
 refine oF rfl ?_
 refine hops_cons rfl (hop_load rfl (by (repeat' first | assumption | exact hS | exact Hp.one_get _ _ | refine hT (by first | assumption | exact Ne.symm ‹_›) ?_)) (by first | rfl | assumption | exact mid_get0 rfl | exact mid_get rfl | (simp; done)) ?_)
 try simp only [nfa, Nat.reduceAdd, hwf]
 refine oF rfl ?_
 refine oF rfl ?_
 refine hops_cons rfl (hop_load rfl (by (repeat' first | assumption | exact hS | exact Hp.one_get _ _ | refine hT (by first | assumption | exact Ne.symm ‹_›) ?_)) (by first | rfl | assumption | exact mid_get0 rfl | exact mid_get rfl | (simp; done)) ?_)
 try simp only [nfa, Nat.reduceAdd, hwf]
 refine oF rfl ?_
 refine hops_cons rfl (hop_load rfl (by (repeat' first | assumption | exact hS | exact Hp.one_get _ _ | refine hT (by first | assumption | exact Ne.symm ‹_›) ?_)) (by first | rfl | assumption | exact mid_get0 rfl | exact mid_get rfl | (simp; done)) ?_)
 try simp only [nfa, Nat.reduceAdd, hwf]
 refine hops_cons rfl (hop_call ?_)
 simp only [nfa, Nat.reduceAdd, hwf]
 refine HT.mono (plan_Fetch_all) ?_
 intro v2 H2 hq2
 try simp only [nf, nf2]
 have sq2 := hq2.le
 have ho2 := hq2.1.one
 have H2_b4 := sq2 b4 _ (by (repeat' first | assumption | exact hS | exact Hp.one_get _ _ | refine hT (by first | assumption | exact Ne.symm ‹_›) ?_))
 have H2_b1 := sq2 b1 _ (by (repeat' first | assumption | exact hS | exact Hp.one_get _ _ | refine hT (by first | assumption | exact Ne.symm ‹_›) ?_))
 have H2_b2 := sq2 b2 _ (by (repeat' first | assumption | exact hS | exact Hp.one_get _ _ | refine hT (by first | assumption | exact Ne.symm ‹_›) ?_))
 have H2_b3 := sq2 b3 _ (by (repeat' first | assumption | exact hS | exact Hp.one_get _ _ | refine hT (by first | assumption | exact Ne.symm ‹_›) ?_))
 have H2_m := sq2 m _ (by (repeat' first | assumption | exact hS | exact Hp.one_get _ _ | refine hT (by first | assumption | exact Ne.symm ‹_›) ?_))
 refine oN rfl ?_
 refine oF rfl ?_
 refine hops_cons rfl (hop_store rfl rfl (by first | rfl | assumption) (by (repeat' first | assumption | exact hS | exact Hp.one_get _ _ | refine hT (by first | assumption | exact Ne.symm ‹_›) ?_)) (by first | assumption | omega | (simp; done) | (simp; omega) | (simp [frc] <;> omega)) ?_)
 try simp only [nfa, Nat.reduceAdd, hwf]
 refine oN rfl ?_
 refine oF rfl ?_
 refine hops_cons rfl (hop_store rfl rfl (by first | rfl | assumption) (by (repeat' first | assumption | exact hS | exact Hp.one_get _ _ | refine hT (by first | assumption | exact Ne.symm ‹_›) ?_)) (by first | assumption | omega | (simp; done) | (simp; omega) | (simp [frc] <;> omega)) ?_)
 try simp only [nfa, Nat.reduceAdd, hwf]
 refine hops_nil ?_
 try simp only [nfa, Nat.reduceAdd, hwf]
 refine sR ?_
 refine hops_cons rfl (hop_loadA rfl (by (repeat' first | assumption | exact hS | exact Hp.one_get _ _ | refine hT (by first | assumption | exact Ne.symm ‹_›) ?_)) (by first | assumption | omega | (simp; done) | (simp; omega) | (simp [frc] <;> omega)) ?_)
 try simp only [nfa, Nat.reduceAdd, hwf]
 refine hops_cons rfl (hop_storeA rfl rfl (by rfl) (by first | assumption | (repeat' first | (intro _ h; cases h; done) | refine List.forall_mem_cons.2 ⟨by first | rfl | assumption, ?_⟩) | (simp [Value.oneCell']; done) | (simp [Value.oneCell', *]; done)) (by (repeat' first | assumption | exact hS | exact Hp.one_get _ _ | refine hT (by first | assumption | exact Ne.symm ‹_›) ?_)) (by first | assumption | omega | (simp; done) | (simp; omega) | (simp [frc] <;> omega)) (by decide) ?_)
 try simp only [nfa, Nat.reduceAdd, hwf]
 refine hops_nil ?_
 try simp only [nfa, Nat.reduceAdd, hwf]
 refine hc_ret ?_
 try simp only [hng, hthen, hblock]
 apply hend_1 rfl ?es (RV.cellW rfl (by (repeat' first | assumption | exact hS | exact Hp.one_get _ _ | refine hT (by first | assumption | exact Ne.symm ‹_›) ?_)) (by simp)) ?eR
 case es => exact Sub.refl _
 case eR =>
  refine ⟨rfl, v2, by (repeat' first | assumption | exact hS | exact Hp.one_get _ _ | refine hT (by first | assumption | exact Ne.symm ‹_›) ?_), by (repeat' first | exact hq2.1.rd | refine rdS.upd ?_ (by (repeat' first | assumption | exact hS | exact Hp.one_get _ _ | refine hT (by first | assumption | exact Ne.symm ‹_›) ?_)) (by decide) | refine rdS.new ?_ (by assumption)), ?_⟩
  have hPz : PartH H2 p s.victim.2 := PartH.sub (by (repeat' first | assumption | refine PartH.upd ?_ (by (repeat' first | assumption | exact hS | exact Hp.one_get _ _ | refine hT (by first | assumption | exact Ne.symm ‹_›) ?_)) (by exact npOf) | refine PartH.new ?_ (by assumption))) sq2
  exact by (repeat' first | assumption | refine PartH.upd ?_ (by (repeat' first | assumption | exact hS | exact Hp.one_get _ _ | refine hT (by first | assumption | exact Ne.symm ‹_›) ?_)) (by exact npOf) | refine PartH.new ?_ (by assumption))
end Go.Proofs.Try
