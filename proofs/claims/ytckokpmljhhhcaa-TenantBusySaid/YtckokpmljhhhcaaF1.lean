/- A part of the proofs over the tenants of a page cache: lemmas on what is known of the memory, and contracts of the Go functions. -/
import Derived.Test.YtckokpmljhhhcaaTf
import Derived.Test.YtckokpmljhhhcaaM
set_option linter.unusedVariables false
set_option linter.unusedSimpArgs false
namespace Go.Proofs.Try
open Go Go.H
set_option linter.unusedSimpArgs false
set_option linter.unusedVariables false
set_option maxRecDepth 100000
set_option maxHeartbeats 2000000
theorem fset {f : Fr} {k : Nat} {v : Value} {A B : List Value} (h : k < 5) : (A ++ frc f ++ B).set (A.length + k) v = A ++ (frc f).set k v ++ B := mid_set (by simp [frc]; omega)
theorem fset0 {f : Fr} {v : Value} {A B : List Value} : (A ++ frc f ++ B).set A.length v = A ++ (frc f).set 0 v ++ B := mid_set0 (by simp [frc])
theorem flen {f : Fr} {k : Nat} {A B : List Value} (h : k < 5) : A.length + k < (A ++ frc f ++ B).length := by simp [frc]; omega
theorem Flags_Free {H : Hp} {b : Nat} {A B : List Value} {T : TypeId} {f : Fr} (hH : H b = some (row (A ++ frc f ++ B) T)) :
    HT prog 78 #[.pointer (some ⟨b, A.length, none⟩)] H (fun v H' => v = .bool (f.pins == 0) ∧ H = H') := by
 refine ht_of_body (args := [.pointer (some ⟨b, A.length, none⟩)]) func78 rfl ?_
 simp only [ntmps78, List.length_cons, List.length_nil, Nat.reduceAdd, Nat.reduceSub, List.replicate_succ, List.replicate_zero, List.cons_append, List.nil_append]
 refine sR ?_
 refine oA ?_
 try simp only [nf, Nat.reduceAdd]
 refine hops_nil ?_
 try simp only [nf, Nat.reduceAdd]
 refine sR ?_
 refine oM ?_
 try simp only [nf, Nat.reduceAdd]
 refine oN rfl ?_
 try simp only [nf, Nat.reduceAdd]
 refine oF rfl ?_
 try simp only [nf, Nat.reduceAdd]
 refine hops_cons rfl (hop_load rfl (by solve_by_elim [hS, hN, hT, hT']) (by first | rfl | assumption | exact mid_get0 rfl | exact mid_get rfl | (simp; done)) ?_)
 try simp only [nf, Nat.reduceAdd]
 refine hops_cons rfl (hop_bin rfl rfl rfl ?_)
 try simp only [nf, Nat.reduceAdd]
 refine oA ?_
 try simp only [nf, Nat.reduceAdd]
 refine hops_nil ?_
 try simp only [nf, Nat.reduceAdd]
 refine hc_ret ?_
 try simp only [hng, hthen, hblock]
 refine hend_tmp rfl ?_
 exact ⟨rfl, rfl⟩
theorem Flags_Pin_no {H : Hp} {b : Nat} {A B : List Value} {T : TypeId} {f : Fr} (hH : H b = some (row (A ++ frc f ++ B) T)) (hu : f.used = false) :
    HT prog 62 #[.pointer (some ⟨b, A.length, none⟩)] H (fun v H' => v = .int .i64 6 ∧ H = H') := by
 refine ht_of_body (args := [.pointer (some ⟨b, A.length, none⟩)]) func62 rfl ?_
 simp only [ntmps62, List.length_cons, List.length_nil, Nat.reduceAdd, Nat.reduceSub, List.replicate_succ, List.replicate_zero, List.cons_append, List.nil_append]
 refine sR ?_
 refine oA ?_
 try simp only [nf, Nat.reduceAdd, hu]
 refine hops_nil ?_
 try simp only [nf, Nat.reduceAdd, hu]
 refine hc_seq ?_
 refine hc_block ?_
 refine sR ?_
 refine oM ?_
 try simp only [nf, Nat.reduceAdd, hu]
 refine oN rfl ?_
 try simp only [nf, Nat.reduceAdd, hu]
 refine oF rfl ?_
 try simp only [nf, Nat.reduceAdd, hu]
 refine hops_cons rfl (hop_load rfl (by solve_by_elim [hS, hN, hT, hT']) (by first | rfl | assumption | exact mid_get0 rfl | exact mid_get rfl | (simp; done)) ?_)
 try simp only [nf, Nat.reduceAdd, hu]
 refine hops_cons rfl (hop_not rfl ?_)
 try simp only [nf, Nat.reduceAdd, hu]
 refine oA ?_
 try simp only [nf, Nat.reduceAdd, hu]
 refine hops_nil ?_
 try simp only [nf, Nat.reduceAdd, hu]
 refine hc_T rfl (by first | rfl | assumption | (simp; done) | (simp; omega) | (simp [*]; done)) ?_
 refine sR ?_
 refine oA ?_
 try simp only [nf, Nat.reduceAdd, hu]
 refine hops_nil ?_
 try simp only [nf, Nat.reduceAdd, hu]
 refine hc_ret ?_
 try simp only [hng, hthen, hblock]
 refine hend_tmp rfl ?_
 exact ⟨rfl, rfl⟩
theorem Flags_Pin_full {H : Hp} {b : Nat} {A B : List Value} {T : TypeId} {f : Fr} (hH : H b = some (row (A ++ frc f ++ B) T)) (hu : f.used = true) (hp : 100 ≤ f.pins) :
    HT prog 62 #[.pointer (some ⟨b, A.length, none⟩)] H (fun v H' => v = .int .i64 13 ∧ H = H') := by
 refine ht_of_body (args := [.pointer (some ⟨b, A.length, none⟩)]) func62 rfl ?_
 simp only [ntmps62, List.length_cons, List.length_nil, Nat.reduceAdd, Nat.reduceSub, List.replicate_succ, List.replicate_zero, List.cons_append, List.nil_append]
 refine sR ?_
 refine oA ?_
 try simp only [nf, Nat.reduceAdd, hu]
 refine hops_nil ?_
 try simp only [nf, Nat.reduceAdd, hu]
 refine hc_seq ?_
 refine hc_block ?_
 refine sR ?_
 refine oM ?_
 try simp only [nf, Nat.reduceAdd, hu]
 refine oN rfl ?_
 try simp only [nf, Nat.reduceAdd, hu]
 refine oF rfl ?_
 try simp only [nf, Nat.reduceAdd, hu]
 refine hops_cons rfl (hop_load rfl (by solve_by_elim [hS, hN, hT, hT']) (by first | rfl | assumption | exact mid_get0 rfl | exact mid_get rfl | (simp; done)) ?_)
 try simp only [nf, Nat.reduceAdd, hu]
 refine hops_cons rfl (hop_not rfl ?_)
 try simp only [nf, Nat.reduceAdd, hu]
 refine oA ?_
 try simp only [nf, Nat.reduceAdd, hu]
 refine hops_nil ?_
 try simp only [nf, Nat.reduceAdd, hu]
 refine hc_F rfl (by first | rfl | assumption | (simp; done) | (simp; omega) | (simp [*]; done)) ?_
 refine sR ?_
 refine oM ?_
 try simp only [nf, Nat.reduceAdd, hu]
 refine oN rfl ?_
 try simp only [nf, Nat.reduceAdd, hu]
 refine oF rfl ?_
 try simp only [nf, Nat.reduceAdd, hu]
 refine hops_cons rfl (hop_load rfl (by solve_by_elim [hS, hN, hT, hT']) (by first | rfl | assumption | exact mid_get0 rfl | exact mid_get rfl | (simp; done)) ?_)
 try simp only [nf, Nat.reduceAdd, hu]
 refine hops_cons rfl (hop_bin rfl rfl rfl ?_)
 try simp only [nf, Nat.reduceAdd, hu]
 refine oA ?_
 try simp only [nf, Nat.reduceAdd, hu]
 refine hops_nil ?_
 try simp only [nf, Nat.reduceAdd, hu]
 refine hc_T rfl (by first | rfl | assumption | (simp; done) | (simp; omega) | (simp [*]; done)) ?_
 refine sR ?_
 refine oA ?_
 try simp only [nf, Nat.reduceAdd, hu]
 refine hops_nil ?_
 try simp only [nf, Nat.reduceAdd, hu]
 refine hc_ret ?_
 try simp only [hng, hthen, hblock]
 refine hend_tmp rfl ?_
 exact ⟨rfl, rfl⟩
theorem Flags_Pin_ok {H : Hp} {b : Nat} {A B : List Value} {T : TypeId} {f : Fr} (hH : H b = some (row (A ++ frc f ++ B) T)) (hu : f.used = true) (hp : f.pins < 100) (hp0 : 0 ≤ f.pins) :
    HT prog 62 #[.pointer (some ⟨b, A.length, none⟩)] H (fun v H' => v = .int .i64 0 ∧ H' = H.set b (row (A ++ frc { f with pins := f.pins + 1, ref := true } ++ B) T)) := by
 refine ht_of_body (args := [.pointer (some ⟨b, A.length, none⟩)]) func62 rfl ?_
 simp only [ntmps62, List.length_cons, List.length_nil, Nat.reduceAdd, Nat.reduceSub, List.replicate_succ, List.replicate_zero, List.cons_append, List.nil_append]
 refine sR ?_
 refine oA ?_
 try simp only [nf, Nat.reduceAdd, hu]
 refine hops_nil ?_
 try simp only [nf, Nat.reduceAdd, hu]
 refine hc_seq ?_
 refine hc_block ?_
 refine sR ?_
 refine oM ?_
 try simp only [nf, Nat.reduceAdd, hu]
 refine oN rfl ?_
 try simp only [nf, Nat.reduceAdd, hu]
 refine oF rfl ?_
 try simp only [nf, Nat.reduceAdd, hu]
 refine hops_cons rfl (hop_load rfl (by solve_by_elim [hS, hN, hT, hT']) (by first | rfl | assumption | exact mid_get0 rfl | exact mid_get rfl | (simp; done)) ?_)
 try simp only [nf, Nat.reduceAdd, hu]
 refine hops_cons rfl (hop_not rfl ?_)
 try simp only [nf, Nat.reduceAdd, hu]
 refine oA ?_
 try simp only [nf, Nat.reduceAdd, hu]
 refine hops_nil ?_
 try simp only [nf, Nat.reduceAdd, hu]
 refine hc_F rfl (by first | rfl | assumption | (simp; done) | (simp; omega) | (simp [*]; done)) ?_
 refine sR ?_
 refine oM ?_
 try simp only [nf, Nat.reduceAdd, hu]
 refine oN rfl ?_
 try simp only [nf, Nat.reduceAdd, hu]
 refine oF rfl ?_
 try simp only [nf, Nat.reduceAdd, hu]
 refine hops_cons rfl (hop_load rfl (by solve_by_elim [hS, hN, hT, hT']) (by first | rfl | assumption | exact mid_get0 rfl | exact mid_get rfl | (simp; done)) ?_)
 try simp only [nf, Nat.reduceAdd, hu]
 refine hops_cons rfl (hop_bin rfl rfl rfl ?_)
 try simp only [nf, Nat.reduceAdd, hu]
 refine oA ?_
 try simp only [nf, Nat.reduceAdd, hu]
 refine hops_nil ?_
 try simp only [nf, Nat.reduceAdd, hu]
 refine hc_F rfl (by first | rfl | assumption | (simp; done) | (simp; omega) | (simp [*]; done)) ?_
 refine hc_skip ?_
 try simp only [nf, Nat.reduceAdd, hu]
 refine sR ?_
 refine oM ?_
 try simp only [nf, Nat.reduceAdd, hu]
 refine oN rfl ?_
 try simp only [nf, Nat.reduceAdd, hu]
 refine oF rfl ?_
 try simp only [nf, Nat.reduceAdd, hu]
 refine hops_cons rfl (hop_load rfl (by solve_by_elim [hS, hN, hT, hT']) (by first | rfl | assumption | exact mid_get0 rfl | exact mid_get rfl | (simp; done)) ?_)
 try simp only [nf, Nat.reduceAdd, hu]
 refine hops_cons rfl (hop_add rfl rfl (by omega) ?_)
 try simp only [nf, Nat.reduceAdd, hu]
 refine oN rfl ?_
 try simp only [nf, Nat.reduceAdd, hu]
 refine oF rfl ?_
 try simp only [nf, Nat.reduceAdd, hu]
 refine hops_cons rfl (hop_store rfl rfl (by first | rfl | assumption) (by solve_by_elim [hS, hN, hT, hT']) (by first | assumption | omega | (simp; done) | (simp; omega) | (simp [frc] <;> omega)) ?_)
 try simp only [nf, Nat.reduceAdd, hu]
 refine hops_nil ?_
 try simp only [nf, Nat.reduceAdd, hu]
 refine sR ?_
 refine oM ?_
 try simp only [nf, Nat.reduceAdd, hu]
 refine oN rfl ?_
 try simp only [nf, Nat.reduceAdd, hu]
 refine oF rfl ?_
 try simp only [nf, Nat.reduceAdd, hu]
 refine hops_cons rfl (hop_store rfl rfl (by first | rfl | assumption) (by solve_by_elim [hS, hN, hT, hT']) (by first | assumption | omega | (simp; done) | (simp; omega) | (simp [frc] <;> omega)) ?_)
 try simp only [nf, Nat.reduceAdd, hu]
 refine hops_nil ?_
 try simp only [nf, Nat.reduceAdd, hu]
 refine sR ?_
 refine oA ?_
 try simp only [nf, Nat.reduceAdd, hu]
 refine hops_nil ?_
 try simp only [nf, Nat.reduceAdd, hu]
 refine hc_ret ?_
 try simp only [hng, hthen, hblock]
 refine hend_tmp rfl ?_
 exact ⟨rfl, by rw [fset (by omega), mid_set (by simp [frc])]; simp [frc, hu]⟩
theorem Flags_Unpin_no {H : Hp} {b : Nat} {A B : List Value} {T : TypeId} {f : Fr} (hH : H b = some (row (A ++ frc f ++ B) T)) (hp : f.pins = 0) :
    HT prog 87 #[.pointer (some ⟨b, A.length, none⟩)] H (fun v H' => v = .int .i64 6 ∧ H = H') := by
 refine ht_of_body (args := [.pointer (some ⟨b, A.length, none⟩)]) func87 rfl ?_
 simp only [ntmps87, List.length_cons, List.length_nil, Nat.reduceAdd, Nat.reduceSub, List.replicate_succ, List.replicate_zero, List.cons_append, List.nil_append]
 refine sR ?_
 refine oA ?_
 try simp only [nf, Nat.reduceAdd]
 refine hops_nil ?_
 try simp only [nf, Nat.reduceAdd]
 refine hc_seq ?_
 refine sR ?_
 refine oM ?_
 try simp only [nf, Nat.reduceAdd]
 refine oN rfl ?_
 try simp only [nf, Nat.reduceAdd]
 refine oF rfl ?_
 try simp only [nf, Nat.reduceAdd]
 refine hops_cons rfl (hop_load rfl (by solve_by_elim [hS, hN, hT, hT']) (by first | rfl | assumption | exact mid_get0 rfl | exact mid_get rfl | (simp; done)) ?_)
 try simp only [nf, Nat.reduceAdd]
 refine hops_cons rfl (hop_bin rfl rfl rfl ?_)
 try simp only [nf, Nat.reduceAdd]
 refine hops_nil ?_
 try simp only [nf, Nat.reduceAdd]
 refine hc_T rfl (by first | rfl | assumption | (simp; done) | (simp; omega) | (simp [*]; done)) ?_
 refine sR ?_
 refine oA ?_
 try simp only [nf, Nat.reduceAdd]
 refine hops_nil ?_
 try simp only [nf, Nat.reduceAdd]
 refine hc_ret ?_
 try simp only [hng, hthen, hblock]
 refine hend_tmp rfl ?_
 exact ⟨rfl, rfl⟩
theorem Flags_Unpin_ok {H : Hp} {b : Nat} {A B : List Value} {T : TypeId} {f : Fr} (hH : H b = some (row (A ++ frc f ++ B) T)) (hp : 0 < f.pins) (hp1 : f.pins ≤ 100) :
    HT prog 87 #[.pointer (some ⟨b, A.length, none⟩)] H (fun v H' => v = .int .i64 0 ∧ H' = H.set b (row (A ++ frc { f with pins := f.pins - 1 } ++ B) T)) := by
 refine ht_of_body (args := [.pointer (some ⟨b, A.length, none⟩)]) func87 rfl ?_
 simp only [ntmps87, List.length_cons, List.length_nil, Nat.reduceAdd, Nat.reduceSub, List.replicate_succ, List.replicate_zero, List.cons_append, List.nil_append]
 refine sR ?_
 refine oA ?_
 try simp only [nf, Nat.reduceAdd]
 refine hops_nil ?_
 try simp only [nf, Nat.reduceAdd]
 refine hc_seq ?_
 refine sR ?_
 refine oM ?_
 try simp only [nf, Nat.reduceAdd]
 refine oN rfl ?_
 try simp only [nf, Nat.reduceAdd]
 refine oF rfl ?_
 try simp only [nf, Nat.reduceAdd]
 refine hops_cons rfl (hop_load rfl (by solve_by_elim [hS, hN, hT, hT']) (by first | rfl | assumption | exact mid_get0 rfl | exact mid_get rfl | (simp; done)) ?_)
 try simp only [nf, Nat.reduceAdd]
 refine hops_cons rfl (hop_bin rfl rfl rfl ?_)
 try simp only [nf, Nat.reduceAdd]
 refine hops_nil ?_
 try simp only [nf, Nat.reduceAdd]
 refine hc_F rfl (by first | rfl | assumption | (simp; done) | (simp; omega) | (simp [*]; done)) ?_
 refine hc_skip ?_
 try simp only [nf, Nat.reduceAdd]
 refine sR ?_
 refine oM ?_
 try simp only [nf, Nat.reduceAdd]
 refine oN rfl ?_
 try simp only [nf, Nat.reduceAdd]
 refine oF rfl ?_
 try simp only [nf, Nat.reduceAdd]
 refine hops_cons rfl (hop_load rfl (by solve_by_elim [hS, hN, hT, hT']) (by first | rfl | assumption | exact mid_get0 rfl | exact mid_get rfl | (simp; done)) ?_)
 try simp only [nf, Nat.reduceAdd]
 refine hops_cons rfl (hop_sub rfl rfl (by omega) ?_)
 try simp only [nf, Nat.reduceAdd]
 refine oN rfl ?_
 try simp only [nf, Nat.reduceAdd]
 refine oF rfl ?_
 try simp only [nf, Nat.reduceAdd]
 refine hops_cons rfl (hop_store rfl rfl (by first | rfl | assumption) (by solve_by_elim [hS, hN, hT, hT']) (by first | assumption | omega | (simp; done) | (simp; omega) | (simp [frc] <;> omega)) ?_)
 try simp only [nf, Nat.reduceAdd]
 refine hops_nil ?_
 try simp only [nf, Nat.reduceAdd]
 refine sR ?_
 refine oA ?_
 try simp only [nf, Nat.reduceAdd]
 refine hops_nil ?_
 try simp only [nf, Nat.reduceAdd]
 refine hc_ret ?_
 try simp only [hng, hthen, hblock]
 refine hend_tmp rfl ?_
 exact ⟨rfl, by rw [fset (by omega)]; rfl⟩
theorem get_src {H : Hp} {b o off m : Nat} {L : List Value} {T : TypeId} (hH : H b = some (row L T)) (hf : off + m ≤ 32) (hl : o + 32 ≤ L.length) :
    srcOk H 1 (off + m - off) (.slice (some ⟨b, if 32 = off then o else o + off * 1, none⟩) (off + m - off) (32 - off)) ((L.drop (o + off)).take m) := by
  have e : off + m - off = m := by omega
  rw [e]
  by_cases h : 32 = off
  · rw [if_pos h]
    have : m = 0 := by omega
    subst this
    have := srcOk_slice (sz := 1) (m := 0) (c := 32 - off) (o := o) hH (by omega)
    simpa using this
  · rw [if_neg h, Nat.mul_one]
    have := srcOk_slice (sz := 1) (m := m) (c := 32 - off) (o := o + off) hH (by omega)
    simpa using this
theorem cell_own {H : Hp} {a : Option Addr} {n c : Nat} {ys : List Value} (hs : srcOk H 1 n (.slice a n c) ys) (hv : ∀ v ∈ ys, v.oneCell' = true) (hn : n ≤ 1048576) :
    HT prog 100 #[.slice a n c] H (fun v H' => ∃ b, H b = none ∧ v = .slice (some ⟨b, 0, none⟩) n n ∧ H' = H.set b (row ys 5)) := by
 refine ht_of_body (args := [.slice a n c]) func100 rfl ?_
 simp only [ntmps100, List.length_cons, List.length_nil, Nat.reduceAdd, Nat.reduceSub, List.replicate_succ, List.replicate_zero, List.cons_append, List.nil_append]
 refine sR ?_
 refine oA ?_
 try simp only [nf, Nat.reduceAdd]
 refine hops_nil ?_
 try simp only [nf, Nat.reduceAdd]
 refine sR ?_
 refine oM ?_
 try simp only [nf, Nat.reduceAdd]
 refine hops_cons rfl (hop_lenS rfl ?_)
 try simp only [nf, Nat.reduceAdd]
 refine hops_cons rfl (hop_makeSlice rfl rfl rfl (by decide) hn (by decide) ?_)
 intro b hb
 refine oA ?_
 try simp only [nf, Nat.reduceAdd]
 refine hops_nil ?_
 try simp only [nf, Nat.reduceAdd]
 refine sR ?_
 refine oM ?_
 try simp only [nf, Nat.reduceAdd]
 refine oM ?_
 try simp only [nf, Nat.reduceAdd]
 refine hops_cons rfl (hop_copy (m := n) (ys := ys) rfl (Hp.set_same _ _ _) (by simp [reps_length, Value.cells]) (hs.new hb) hv ?_)
 refine hops_nil ?_
 try simp only [nf, Nat.reduceAdd]
 refine sR ?_
 refine oM ?_
 try simp only [nf, Nat.reduceAdd]
 refine oA ?_
 try simp only [nf, Nat.reduceAdd]
 refine hops_nil ?_
 try simp only [nf, Nat.reduceAdd]
 refine hc_ret ?_
 try simp only [hng, hthen, hblock]
 refine hend_tmp rfl ?_
 exact ⟨b, hb, rfl, by rw [copy_all (by simpa using srcOk_len hs)]⟩
theorem cell_fits {H : Hp} {a : Option Addr} {n c : Nat} {off m : Int} (h0 : -9223372036854775000 ≤ off) (h1 : off ≤ 9223372036854775000) :
    HT prog 99 #[.slice a n c, .int .i64 off, .int .i64 m] H (fun v H' => v = .int .i64 (fitsE n off m) ∧ H = H') := by
 refine ht_of_body (args := [.slice a n c, .int .i64 off, .int .i64 m]) func99 rfl ?_
 simp only [ntmps99, List.length_cons, List.length_nil, Nat.reduceAdd, Nat.reduceSub, List.replicate_succ, List.replicate_zero, List.cons_append, List.nil_append]
 refine sR ?_
 refine oA ?_
 try simp only [nf, Nat.reduceAdd]
 refine hops_nil ?_
 try simp only [nf, Nat.reduceAdd]
 refine hc_seq ?_
 refine hc_block ?_
 refine sR ?_
 refine oM ?_
 try simp only [nf, Nat.reduceAdd]
 refine hops_cons rfl (hop_lenS rfl ?_)
 try simp only [nf, Nat.reduceAdd]
 refine hops_cons rfl (hop_bin rfl rfl rfl ?_)
 try simp only [nf, Nat.reduceAdd]
 refine oA ?_
 try simp only [nf, Nat.reduceAdd]
 refine hops_nil ?_
 try simp only [nf, Nat.reduceAdd]
 refine hc_cond rfl (fun hc0 => ?_) (fun hc0 => ?_)
 ·
  try simp at hc0
  refine sR ?_
  refine oA ?_
  try simp only [nf, Nat.reduceAdd]
  refine hops_nil ?_
  try simp only [nf, Nat.reduceAdd]
  refine hc_ret ?_
  try simp only [hng, hthen, hblock]
  refine hend_tmp rfl ?_
  refine ⟨?_, rfl⟩
  unfold fitsE
  simp_all <;> omega
 ·
  try simp at hc0
  refine sR ?_
  refine oM ?_
  try simp only [nf, Nat.reduceAdd]
  refine hops_cons rfl (hop_bin rfl rfl rfl ?_)
  try simp only [nf, Nat.reduceAdd]
  refine oM ?_
  try simp only [nf, Nat.reduceAdd]
  first
   | refine hops_off' rfl rfl (by rfl) ?_
   | refine hops_un rfl rfl ?_
   | (refine hops_on' rfl rfl (by rfl) (hop_move ?_))
   | (refine hops_gp (v := ?vg1) rfl rfl (fun hgp => ?hv1) ?hh1; case hv1 => ((try simp only [hgp, if_true, ev, List.getD_cons_zero, List.getD_cons_succ]); refine hop_move ?_; rfl))
  try simp only [nf, Nat.reduceAdd]
  first
   | refine hops_off' rfl rfl (by rfl) ?_
   | refine hops_un rfl rfl ?_
   | (refine hops_on' rfl rfl (by rfl) (hop_bin rfl rfl rfl ?_))
   | (refine hops_gp (v := ?vg2) rfl rfl (fun hgp => ?hv2) ?hh2; case hv2 => ((try simp only [hgp, if_true, ev, List.getD_cons_zero, List.getD_cons_succ]); refine hop_bin rfl rfl rfl ?_; rfl))
  try simp only [nf, Nat.reduceAdd]
  refine hops_cons rfl (hop_pick rfl ?_)
  try simp only [nf, Nat.reduceAdd]
  refine oM ?_
  try simp only [nf, Nat.reduceAdd]
  first
   | refine hops_off' rfl rfl (by rfl) ?_
   | refine hops_un rfl rfl ?_
   | (refine hops_on' rfl rfl (by rfl) (hop_move ?_))
   | (refine hops_gp (v := ?vg3) rfl rfl (fun hgp => ?hv3) ?hh3; case hv3 => ((try simp only [hgp, if_true, ev, List.getD_cons_zero, List.getD_cons_succ]); refine hop_move ?_; rfl))
  try simp only [nf, Nat.reduceAdd]
  first
   | refine hops_off' rfl rfl (by rfl) ?_
   | refine hops_un rfl rfl ?_
   | (refine hops_on' rfl rfl (by rfl) (hop_bin rfl rfl rfl ?_))
   | (refine hops_gp (v := ?vg4) rfl rfl (fun hgp => ?hv4) ?hh4; case hv4 => ((try simp only [hgp, if_true, ev, List.getD_cons_zero, List.getD_cons_succ]); refine hop_bin rfl rfl rfl ?_; rfl))
  try simp only [nf, Nat.reduceAdd]
  refine hops_cons rfl (hop_pick rfl ?_)
  try simp only [nf, Nat.reduceAdd]
  refine oM ?_
  try simp only [nf, Nat.reduceAdd]
  first
   | refine hops_off' rfl rfl (by rfl) ?_
   | refine hops_un rfl rfl ?_
   | (refine hops_on' rfl rfl (by rfl) (hop_move ?_))
   | (refine hops_gp (v := ?vg5) rfl rfl (fun hgp => ?hv5) ?hh5; case hv5 => ((try simp only [hgp, if_true, ev, List.getD_cons_zero, List.getD_cons_succ]); refine hop_move ?_; rfl))
  try simp only [nf, Nat.reduceAdd]
  first
   | refine hops_off' rfl rfl (by rfl) ?_
   | refine hops_un rfl rfl ?_
   | (refine hops_on' rfl rfl (by rfl) (hop_move ?_))
   | (refine hops_gp (v := ?vg6) rfl rfl (fun hgp => ?hv6) ?hh6; case hv6 => ((try simp only [hgp, if_true, ev, List.getD_cons_zero, List.getD_cons_succ]); refine hop_move ?_; rfl))
  try simp only [nf, Nat.reduceAdd]
  first
   | refine hops_off' rfl rfl (by rfl) ?_
   | refine hops_un rfl rfl ?_
   | (refine hops_on' rfl rfl (by rfl) (hop_sub rfl rfl (by omega) ?_))
   | (refine hops_gp (v := ?vg7) rfl rfl (fun hgp => ?hv7) ?hh7; case hv7 => ((try simp only [hgp, if_true, ev, List.getD_cons_zero, List.getD_cons_succ]); refine hop_sub rfl rfl (by omega) ?_; rfl))
  try simp only [nf, Nat.reduceAdd]
  first
   | refine hops_off' rfl rfl (by rfl) ?_
   | refine hops_un rfl rfl ?_
   | (refine hops_on' rfl rfl (by rfl) (hop_bin rfl rfl rfl ?_))
   | (refine hops_gp (v := ?vg8) rfl rfl (fun hgp => ?hv8) ?hh8; case hv8 => ((try simp only [hgp, if_true, ev, List.getD_cons_zero, List.getD_cons_succ]); refine hop_bin rfl rfl rfl ?_; rfl))
  try simp only [nf, Nat.reduceAdd]
  refine hops_cons rfl (hop_pick rfl ?_)
  try simp only [nf, Nat.reduceAdd]
  refine oA ?_
  try simp only [nf, Nat.reduceAdd]
  refine hops_nil ?_
  try simp only [nf, Nat.reduceAdd]
  refine hc_cond rfl (fun hc1 => ?_) (fun hc1 => ?_)
  ·
   try simp at hc1
   refine sR ?_
   refine oA ?_
   try simp only [nf, Nat.reduceAdd]
   refine hops_nil ?_
   try simp only [nf, Nat.reduceAdd]
   refine hc_ret ?_
   try simp only [hng, hthen, hblock]
   refine hend_tmp rfl ?_
   refine ⟨?_, rfl⟩
   unfold fitsE
   simp_all <;> omega
  ·
   try simp at hc1
   refine hc_skip ?_
   try simp only [nf, Nat.reduceAdd]
   refine sR ?_
   refine oA ?_
   try simp only [nf, Nat.reduceAdd]
   refine hops_nil ?_
   try simp only [nf, Nat.reduceAdd]
   refine hc_ret ?_
   try simp only [hng, hthen, hblock]
   refine hend_tmp rfl ?_
   refine ⟨?_, rfl⟩
   unfold fitsE
   simp_all <;> omega
theorem cell_Get_bad {H : Hp} {b o : Nat} {L : List Value} {T : TypeId} (hH : H b = some (row L T)) (hl : o + 32 ≤ L.length) {off m : Int} (h0 : -9223372036854775000 ≤ off) (h1 : off ≤ 9223372036854775000) (hf : fitsE 32 off m = 4) :
    HT prog 94 #[.slice (some ⟨b, o, none⟩) 32 32, .int .i64 off, .int .i64 m] H (fun v H' => v = .tuple #[.slice none 0 0, .int .i64 4] ∧ H = H') := by
 refine ht_of_body (args := [.slice (some ⟨b, o, none⟩) 32 32, .int .i64 off, .int .i64 m]) func94 rfl ?_
 simp only [ntmps94, List.length_cons, List.length_nil, Nat.reduceAdd, Nat.reduceSub, List.replicate_succ, List.replicate_zero, List.cons_append, List.nil_append]
 refine sR ?_
 refine oA ?_
 try simp only [nf, Nat.reduceAdd, Int.cast_ofNat_Int, hf]
 refine oA ?_
 try simp only [nf, Nat.reduceAdd, Int.cast_ofNat_Int, hf]
 refine hops_nil ?_
 try simp only [nf, Nat.reduceAdd, Int.cast_ofNat_Int, hf]
 refine hc_seq ?_
 refine sR ?_
 refine oM ?_
 try simp only [nf, Nat.reduceAdd, Int.cast_ofNat_Int, hf]
 refine oM ?_
 try simp only [nf, Nat.reduceAdd, Int.cast_ofNat_Int, hf]
 refine oM ?_
 try simp only [nf, Nat.reduceAdd, Int.cast_ofNat_Int, hf]
 refine hops_cons rfl (hop_call ?_)
 simp only [nf, Nat.reduceAdd, Int.cast_ofNat_Int, hf]
 refine HT.mono (cell_fits h0 h1) ?_
 rintro _ _ ⟨rfl, rfl⟩
 try simp only [nf, Nat.reduceAdd, Int.cast_ofNat_Int, hf]
 refine oA ?_
 try simp only [nf, Nat.reduceAdd, Int.cast_ofNat_Int, hf]
 refine hops_nil ?_
 try simp only [nf, Nat.reduceAdd, Int.cast_ofNat_Int, hf]
 refine sR ?_
 refine oM ?_
 try simp only [nf, Nat.reduceAdd, Int.cast_ofNat_Int, hf]
 refine hops_cons rfl (hop_bin rfl rfl rfl ?_)
 try simp only [nf, Nat.reduceAdd, Int.cast_ofNat_Int, hf]
 refine hops_nil ?_
 try simp only [nf, Nat.reduceAdd, Int.cast_ofNat_Int, hf]
 refine hc_T rfl (by first | rfl | assumption | (simp; done) | (simp; omega) | (simp [*]; done)) ?_
 refine sR ?_
 refine oM ?_
 try simp only [nf, Nat.reduceAdd, Int.cast_ofNat_Int, hf]
 refine oA ?_
 try simp only [nf, Nat.reduceAdd, Int.cast_ofNat_Int, hf]
 refine oA ?_
 try simp only [nf, Nat.reduceAdd, Int.cast_ofNat_Int, hf]
 refine hops_nil ?_
 try simp only [nf, Nat.reduceAdd, Int.cast_ofNat_Int, hf]
 refine hc_ret ?_
 try simp only [hng, hthen, hblock]
 refine hend_tmp2 rfl ?_
 exact ⟨rfl, rfl⟩
theorem cell_Get_ok {H : Hp} {b o : Nat} {L : List Value} {T : TypeId} (hH : H b = some (row L T)) (hl : o + 32 ≤ L.length) {off m : Nat} (hf : off + m ≤ 32) (hv : ∀ v ∈ L, v.oneCell' = true) :
    HT prog 94 #[.slice (some ⟨b, o, none⟩) 32 32, .int .i64 off, .int .i64 m] H (fun v H' => ∃ b', H b' = none ∧ v = .tuple #[.slice (some ⟨b', 0, none⟩) m m, .int .i64 0] ∧ H' = H.set b' (row ((L.drop (o + off)).take m) 5)) := by
 have hfe : fitsE 32 off m = 0 := by unfold fitsE; rw [if_neg (by omega), if_neg (by omega)]
 refine ht_of_body (args := [.slice (some ⟨b, o, none⟩) 32 32, .int .i64 off, .int .i64 m]) func94 rfl ?_
 simp only [ntmps94, List.length_cons, List.length_nil, Nat.reduceAdd, Nat.reduceSub, List.replicate_succ, List.replicate_zero, List.cons_append, List.nil_append]
 refine sR ?_
 refine oA ?_
 try simp only [nf, Nat.reduceAdd, Int.cast_ofNat_Int, hfe]
 refine oA ?_
 try simp only [nf, Nat.reduceAdd, Int.cast_ofNat_Int, hfe]
 refine hops_nil ?_
 try simp only [nf, Nat.reduceAdd, Int.cast_ofNat_Int, hfe]
 refine hc_seq ?_
 refine sR ?_
 refine oM ?_
 try simp only [nf, Nat.reduceAdd, Int.cast_ofNat_Int, hfe]
 refine oM ?_
 try simp only [nf, Nat.reduceAdd, Int.cast_ofNat_Int, hfe]
 refine oM ?_
 try simp only [nf, Nat.reduceAdd, Int.cast_ofNat_Int, hfe]
 refine hops_cons rfl (hop_call ?_)
 simp only [nf, Nat.reduceAdd, Int.cast_ofNat_Int, hfe]
 refine HT.mono (cell_fits (by omega) (by omega)) ?_
 rintro _ _ ⟨rfl, rfl⟩
 try simp only [nf, Nat.reduceAdd, Int.cast_ofNat_Int, hfe]
 refine oA ?_
 try simp only [nf, Nat.reduceAdd, Int.cast_ofNat_Int, hfe]
 refine hops_nil ?_
 try simp only [nf, Nat.reduceAdd, Int.cast_ofNat_Int, hfe]
 refine sR ?_
 refine oM ?_
 try simp only [nf, Nat.reduceAdd, Int.cast_ofNat_Int, hfe]
 refine hops_cons rfl (hop_bin rfl rfl rfl ?_)
 try simp only [nf, Nat.reduceAdd, Int.cast_ofNat_Int, hfe]
 refine hops_nil ?_
 try simp only [nf, Nat.reduceAdd, Int.cast_ofNat_Int, hfe]
 refine hc_F rfl (by first | rfl | assumption | (simp; done) | (simp; omega) | (simp [*]; done)) ?_
 refine hc_skip ?_
 try simp only [nf, Nat.reduceAdd, Int.cast_ofNat_Int, hfe]
 refine sR ?_
 refine oM ?_
 try simp only [nf, Nat.reduceAdd, Int.cast_ofNat_Int, hfe]
 refine oM ?_
 try simp only [nf, Nat.reduceAdd, Int.cast_ofNat_Int, hfe]
 refine oM ?_
 try simp only [nf, Nat.reduceAdd, Int.cast_ofNat_Int, hfe]
 refine oM ?_
 try simp only [nf, Nat.reduceAdd, Int.cast_ofNat_Int, hfe]
 refine hops_cons rfl (hop_add rfl rfl (by omega) ?_)
 try simp only [nf, Nat.reduceAdd, Int.cast_ofNat_Int, hfe]
 refine hops_cons rfl (hop_sliceS rfl (a := off) (c := off + m) (by simp [bd, ev]) (by simp [bd, ev] <;> omega) (by omega) (by omega) ?_)
 try simp only [nf, Nat.reduceAdd, Int.cast_ofNat_Int, hfe]
 refine hops_cons rfl (hop_call ?_)
 simp only [nf, Nat.reduceAdd, Int.cast_ofNat_Int, hfe]
 refine HT.mono (cell_own (ys := (L.drop (o + off)).take m) (get_src hH hf hl) (fun v h => hv v (List.mem_of_mem_drop (List.mem_of_mem_take h))) (by omega)) ?_
 rintro _ _ ⟨b', hb', rfl, rfl⟩
 try simp only [nf, Nat.reduceAdd, Int.cast_ofNat_Int, hfe]
 refine oA ?_
 try simp only [nf, Nat.reduceAdd, Int.cast_ofNat_Int, hfe]
 refine oA ?_
 try simp only [nf, Nat.reduceAdd, Int.cast_ofNat_Int, hfe]
 refine hops_nil ?_
 try simp only [nf, Nat.reduceAdd, Int.cast_ofNat_Int, hfe]
 refine hc_ret ?_
 try simp only [hng, hthen, hblock]
 refine hend_tmp2 rfl ?_
 exact ⟨_, hb', by simp, rfl⟩
theorem cell_Put_bad {H : Hp} {b o : Nat} {L : List Value} {T : TypeId} (hH : H b = some (row L T)) (hl : o + 32 ≤ L.length) {a : Option Addr} {m c : Nat} {off : Int} (h0 : -9223372036854775000 ≤ off) (h1 : off ≤ 9223372036854775000) (hf : fitsE 32 off m = 4) :
    HT prog 95 #[.slice (some ⟨b, o, none⟩) 32 32, .int .i64 off, .slice a m c] H (fun v H' => v = .tuple #[.slice none 0 0, .int .i64 4] ∧ H = H') := by
 refine ht_of_body (args := [.slice (some ⟨b, o, none⟩) 32 32, .int .i64 off, .slice a m c]) func95 rfl ?_
 simp only [ntmps95, List.length_cons, List.length_nil, Nat.reduceAdd, Nat.reduceSub, List.replicate_succ, List.replicate_zero, List.cons_append, List.nil_append]
 refine sR ?_
 refine oA ?_
 try simp only [nf, Nat.reduceAdd, Int.cast_ofNat_Int, hf]
 refine oA ?_
 try simp only [nf, Nat.reduceAdd, Int.cast_ofNat_Int, hf]
 refine hops_nil ?_
 try simp only [nf, Nat.reduceAdd, Int.cast_ofNat_Int, hf]
 refine hc_seq ?_
 refine sR ?_
 refine oM ?_
 try simp only [nf, Nat.reduceAdd, Int.cast_ofNat_Int, hf]
 refine oM ?_
 try simp only [nf, Nat.reduceAdd, Int.cast_ofNat_Int, hf]
 refine oM ?_
 try simp only [nf, Nat.reduceAdd, Int.cast_ofNat_Int, hf]
 refine hops_cons rfl (hop_lenS rfl ?_)
 try simp only [nf, Nat.reduceAdd, Int.cast_ofNat_Int, hf]
 refine hops_cons rfl (hop_call ?_)
 simp only [nf, Nat.reduceAdd, Int.cast_ofNat_Int, hf]
 refine HT.mono (cell_fits h0 h1) ?_
 rintro _ _ ⟨rfl, rfl⟩
 try simp only [nf, Nat.reduceAdd, Int.cast_ofNat_Int, hf]
 refine oA ?_
 try simp only [nf, Nat.reduceAdd, Int.cast_ofNat_Int, hf]
 refine hops_nil ?_
 try simp only [nf, Nat.reduceAdd, Int.cast_ofNat_Int, hf]
 refine sR ?_
 refine oM ?_
 try simp only [nf, Nat.reduceAdd, Int.cast_ofNat_Int, hf]
 refine hops_cons rfl (hop_bin rfl rfl rfl ?_)
 try simp only [nf, Nat.reduceAdd, Int.cast_ofNat_Int, hf]
 refine hops_nil ?_
 try simp only [nf, Nat.reduceAdd, Int.cast_ofNat_Int, hf]
 refine hc_T rfl (by first | rfl | assumption | (simp; done) | (simp; omega) | (simp [*]; done)) ?_
 refine sR ?_
 refine oM ?_
 try simp only [nf, Nat.reduceAdd, Int.cast_ofNat_Int, hf]
 refine oA ?_
 try simp only [nf, Nat.reduceAdd, Int.cast_ofNat_Int, hf]
 refine oA ?_
 try simp only [nf, Nat.reduceAdd, Int.cast_ofNat_Int, hf]
 refine hops_nil ?_
 try simp only [nf, Nat.reduceAdd, Int.cast_ofNat_Int, hf]
 refine hc_ret ?_
 try simp only [hng, hthen, hblock]
 refine hend_tmp2 rfl ?_
 exact ⟨rfl, rfl⟩
theorem cell_Put_ok {H : Hp} {b o : Nat} {L : List Value} {T : TypeId} (hH : H b = some (row L T)) (hl : o + 32 ≤ L.length) {a : Option Addr} {off m c : Nat} {ys : List Value} (hs : srcOk H 1 m (.slice a m c) ys) (hf : off + m ≤ 32) (hv : ∀ v ∈ L, v.oneCell' = true) (hv2 : ∀ v ∈ ys, v.oneCell' = true) :
    HT prog 95 #[.slice (some ⟨b, o, none⟩) 32 32, .int .i64 off, .slice a m c] H (fun v H' => ∃ b', H b' = none ∧ v = .tuple #[.slice (some ⟨b', 0, none⟩) 32 32, .int .i64 0] ∧ H' = H.set b' (row (wr ((L.drop o).take 32) off ys) 5)) := by
 have hfe : fitsE 32 off m = 0 := by unfold fitsE; rw [if_neg (by omega), if_neg (by omega)]
 have hlen : ((L.drop o).take 32).length = 32 := by simp; omega
 refine ht_of_body (args := [.slice (some ⟨b, o, none⟩) 32 32, .int .i64 off, .slice a m c]) func95 rfl ?_
 simp only [ntmps95, List.length_cons, List.length_nil, Nat.reduceAdd, Nat.reduceSub, List.replicate_succ, List.replicate_zero, List.cons_append, List.nil_append]
 refine sR ?_
 refine oA ?_
 try simp only [nf, Nat.reduceAdd, Int.cast_ofNat_Int, hfe]
 refine oA ?_
 try simp only [nf, Nat.reduceAdd, Int.cast_ofNat_Int, hfe]
 refine hops_nil ?_
 try simp only [nf, Nat.reduceAdd, Int.cast_ofNat_Int, hfe]
 refine hc_seq ?_
 refine sR ?_
 refine oM ?_
 try simp only [nf, Nat.reduceAdd, Int.cast_ofNat_Int, hfe]
 refine oM ?_
 try simp only [nf, Nat.reduceAdd, Int.cast_ofNat_Int, hfe]
 refine oM ?_
 try simp only [nf, Nat.reduceAdd, Int.cast_ofNat_Int, hfe]
 refine hops_cons rfl (hop_lenS rfl ?_)
 try simp only [nf, Nat.reduceAdd, Int.cast_ofNat_Int, hfe]
 refine hops_cons rfl (hop_call ?_)
 simp only [nf, Nat.reduceAdd, Int.cast_ofNat_Int, hfe]
 refine HT.mono (cell_fits (by omega) (by omega)) ?_
 rintro _ _ ⟨rfl, rfl⟩
 try simp only [nf, Nat.reduceAdd, Int.cast_ofNat_Int, hfe]
 refine oA ?_
 try simp only [nf, Nat.reduceAdd, Int.cast_ofNat_Int, hfe]
 refine hops_nil ?_
 try simp only [nf, Nat.reduceAdd, Int.cast_ofNat_Int, hfe]
 refine sR ?_
 refine oM ?_
 try simp only [nf, Nat.reduceAdd, Int.cast_ofNat_Int, hfe]
 refine hops_cons rfl (hop_bin rfl rfl rfl ?_)
 try simp only [nf, Nat.reduceAdd, Int.cast_ofNat_Int, hfe]
 refine hops_nil ?_
 try simp only [nf, Nat.reduceAdd, Int.cast_ofNat_Int, hfe]
 refine hc_F rfl (by first | rfl | assumption | (simp; done) | (simp; omega) | (simp [*]; done)) ?_
 refine hc_skip ?_
 try simp only [nf, Nat.reduceAdd, Int.cast_ofNat_Int, hfe]
 refine sR ?_
 refine oM ?_
 try simp only [nf, Nat.reduceAdd, Int.cast_ofNat_Int, hfe]
 refine hops_cons rfl (hop_call ?_)
 simp only [nf, Nat.reduceAdd, Int.cast_ofNat_Int, hfe]
 refine HT.mono (cell_own (srcOk_slice (c := 32) hH (m := 32) (sz := 1) (by omega)) (fun v h => hv v (List.mem_of_mem_drop (List.mem_of_mem_take h))) (by omega)) ?_
 rintro _ _ ⟨b', hb', rfl, rfl⟩
 try simp only [nf, Nat.reduceAdd, Int.cast_ofNat_Int, hfe]
 refine oA ?_
 try simp only [nf, Nat.reduceAdd, Int.cast_ofNat_Int, hfe]
 refine hops_nil ?_
 try simp only [nf, Nat.reduceAdd, Int.cast_ofNat_Int, hfe]
 refine sR ?_
 refine oM ?_
 try simp only [nf, Nat.reduceAdd, Int.cast_ofNat_Int, hfe]
 refine oM ?_
 try simp only [nf, Nat.reduceAdd, Int.cast_ofNat_Int, hfe]
 refine hops_cons rfl (hop_sliceS rfl (a := off) (c := 32) (by simp [bd, ev]) (by simp [bd, ev]) (by omega) (by omega) ?_)
 try simp only [nf, Nat.reduceAdd, Int.cast_ofNat_Int, hfe]
 refine oM ?_
 try simp only [nf, Nat.reduceAdd, Int.cast_ofNat_Int, hfe]
 refine hops_cons rfl (hop_copy (m := m) (ys := ys) (o := if 32 = off then 0 else 0 + off * 1) rfl (Hp.set_same _ _ _) (by split <;> simp <;> omega) (hs.new hb') hv2 ?_)
 try simp only [nf, Nat.reduceAdd, Int.cast_ofNat_Int, hfe]
 refine hops_nil ?_
 try simp only [nf, Nat.reduceAdd, Int.cast_ofNat_Int, hfe]
 refine sR ?_
 refine oM ?_
 try simp only [nf, Nat.reduceAdd, Int.cast_ofNat_Int, hfe]
 refine oA ?_
 try simp only [nf, Nat.reduceAdd, Int.cast_ofNat_Int, hfe]
 refine oA ?_
 try simp only [nf, Nat.reduceAdd, Int.cast_ofNat_Int, hfe]
 refine hops_nil ?_
 try simp only [nf, Nat.reduceAdd, Int.cast_ofNat_Int, hfe]
 refine hc_ret ?_
 try simp only [hng, hthen, hblock]
 refine hend_tmp2 rfl ?_
 exact ⟨_, hb', rfl, by simp only [Nat.zero_add, Nat.mul_one]; rw [copy_at' hlen (by simpa using srcOk_len hs) hf]⟩
theorem Frame_Get_free {H : Hp} {b : Nat} {A B : List Value} {T : TypeId} {f : Fr} (hH : H b = some (row (A ++ frc f ++ B) T)) (hp : f.pins = 0) {off m : Int} :
    HT prog 84 #[.pointer (some ⟨b, A.length, none⟩), .int .i64 off, .int .i64 m] H (fun v H' => v = .tuple #[.slice none 0 0, .int .i64 6] ∧ H = H') := by
 refine ht_of_body (args := [.pointer (some ⟨b, A.length, none⟩), .int .i64 off, .int .i64 m]) func84 rfl ?_
 simp only [ntmps84, List.length_cons, List.length_nil, Nat.reduceAdd, Nat.reduceSub, List.replicate_succ, List.replicate_zero, List.cons_append, List.nil_append]
 refine sR ?_
 refine oA ?_
 try simp only [nf, Nat.reduceAdd, hp]
 refine oA ?_
 try simp only [nf, Nat.reduceAdd, hp]
 refine hops_nil ?_
 try simp only [nf, Nat.reduceAdd, hp]
 refine hc_seq ?_
 refine sR ?_
 refine oM ?_
 try simp only [nf, Nat.reduceAdd, hp]
 refine oN rfl ?_
 try simp only [nf, Nat.reduceAdd, hp]
 refine oF rfl ?_
 try simp only [nf, Nat.reduceAdd, hp]
 refine hops_cons rfl (hop_call ?_)
 simp only [nf, Nat.reduceAdd, hp]
 refine HT.mono (Flags_Free hH) ?_
 rintro _ _ ⟨rfl, rfl⟩
 try simp only [nf, Nat.reduceAdd, hp]
 refine hops_nil ?_
 try simp only [nf, Nat.reduceAdd, hp]
 refine hc_T rfl (by first | rfl | assumption | (simp; done) | (simp; omega) | (simp [*]; done)) ?_
 refine sR ?_
 refine oA ?_
 try simp only [nf, Nat.reduceAdd, hp]
 refine oA ?_
 try simp only [nf, Nat.reduceAdd, hp]
 refine hops_nil ?_
 try simp only [nf, Nat.reduceAdd, hp]
 refine hc_ret ?_
 try simp only [hng, hthen, hblock]
 refine hend_tmp2 rfl ?_
 exact ⟨rfl, rfl⟩
theorem Frame_Get_bad {H : Hp} {b : Nat} {A B : List Value} {T : TypeId} {f : Fr} (hH : H b = some (row (A ++ frc f ++ B) T)) (hp : 0 < f.pins) (hfb : f.b.length = 32) {off m : Int} (h0 : -9223372036854775000 ≤ off) (h1 : off ≤ 9223372036854775000) (hf : fitsE 32 off m = 4) :
    HT prog 84 #[.pointer (some ⟨b, A.length, none⟩), .int .i64 off, .int .i64 m] H (fun v H' => v = .tuple #[.slice none 0 0, .int .i64 4] ∧ H = H') := by
 have hpf : (f.pins == 0) = false := by simp; omega
 have hl : A.length + 5 + 32 ≤ (A ++ frc f ++ B).length := by simp [frc, hfb]; omega
 refine ht_of_body (args := [.pointer (some ⟨b, A.length, none⟩), .int .i64 off, .int .i64 m]) func84 rfl ?_
 simp only [ntmps84, List.length_cons, List.length_nil, Nat.reduceAdd, Nat.reduceSub, List.replicate_succ, List.replicate_zero, List.cons_append, List.nil_append]
 refine sR ?_
 refine oA ?_
 try simp only [nf, Nat.reduceAdd, hpf]
 refine oA ?_
 try simp only [nf, Nat.reduceAdd, hpf]
 refine hops_nil ?_
 try simp only [nf, Nat.reduceAdd, hpf]
 refine hc_seq ?_
 refine sR ?_
 refine oM ?_
 try simp only [nf, Nat.reduceAdd, hpf]
 refine oN rfl ?_
 try simp only [nf, Nat.reduceAdd, hpf]
 refine oF rfl ?_
 try simp only [nf, Nat.reduceAdd, hpf]
 refine hops_cons rfl (hop_call ?_)
 simp only [nf, Nat.reduceAdd, hpf]
 refine HT.mono (Flags_Free hH) ?_
 rintro _ _ ⟨rfl, rfl⟩
 try simp only [nf, Nat.reduceAdd, hpf]
 refine hops_nil ?_
 try simp only [nf, Nat.reduceAdd, hpf]
 refine hc_F rfl (by first | rfl | assumption | (simp; done) | (simp; omega) | (simp [*]; done)) ?_
 refine hc_skip ?_
 try simp only [nf, Nat.reduceAdd, hpf]
 refine sR ?_
 refine oM ?_
 try simp only [nf, Nat.reduceAdd, hpf]
 refine oN rfl ?_
 try simp only [nf, Nat.reduceAdd, hpf]
 refine oF rfl ?_
 try simp only [nf, Nat.reduceAdd, hpf]
 refine hops_cons rfl (hop_sliceAll rfl ?_)
 try simp only [nf, Nat.reduceAdd, hpf]
 refine oM ?_
 try simp only [nf, Nat.reduceAdd, hpf]
 refine oM ?_
 try simp only [nf, Nat.reduceAdd, hpf]
 refine hops_cons rfl (hop_call ?_)
 simp only [nf, Nat.reduceAdd, hpf]
 refine HT.mono (cell_Get_bad hH hl h0 h1 hf) ?_
 rintro _ _ ⟨rfl, rfl⟩
 try simp only [nf, Nat.reduceAdd, hpf]
 refine oM ?_
 try simp only [nf, Nat.reduceAdd, hpf]
 refine hops_cons rfl (hop_extract rfl rfl ?_)
 try simp only [nf, Nat.reduceAdd, hpf]
 refine hops_cons rfl (hop_extract rfl rfl ?_)
 try simp only [nf, Nat.reduceAdd, hpf]
 refine oA ?_
 try simp only [nf, Nat.reduceAdd, hpf]
 refine oA ?_
 try simp only [nf, Nat.reduceAdd, hpf]
 refine hops_nil ?_
 try simp only [nf, Nat.reduceAdd, hpf]
 refine hc_seq ?_
 refine sR ?_
 refine oM ?_
 try simp only [nf, Nat.reduceAdd, hpf]
 refine hops_cons rfl (hop_bin rfl rfl rfl ?_)
 try simp only [nf, Nat.reduceAdd, hpf]
 refine hops_nil ?_
 try simp only [nf, Nat.reduceAdd, hpf]
 refine hc_T rfl (by first | rfl | assumption | (simp; done) | (simp; omega) | (simp [*]; done)) ?_
 refine sR ?_
 refine oM ?_
 try simp only [nf, Nat.reduceAdd, hpf]
 refine oA ?_
 try simp only [nf, Nat.reduceAdd, hpf]
 refine oA ?_
 try simp only [nf, Nat.reduceAdd, hpf]
 refine hops_nil ?_
 try simp only [nf, Nat.reduceAdd, hpf]
 refine hc_ret ?_
 try simp only [hng, hthen, hblock]
 refine hend_tmp2 rfl ?_
 exact ⟨rfl, rfl⟩
theorem Frame_Get_ok {H : Hp} {b : Nat} {A B : List Value} {T : TypeId} {f : Fr} (hH : H b = some (row (A ++ frc f ++ B) T)) (hp : 0 < f.pins) (hfb : f.b.length = 32) {off m : Nat} (hf : off + m ≤ 32) (hv : ∀ v ∈ A ++ frc f ++ B, v.oneCell' = true) :
    HT prog 84 #[.pointer (some ⟨b, A.length, none⟩), .int .i64 off, .int .i64 m] H (fun v H' => ∃ b', H b' = none ∧ v = .tuple #[.slice (some ⟨b', 0, none⟩) m m, .int .i64 0] ∧ H' = (H.set b' (row (((f.b.drop off).take m).map byv) 5)).set b (row (A ++ frc { f with ref := true } ++ B) T)) := by
 have hpf : (f.pins == 0) = false := by simp; omega
 have hl : A.length + 5 + 32 ≤ (A ++ frc f ++ B).length := by simp [frc, hfb]; omega
 refine ht_of_body (args := [.pointer (some ⟨b, A.length, none⟩), .int .i64 off, .int .i64 m]) func84 rfl ?_
 simp only [ntmps84, List.length_cons, List.length_nil, Nat.reduceAdd, Nat.reduceSub, List.replicate_succ, List.replicate_zero, List.cons_append, List.nil_append]
 refine sR ?_
 refine oA ?_
 try simp only [nf, Nat.reduceAdd, hpf]
 refine oA ?_
 try simp only [nf, Nat.reduceAdd, hpf]
 refine hops_nil ?_
 try simp only [nf, Nat.reduceAdd, hpf]
 refine hc_seq ?_
 refine sR ?_
 refine oM ?_
 try simp only [nf, Nat.reduceAdd, hpf]
 refine oN rfl ?_
 try simp only [nf, Nat.reduceAdd, hpf]
 refine oF rfl ?_
 try simp only [nf, Nat.reduceAdd, hpf]
 refine hops_cons rfl (hop_call ?_)
 simp only [nf, Nat.reduceAdd, hpf]
 refine HT.mono (Flags_Free hH) ?_
 rintro _ _ ⟨rfl, rfl⟩
 try simp only [nf, Nat.reduceAdd, hpf]
 refine hops_nil ?_
 try simp only [nf, Nat.reduceAdd, hpf]
 refine hc_F rfl (by first | rfl | assumption | (simp; done) | (simp; omega) | (simp [*]; done)) ?_
 refine hc_skip ?_
 try simp only [nf, Nat.reduceAdd, hpf]
 refine sR ?_
 refine oM ?_
 try simp only [nf, Nat.reduceAdd, hpf]
 refine oN rfl ?_
 try simp only [nf, Nat.reduceAdd, hpf]
 refine oF rfl ?_
 try simp only [nf, Nat.reduceAdd, hpf]
 refine hops_cons rfl (hop_sliceAll rfl ?_)
 try simp only [nf, Nat.reduceAdd, hpf]
 refine oM ?_
 try simp only [nf, Nat.reduceAdd, hpf]
 refine oM ?_
 try simp only [nf, Nat.reduceAdd, hpf]
 refine hops_cons rfl (hop_call ?_)
 simp only [nf, Nat.reduceAdd, hpf]
 refine HT.mono (cell_Get_ok hH hl hf hv) ?_
 rintro _ _ ⟨b', hb', rfl, rfl⟩
 try simp only [nf, Nat.reduceAdd, hpf]
 refine oM ?_
 try simp only [nf, Nat.reduceAdd, hpf]
 refine hops_cons rfl (hop_extract rfl rfl ?_)
 try simp only [nf, Nat.reduceAdd, hpf]
 refine hops_cons rfl (hop_extract rfl rfl ?_)
 try simp only [nf, Nat.reduceAdd, hpf]
 refine oA ?_
 try simp only [nf, Nat.reduceAdd, hpf]
 refine oA ?_
 try simp only [nf, Nat.reduceAdd, hpf]
 refine hops_nil ?_
 try simp only [nf, Nat.reduceAdd, hpf]
 refine hc_seq ?_
 refine sR ?_
 refine oM ?_
 try simp only [nf, Nat.reduceAdd, hpf]
 refine hops_cons rfl (hop_bin rfl rfl rfl ?_)
 try simp only [nf, Nat.reduceAdd, hpf]
 refine hops_nil ?_
 try simp only [nf, Nat.reduceAdd, hpf]
 refine hc_F rfl (by first | rfl | assumption | (simp; done) | (simp; omega) | (simp [*]; done)) ?_
 refine hc_skip ?_
 try simp only [nf, Nat.reduceAdd, hpf]
 refine sR ?_
 refine oM ?_
 try simp only [nf, Nat.reduceAdd, hpf]
 refine oN rfl ?_
 try simp only [nf, Nat.reduceAdd, hpf]
 refine oF rfl ?_
 try simp only [nf, Nat.reduceAdd, hpf]
 refine oF rfl ?_
 try simp only [nf, Nat.reduceAdd, hpf]
 refine hops_cons rfl (hop_store rfl rfl (by first | rfl | assumption) (by solve_by_elim [hS, hN, hT, hT']) (by first | assumption | omega | (simp; done) | (simp; omega) | (simp [frc] <;> omega)) ?_)
 try simp only [nf, Nat.reduceAdd, hpf]
 refine hops_nil ?_
 try simp only [nf, Nat.reduceAdd, hpf]
 refine sR ?_
 refine oM ?_
 try simp only [nf, Nat.reduceAdd, hpf]
 refine oA ?_
 try simp only [nf, Nat.reduceAdd, hpf]
 refine oA ?_
 try simp only [nf, Nat.reduceAdd, hpf]
 refine hops_nil ?_
 try simp only [nf, Nat.reduceAdd, hpf]
 refine hc_ret ?_
 try simp only [hng, hthen, hblock]
 refine hend_tmp2 rfl ?_
 exact ⟨_, hb', rfl, by rw [frc_bytes hfb hf, fset (by omega)]; rfl⟩
theorem Frame_Put_free {H : Hp} {b : Nat} {A B : List Value} {T : TypeId} {f : Fr} (hH : H b = some (row (A ++ frc f ++ B) T)) (hp : f.pins = 0) {off : Int} {a : Option Addr} {m c : Nat} :
    HT prog 86 #[.pointer (some ⟨b, A.length, none⟩), .int .i64 off, .slice a m c] H (fun v H' => v = .int .i64 6 ∧ H = H') := by
 refine ht_of_body (args := [.pointer (some ⟨b, A.length, none⟩), .int .i64 off, .slice a m c]) func86 rfl ?_
 simp only [ntmps86, List.length_cons, List.length_nil, Nat.reduceAdd, Nat.reduceSub, List.replicate_succ, List.replicate_zero, List.cons_append, List.nil_append]
 refine sR ?_
 refine oA ?_
 try simp only [nf, Nat.reduceAdd, hp]
 refine hops_nil ?_
 try simp only [nf, Nat.reduceAdd, hp]
 refine hc_seq ?_
 refine sR ?_
 refine oM ?_
 try simp only [nf, Nat.reduceAdd, hp]
 refine oN rfl ?_
 try simp only [nf, Nat.reduceAdd, hp]
 refine oF rfl ?_
 try simp only [nf, Nat.reduceAdd, hp]
 refine hops_cons rfl (hop_call ?_)
 simp only [nf, Nat.reduceAdd, hp]
 refine HT.mono (Flags_Free hH) ?_
 rintro _ _ ⟨rfl, rfl⟩
 try simp only [nf, Nat.reduceAdd, hp]
 refine hops_nil ?_
 try simp only [nf, Nat.reduceAdd, hp]
 refine hc_T rfl (by first | rfl | assumption | (simp; done) | (simp; omega) | (simp [*]; done)) ?_
 refine sR ?_
 refine oA ?_
 try simp only [nf, Nat.reduceAdd, hp]
 refine hops_nil ?_
 try simp only [nf, Nat.reduceAdd, hp]
 refine hc_ret ?_
 try simp only [hng, hthen, hblock]
 refine hend_tmp rfl ?_
 exact ⟨rfl, rfl⟩
theorem Frame_Put_bad {H : Hp} {b : Nat} {A B : List Value} {T : TypeId} {f : Fr} (hH : H b = some (row (A ++ frc f ++ B) T)) (hp : 0 < f.pins) (hfb : f.b.length = 32) {off : Int} {a : Option Addr} {m c : Nat} (h0 : -9223372036854775000 ≤ off) (h1 : off ≤ 9223372036854775000) (hf : fitsE 32 off m = 4) :
    HT prog 86 #[.pointer (some ⟨b, A.length, none⟩), .int .i64 off, .slice a m c] H (fun v H' => v = .int .i64 4 ∧ H = H') := by
 have hpf : (f.pins == 0) = false := by simp; omega
 have hl : A.length + 5 + 32 ≤ (A ++ frc f ++ B).length := by simp [frc, hfb]; omega
 refine ht_of_body (args := [.pointer (some ⟨b, A.length, none⟩), .int .i64 off, .slice a m c]) func86 rfl ?_
 simp only [ntmps86, List.length_cons, List.length_nil, Nat.reduceAdd, Nat.reduceSub, List.replicate_succ, List.replicate_zero, List.cons_append, List.nil_append]
 refine sR ?_
 refine oA ?_
 try simp only [nf, Nat.reduceAdd, hpf]
 refine hops_nil ?_
 try simp only [nf, Nat.reduceAdd, hpf]
 refine hc_seq ?_
 refine sR ?_
 refine oM ?_
 try simp only [nf, Nat.reduceAdd, hpf]
 refine oN rfl ?_
 try simp only [nf, Nat.reduceAdd, hpf]
 refine oF rfl ?_
 try simp only [nf, Nat.reduceAdd, hpf]
 refine hops_cons rfl (hop_call ?_)
 simp only [nf, Nat.reduceAdd, hpf]
 refine HT.mono (Flags_Free hH) ?_
 rintro _ _ ⟨rfl, rfl⟩
 try simp only [nf, Nat.reduceAdd, hpf]
 refine hops_nil ?_
 try simp only [nf, Nat.reduceAdd, hpf]
 refine hc_F rfl (by first | rfl | assumption | (simp; done) | (simp; omega) | (simp [*]; done)) ?_
 refine hc_skip ?_
 try simp only [nf, Nat.reduceAdd, hpf]
 refine sR ?_
 refine oM ?_
 try simp only [nf, Nat.reduceAdd, hpf]
 refine oN rfl ?_
 try simp only [nf, Nat.reduceAdd, hpf]
 refine oF rfl ?_
 try simp only [nf, Nat.reduceAdd, hpf]
 refine hops_cons rfl (hop_sliceAll rfl ?_)
 try simp only [nf, Nat.reduceAdd, hpf]
 refine oM ?_
 try simp only [nf, Nat.reduceAdd, hpf]
 refine oM ?_
 try simp only [nf, Nat.reduceAdd, hpf]
 refine hops_cons rfl (hop_call ?_)
 simp only [nf, Nat.reduceAdd, hpf]
 refine HT.mono (cell_Put_bad hH hl h0 h1 hf) ?_
 rintro _ _ ⟨rfl, rfl⟩
 try simp only [nf, Nat.reduceAdd, hpf]
 refine oM ?_
 try simp only [nf, Nat.reduceAdd, hpf]
 refine hops_cons rfl (hop_extract rfl rfl ?_)
 try simp only [nf, Nat.reduceAdd, hpf]
 refine hops_cons rfl (hop_extract rfl rfl ?_)
 try simp only [nf, Nat.reduceAdd, hpf]
 refine oA ?_
 try simp only [nf, Nat.reduceAdd, hpf]
 refine oA ?_
 try simp only [nf, Nat.reduceAdd, hpf]
 refine hops_nil ?_
 try simp only [nf, Nat.reduceAdd, hpf]
 refine hc_seq ?_
 refine sR ?_
 refine oM ?_
 try simp only [nf, Nat.reduceAdd, hpf]
 refine hops_cons rfl (hop_bin rfl rfl rfl ?_)
 try simp only [nf, Nat.reduceAdd, hpf]
 refine hops_nil ?_
 try simp only [nf, Nat.reduceAdd, hpf]
 refine hc_T rfl (by first | rfl | assumption | (simp; done) | (simp; omega) | (simp [*]; done)) ?_
 refine sR ?_
 refine oM ?_
 try simp only [nf, Nat.reduceAdd, hpf]
 refine oA ?_
 try simp only [nf, Nat.reduceAdd, hpf]
 refine hops_nil ?_
 try simp only [nf, Nat.reduceAdd, hpf]
 refine hc_ret ?_
 try simp only [hng, hthen, hblock]
 refine hend_tmp rfl ?_
 exact ⟨rfl, rfl⟩
theorem Frame_Put_ok {H : Hp} {b : Nat} {A B : List Value} {T : TypeId} {f : Fr} (hH : H b = some (row (A ++ frc f ++ B) T)) (hp : 0 < f.pins) (hfb : f.b.length = 32) {off m c : Nat} {a : Option Addr} {d : List UInt8} (hs : srcOk H 1 m (.slice a m c) (d.map byv)) (hf : off + m ≤ 32) (hv : ∀ v ∈ A ++ frc f ++ B, v.oneCell' = true) :
    HT prog 86 #[.pointer (some ⟨b, A.length, none⟩), .int .i64 off, .slice a m c] H (fun v H' => v = .int .i64 0 ∧ H' = H.set b (row (A ++ frc { f with ref := true, dirty := true, b := spl f.b off d } ++ B) T)) := by
 have hpf : (f.pins == 0) = false := by simp; omega
 have hl : A.length + 5 + 32 ≤ (A ++ frc f ++ B).length := by simp [frc, hfb]; omega
 have hdl : d.length = m := by simpa using srcOk_len hs
 have hsl : (spl f.b off d).length = 32 := by rw [spl_length] <;> omega
 have hw : wr (((A ++ frc f ++ B).drop (A.length + 5)).take 32) off (d.map byv) = (spl f.b off d).map byv := by
   have := frc_bytes (f := f) (A := A) (B := B) (off := 0) (m := 32) hfb (by omega)
   rw [Nat.add_zero] at this
   rw [this, List.drop_zero, List.take_of_length_le (by omega), wr_byv (by omega)]
 refine ht_of_body (args := [.pointer (some ⟨b, A.length, none⟩), .int .i64 off, .slice a m c]) func86 rfl ?_
 simp only [ntmps86, List.length_cons, List.length_nil, Nat.reduceAdd, Nat.reduceSub, List.replicate_succ, List.replicate_zero, List.cons_append, List.nil_append]
 refine sR ?_
 refine oA ?_
 try simp only [nf, Nat.reduceAdd, hpf, hw]
 refine hops_nil ?_
 try simp only [nf, Nat.reduceAdd, hpf, hw]
 refine hc_seq ?_
 refine sR ?_
 refine oM ?_
 try simp only [nf, Nat.reduceAdd, hpf, hw]
 refine oN rfl ?_
 try simp only [nf, Nat.reduceAdd, hpf, hw]
 refine oF rfl ?_
 try simp only [nf, Nat.reduceAdd, hpf, hw]
 refine hops_cons rfl (hop_call ?_)
 simp only [nf, Nat.reduceAdd, hpf, hw]
 refine HT.mono (Flags_Free hH) ?_
 rintro _ _ ⟨rfl, rfl⟩
 try simp only [nf, Nat.reduceAdd, hpf, hw]
 refine hops_nil ?_
 try simp only [nf, Nat.reduceAdd, hpf, hw]
 refine hc_F rfl (by first | rfl | assumption | (simp; done) | (simp; omega) | (simp [*]; done)) ?_
 refine hc_skip ?_
 try simp only [nf, Nat.reduceAdd, hpf, hw]
 refine sR ?_
 refine oM ?_
 try simp only [nf, Nat.reduceAdd, hpf, hw]
 refine oN rfl ?_
 try simp only [nf, Nat.reduceAdd, hpf, hw]
 refine oF rfl ?_
 try simp only [nf, Nat.reduceAdd, hpf, hw]
 refine hops_cons rfl (hop_sliceAll rfl ?_)
 try simp only [nf, Nat.reduceAdd, hpf, hw]
 refine oM ?_
 try simp only [nf, Nat.reduceAdd, hpf, hw]
 refine oM ?_
 try simp only [nf, Nat.reduceAdd, hpf, hw]
 refine hops_cons rfl (hop_call ?_)
 simp only [nf, Nat.reduceAdd, hpf, hw]
 refine HT.mono (cell_Put_ok hH hl hs hf hv (one_map _)) ?_
 rintro _ _ ⟨b', hb', rfl, rfl⟩
 try simp only [nf, Nat.reduceAdd, hpf, hw]
 refine oM ?_
 try simp only [nf, Nat.reduceAdd, hpf, hw]
 refine hops_cons rfl (hop_extract rfl rfl ?_)
 try simp only [nf, Nat.reduceAdd, hpf, hw]
 refine hops_cons rfl (hop_extract rfl rfl ?_)
 try simp only [nf, Nat.reduceAdd, hpf, hw]
 refine oA ?_
 try simp only [nf, Nat.reduceAdd, hpf, hw]
 refine oA ?_
 try simp only [nf, Nat.reduceAdd, hpf, hw]
 refine hops_nil ?_
 try simp only [nf, Nat.reduceAdd, hpf, hw]
 refine hc_seq ?_
 refine sR ?_
 refine oM ?_
 try simp only [nf, Nat.reduceAdd, hpf, hw]
 refine hops_cons rfl (hop_bin rfl rfl rfl ?_)
 try simp only [nf, Nat.reduceAdd, hpf, hw]
 refine hops_nil ?_
 try simp only [nf, Nat.reduceAdd, hpf, hw]
 refine hc_F rfl (by first | rfl | assumption | (simp; done) | (simp; omega) | (simp [*]; done)) ?_
 refine hc_skip ?_
 try simp only [nf, Nat.reduceAdd, hpf, hw]
 refine sR ?_
 refine oM ?_
 try simp only [nf, Nat.reduceAdd, hpf, hw]
 refine oN rfl ?_
 try simp only [nf, Nat.reduceAdd, hpf, hw]
 refine oF rfl ?_
 try simp only [nf, Nat.reduceAdd, hpf, hw]
 refine hops_cons rfl (hop_sliceAll rfl ?_)
 try simp only [nf, Nat.reduceAdd, hpf, hw]
 refine oM ?_
 try simp only [nf, Nat.reduceAdd, hpf, hw]
 have hbb : b ≠ b' := Hp.ne_of hH hb'
 refine hops_cons rfl (hop_copy (m := 32) (ys := (spl f.b off d).map byv) rfl (Hp.get_there hbb hH) (by omega) (srcOk_own' (Hp.set_same _ _ _) (by simp [hsl])) (one_map _) ?_)
 have hbb2 : b' ≠ b := Ne.symm hbb
 rw [show (List.take (min 32 32 * 1) (List.map byv (spl f.b off d))) = List.map byv (spl f.b off d) from List.take_of_length_le (by simp [hsl]), wr_frc hfb hsl]
 try simp only [pt, ev, List.getD_cons_zero, List.getD_cons_succ, List.set_cons_zero, List.set_cons_succ]
 refine hops_nil ?_
 try simp only [nf, Nat.reduceAdd, hpf, hw]
 refine sR ?_
 refine oM ?_
 try simp only [nf, Nat.reduceAdd, hpf, hw]
 refine oM ?_
 try simp only [nf, Nat.reduceAdd, hpf, hw]
 refine oN rfl ?_
 try simp only [nf, Nat.reduceAdd, hpf, hw]
 refine oF rfl ?_
 try simp only [nf, Nat.reduceAdd, hpf, hw]
 refine oF rfl ?_
 try simp only [nf, Nat.reduceAdd, hpf, hw]
 refine hops_cons rfl (hop_store rfl rfl (by first | rfl | assumption) (by solve_by_elim [hS, hN, hT, hT']) (by first | assumption | omega | (simp; done) | (simp; omega) | (simp [frc] <;> omega)) ?_)
 try simp only [nf, Nat.reduceAdd, hpf, hw]
 refine oN rfl ?_
 try simp only [nf, Nat.reduceAdd, hpf, hw]
 refine oF rfl ?_
 try simp only [nf, Nat.reduceAdd, hpf, hw]
 refine oF rfl ?_
 try simp only [nf, Nat.reduceAdd, hpf, hw]
 refine hops_cons rfl (hop_store rfl rfl (by first | rfl | assumption) (by solve_by_elim [hS, hN, hT, hT']) (by first | assumption | omega | (simp; done) | (simp; omega) | (simp [frc] <;> omega)) ?_)
 try simp only [nf, Nat.reduceAdd, hpf, hw]
 refine hops_nil ?_
 try simp only [nf, Nat.reduceAdd, hpf, hw]
 refine sR ?_
 refine oA ?_
 try simp only [nf, Nat.reduceAdd, hpf, hw]
 refine hops_nil ?_
 try simp only [nf, Nat.reduceAdd, hpf, hw]
 refine hc_ret ?_
 try simp only [hng, hthen, hblock]
 refine hend_tmp_sub rfl ((Sub.set_new hb').set _ _) ⟨rfl, ?_⟩
 rw [fset (by omega), mid_set (by simp [frc])]
 rfl
theorem Frame_Load {H : Hp} {b : Nat} {A B : List Value} {T : TypeId} {f : Fr} (hH : H b = some (row (A ++ frc f ++ B) T)) (hfb : f.b.length = 32) {c : Nat} {pg : Int} {d : List UInt8} (hd : d.length = 32) {bb o : Nat} {L : List Value} {TT : TypeId} (hS : H bb = some (row L TT)) (ho : o + 32 ≤ L.length) (hL : (L.drop o).take 32 = d.map byv) :
    HT prog 60 #[.pointer (some ⟨b, A.length, none⟩), .int .i64 pg, .slice (some ⟨bb, o, none⟩) 32 c] H (fun v H' => v = .int .i64 0 ∧ H' = H.set b (row (A ++ frc ⟨true, false, false, 0, pg, d⟩ ++ B) T)) := by
 refine ht_of_body (args := [.pointer (some ⟨b, A.length, none⟩), .int .i64 pg, .slice (some ⟨bb, o, none⟩) 32 c]) func60 rfl ?_
 simp only [ntmps60, List.length_cons, List.length_nil, Nat.reduceAdd, Nat.reduceSub, List.replicate_succ, List.replicate_zero, List.cons_append, List.nil_append]
 refine sR ?_
 refine oA ?_
 try simp only [nf, Nat.reduceAdd]
 refine hops_nil ?_
 try simp only [nf, Nat.reduceAdd]
 refine hc_seq ?_
 refine sR ?_
 refine oM ?_
 try simp only [nf, Nat.reduceAdd]
 refine hops_cons rfl (hop_lenS rfl ?_)
 try simp only [nf, Nat.reduceAdd]
 refine hops_cons rfl (hop_bin rfl rfl rfl ?_)
 try simp only [nf, Nat.reduceAdd]
 refine hops_nil ?_
 try simp only [nf, Nat.reduceAdd]
 refine hc_F rfl (by first | rfl | assumption | (simp; done) | (simp; omega) | (simp [*]; done)) ?_
 refine hc_skip ?_
 try simp only [nf, Nat.reduceAdd]
 refine sR ?_
 refine oM ?_
 try simp only [nf, Nat.reduceAdd]
 refine hops_cons rfl (hop_build (L := [.bool true, .bool false, .bool false, .int .i64 0]) rfl ?_)
 try simp only [nf, Nat.reduceAdd]
 refine oM ?_
 try simp only [nf, Nat.reduceAdd]
 refine oM ?_
 try simp only [nf, Nat.reduceAdd]
 refine hops_cons rfl (hop_toArrayPtr rfl (by omega) ?_)
 try simp only [nf, Nat.reduceAdd]
 refine hops_cons rfl (hop_loadA rfl hS ho ?_)
 try simp only [nf, Nat.reduceAdd]
 refine hops_cons rfl (hop_build (L := frc ⟨true, false, false, 0, pg, d⟩) (by simp only [List.map_cons, List.map_nil, ev, List.getD_cons_zero, List.getD_cons_succ, hL]; exact build_frc rfl hd) ?_)
 try simp only [nf, Nat.reduceAdd]
 refine oN rfl ?_
 try simp only [nf, Nat.reduceAdd]
 refine hops_cons rfl (hop_storeA (n := 37) (vs := frc ⟨true, false, false, 0, pg, d⟩) rfl rfl (frc_length hd) (one_frc _) hH (by simp [frc_length hfb]) (by decide) ?_)
 try simp only [nf, Nat.reduceAdd]
 refine hops_nil ?_
 try simp only [nf, Nat.reduceAdd]
 refine sR ?_
 refine oA ?_
 try simp only [nf, Nat.reduceAdd]
 refine hops_nil ?_
 try simp only [nf, Nat.reduceAdd]
 refine hc_ret ?_
 try simp only [hng, hthen, hblock]
 refine hend_tmp rfl ?_
 exact ⟨rfl, by rw [mid_wr (by rw [frc_length hfb, frc_length hd])]⟩
theorem Frame_Zero {H : Hp} {b : Nat} {A B : List Value} {T : TypeId} {f : Fr} (hH : H b = some (row (A ++ frc f ++ B) T)) (hfb : f.b.length = 32) :
    HT prog 79 #[.pointer (some ⟨b, A.length, none⟩)] H (fun v H' => v = .tuple #[] ∧ H' = H.set b (row (A ++ frc Fr.zero ++ B) T)) := by
 refine ht_of_body (args := [.pointer (some ⟨b, A.length, none⟩)]) func79 rfl ?_
 simp only [ntmps79, List.length_cons, List.length_nil, Nat.reduceAdd, Nat.reduceSub, List.replicate_succ, List.replicate_zero, List.cons_append, List.nil_append]
 refine hc_region ?_
 refine oM ?_
 try simp only [nf, Nat.reduceAdd]
 refine hops_cons rfl (hop_build (L := frc Fr.zero) (by rw [frc_zero]; rfl) ?_)
 try simp only [nf, Nat.reduceAdd]
 refine oN rfl ?_
 try simp only [nf, Nat.reduceAdd]
 refine hops_cons rfl (hop_storeA (n := 37) (vs := frc Fr.zero) rfl rfl rfl (one_frc _) hH (by simp [frc_length hfb]) (by decide) ?_)
 try simp only [nf, Nat.reduceAdd]
 refine hops_nil ?_
 try simp only [nf, Nat.reduceAdd]
 refine hend_none rfl ?_
 exact ⟨rfl, by rw [mid_wr (by rw [frc_length hfb]; rfl)]⟩
end Go.Proofs.Try
