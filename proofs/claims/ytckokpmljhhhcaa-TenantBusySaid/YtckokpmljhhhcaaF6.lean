/- A part of the proofs over the tenants of a page cache: lemmas on what is known of the memory, and contracts of the Go functions. -/
import Derived.Test.YtckokpmljhhhcaaF3
set_option linter.unusedVariables false
set_option linter.unusedSimpArgs false
namespace Go.Proofs.Try
open Go Go.H
set_option linter.unusedSimpArgs false
set_option linter.unusedVariables false
set_option maxRecDepth 100000
set_option maxHeartbeats 2000000
def cnc (l : List Nat) : List Value := l.map fun (n : Nat) => Value.int .u64 (n : Int)
def sat (a b : Nat) : Nat := if 2 ^ 64 ≤ a + b then 2 ^ 64 - 1 else a + b
theorem sat_lt {a b : Nat} : sat a b < 2 ^ 64 := by unfold sat; split <;> omega
def cnAll (c : List Nat) : Prop := c.length = 6 ∧ ∀ x ∈ c, x < 2 ^ 64
theorem one_cnc (l : List Nat) : ∀ v ∈ cnc l, v.oneCell' = true := by
  intro v hv; simp only [cnc, List.mem_map] at hv; obtain ⟨n, _, rfl⟩ := hv; rfl
theorem cnc_get {l : List Nat} {k x : Nat} (h : l[k]? = some x) : (cnc l)[k]? = some (.int .u64 x) := by simp [cnc, h]
theorem cnc_set (l : List Nat) (k x : Nat) : (cnc l).set k (.int .u64 x) = cnc (l.set k x) := by simp [cnc, List.map_set]
theorem cnAll.set {l : List Nat} (h : cnAll l) {k x : Nat} (hx : x < 2 ^ 64) : cnAll (l.set k x) := by
  refine ⟨by simp [h.1], fun y hy => ?_⟩
  rcases List.mem_or_eq_of_mem_set hy with h' | rfl
  · exact h.2 y h'
  · exact hx
theorem cnAll.get {l : List Nat} (h : cnAll l) {k : Nat} (hk : k < 6) : ∃ x, l[k]? = some x ∧ x < 2 ^ 64 :=
  ⟨l[k]'(by rw [h.1]; omega), List.getElem?_eq_getElem _, h.2 _ (List.getElem_mem _)⟩
theorem six {k : Nat} (hk : k < 6) {b : Nat} : ([.pointer (some ⟨b, 0, none⟩), .pointer (some ⟨b, 1, none⟩), .pointer (some ⟨b, 2, none⟩), .pointer (some ⟨b, 3, none⟩), .pointer (some ⟨b, 4, none⟩), .pointer (some ⟨b, 5, none⟩)] : List Value)[k]? = some (.pointer (some ⟨b, k, none⟩)) := by
  rcases k with _ | _ | _ | _ | _ | _ | k <;> first | rfl | omega
theorem count_of_no {H : Hp} {b : Nat} {k : Int} (hk : k < 0 ∨ 6 ≤ k) :
    HT prog 76 #[.pointer (some ⟨b, 0, none⟩), .int .i64 k] H (fun v H' => v = .pointer none ∧ H = H') := by
 refine ht_of_body (args := [.pointer (some ⟨b, 0, none⟩), .int .i64 k]) func76 rfl ?_
 simp only [ntmps76, List.length_cons, List.length_nil, Nat.reduceAdd, Nat.reduceSub, List.replicate_succ, List.replicate_zero, List.cons_append, List.nil_append]
 refine sR ?_
 refine oA ?_
 try simp only [nf, Nat.reduceAdd]
 refine hops_nil ?_
 try simp only [nf, Nat.reduceAdd]
 refine hc_seq ?_
 refine sR ?_
 refine oM ?_
 try simp only [nf, Nat.reduceAdd]
 refine hops_cons rfl (hop_bin rfl rfl rfl ?_)
 try simp only [nf, Nat.reduceAdd]
 refine oM ?_
 try simp only [nf, Nat.reduceAdd]
 first
  | refine hops_off' rfl rfl (by rfl) ?_
  | refine hops_un rfl rfl ?_
  | (refine hops_on' rfl rfl (by rfl) (hop_move ?_))
  | (refine hops_gp (v := ?vg1) rfl rfl (fun hgp => ?hv1) ?hh1; case hv1 => ((try simp only [hgp, if_true, ev, List.getD_cons_zero, List.getD_cons_succ]); refine hop_move ?_; rfl))
 try simp only [nf, Nat.reduceAdd]
 first
  | refine hops_off' rfl rfl (by rfl) ?_
  | refine hops_un rfl rfl ?_
  | (refine hops_on' rfl rfl (by rfl) (hop_bin rfl rfl rfl ?_))
  | (refine hops_gp (v := ?vg2) rfl rfl (fun hgp => ?hv2) ?hh2; case hv2 => ((try simp only [hgp, if_true, ev, List.getD_cons_zero, List.getD_cons_succ]); refine hop_bin rfl rfl rfl ?_; rfl))
 try simp only [nf, Nat.reduceAdd]
 refine hops_cons rfl (hop_pick rfl ?_)
 try simp only [nf, Nat.reduceAdd]
 refine hops_nil ?_
 try simp only [nf, Nat.reduceAdd]
 refine hc_T rfl (by first | rfl | assumption | (simp; done) | (simp; omega) | (simp [*]; done)) ?_
 refine sR ?_
 refine oA ?_
 try simp only [nf, Nat.reduceAdd]
 refine hops_nil ?_
 try simp only [nf, Nat.reduceAdd]
 refine hc_ret ?_
 try simp only [hng, hthen, hblock]
 refine hend_tmp rfl ?_
 exact ⟨rfl, rfl⟩
theorem count_of {H : Hp} {b k : Nat} (hk : k < 6) :
    HT prog 76 #[.pointer (some ⟨b, 0, none⟩), .int .i64 k] H (fun v H' => v = .pointer (some ⟨b, k, none⟩) ∧ H = H') := by
 refine ht_of_body (args := [.pointer (some ⟨b, 0, none⟩), .int .i64 k]) func76 rfl ?_
 simp only [ntmps76, List.length_cons, List.length_nil, Nat.reduceAdd, Nat.reduceSub, List.replicate_succ, List.replicate_zero, List.cons_append, List.nil_append]
 refine sR ?_
 refine oA ?_
 try simp only [nf, Nat.reduceAdd]
 refine hops_nil ?_
 try simp only [nf, Nat.reduceAdd]
 refine hc_seq ?_
 refine sR ?_
 refine oM ?_
 try simp only [nf, Nat.reduceAdd]
 refine hops_cons rfl (hop_bin rfl rfl rfl ?_)
 try simp only [nf, Nat.reduceAdd]
 refine oM ?_
 try simp only [nf, Nat.reduceAdd]
 first
  | refine hops_off' rfl rfl (by rfl) ?_
  | refine hops_un rfl rfl ?_
  | (refine hops_on' rfl rfl (by rfl) (hop_move ?_))
  | (refine hops_gp (v := ?vg1) rfl rfl (fun hgp => ?hv1) ?hh1; case hv1 => ((try simp only [hgp, if_true, ev, List.getD_cons_zero, List.getD_cons_succ]); refine hop_move ?_; rfl))
 try simp only [nf, Nat.reduceAdd]
 first
  | refine hops_off' rfl rfl (by rfl) ?_
  | refine hops_un rfl rfl ?_
  | (refine hops_on' rfl rfl (by rfl) (hop_bin rfl rfl rfl ?_))
  | (refine hops_gp (v := ?vg2) rfl rfl (fun hgp => ?hv2) ?hh2; case hv2 => ((try simp only [hgp, if_true, ev, List.getD_cons_zero, List.getD_cons_succ]); refine hop_bin rfl rfl rfl ?_; rfl))
 try simp only [nf, Nat.reduceAdd]
 refine hops_cons rfl (hop_pick rfl ?_)
 try simp only [nf, Nat.reduceAdd]
 refine hops_nil ?_
 try simp only [nf, Nat.reduceAdd]
 refine hc_F rfl (by first | rfl | assumption | (simp; done) | (simp; omega) | (simp [*]; done)) ?_
 refine hc_skip ?_
 try simp only [nf, Nat.reduceAdd]
 refine hc_seq ?_
 refine hc_draw0 follows (by intros; simp [hng, hthen, hblock, hend]) ?_
 refine dT 0 rfl (by decide +kernel) rfl (by first | exact Sub.refl _ | exact Sub.del _ _ | exact Sub.del_set _ _ _) (hop_move ?_)
 try simp only [nf, Nat.reduceAdd]
 refine dT 1 rfl (by decide +kernel) rfl (by first | exact Sub.refl _ | exact Sub.del _ _ | exact Sub.del_set _ _ _) (hop_nilCheck rfl ?_)
 try simp only [nf, Nat.reduceAdd]
 refine dT 2 rfl (by decide +kernel) rfl (by first | exact Sub.refl _ | exact Sub.del _ _ | exact Sub.del_set _ _ _) (hop_fieldAddr rfl ?_)
 try simp only [nf, Nat.reduceAdd]
 refine dT 3 rfl (by decide +kernel) rfl (by first | exact Sub.refl _ | exact Sub.del _ _ | exact Sub.del_set _ _ _) (hop_move ?_)
 try simp only [nf, Nat.reduceAdd]
 refine dT 4 rfl (by decide +kernel) rfl (by first | exact Sub.refl _ | exact Sub.del _ _ | exact Sub.del_set _ _ _) (hop_nilCheck rfl ?_)
 try simp only [nf, Nat.reduceAdd]
 refine dT 5 rfl (by decide +kernel) rfl (by first | exact Sub.refl _ | exact Sub.del _ _ | exact Sub.del_set _ _ _) (hop_fieldAddr rfl ?_)
 try simp only [nf, Nat.reduceAdd]
 refine dT 6 rfl (by decide +kernel) rfl (by first | exact Sub.refl _ | exact Sub.del _ _ | exact Sub.del_set _ _ _) (hop_move ?_)
 try simp only [nf, Nat.reduceAdd]
 refine dT 7 rfl (by decide +kernel) rfl (by first | exact Sub.refl _ | exact Sub.del _ _ | exact Sub.del_set _ _ _) (hop_nilCheck rfl ?_)
 try simp only [nf, Nat.reduceAdd]
 refine dT 8 rfl (by decide +kernel) rfl (by first | exact Sub.refl _ | exact Sub.del _ _ | exact Sub.del_set _ _ _) (hop_fieldAddr rfl ?_)
 try simp only [nf, Nat.reduceAdd]
 refine dT 9 rfl (by decide +kernel) rfl (by first | exact Sub.refl _ | exact Sub.del _ _ | exact Sub.del_set _ _ _) (hop_move ?_)
 try simp only [nf, Nat.reduceAdd]
 refine dT 10 rfl (by decide +kernel) rfl (by first | exact Sub.refl _ | exact Sub.del _ _ | exact Sub.del_set _ _ _) (hop_nilCheck rfl ?_)
 try simp only [nf, Nat.reduceAdd]
 refine dT 11 rfl (by decide +kernel) rfl (by first | exact Sub.refl _ | exact Sub.del _ _ | exact Sub.del_set _ _ _) (hop_fieldAddr rfl ?_)
 try simp only [nf, Nat.reduceAdd]
 refine dT 12 rfl (by decide +kernel) rfl (by first | exact Sub.refl _ | exact Sub.del _ _ | exact Sub.del_set _ _ _) (hop_move ?_)
 try simp only [nf, Nat.reduceAdd]
 refine dT 13 rfl (by decide +kernel) rfl (by first | exact Sub.refl _ | exact Sub.del _ _ | exact Sub.del_set _ _ _) (hop_nilCheck rfl ?_)
 try simp only [nf, Nat.reduceAdd]
 refine dT 14 rfl (by decide +kernel) rfl (by first | exact Sub.refl _ | exact Sub.del _ _ | exact Sub.del_set _ _ _) (hop_fieldAddr rfl ?_)
 try simp only [nf, Nat.reduceAdd]
 refine dT 15 rfl (by decide +kernel) rfl (by first | exact Sub.refl _ | exact Sub.del _ _ | exact Sub.del_set _ _ _) (hop_move ?_)
 try simp only [nf, Nat.reduceAdd]
 refine dT 16 rfl (by decide +kernel) rfl (by first | exact Sub.refl _ | exact Sub.del _ _ | exact Sub.del_set _ _ _) (hop_nilCheck rfl ?_)
 try simp only [nf, Nat.reduceAdd]
 refine dT 17 rfl (by decide +kernel) rfl (by first | exact Sub.refl _ | exact Sub.del _ _ | exact Sub.del_set _ _ _) (hop_fieldAddr rfl ?_)
 try simp only [nf, Nat.reduceAdd]
 refine dT 18 rfl (by decide +kernel) rfl (by first | exact Sub.refl _ | exact Sub.del _ _ | exact Sub.del_set _ _ _) (hop_buildA rfl ?_)
 try simp only [nf, Nat.reduceAdd]
 refine dT 19 rfl (by decide +kernel) rfl (by first | exact Sub.refl _ | exact Sub.del _ _ | exact Sub.del_set _ _ _) (hop_move ?_)
 try simp only [nf, Nat.reduceAdd]
 refine dT 20 rfl (by decide +kernel) rfl (by first | exact Sub.refl _ | exact Sub.del _ _ | exact Sub.del_set _ _ _) (hop_indexA (i := (k : Int)) (v := .pointer (some ⟨b, k, none⟩)) (cs := [.pointer (some ⟨b, 0, none⟩), .pointer (some ⟨b, 1, none⟩), .pointer (some ⟨b, 2, none⟩), .pointer (some ⟨b, 3, none⟩), .pointer (some ⟨b, 4, none⟩), .pointer (some ⟨b, 5, none⟩)]) rfl rfl (by omega) (by omega) (by rw [Nat.mul_one]; exact six hk) ?_)
 try simp only [nf, Nat.reduceAdd]
 refine dT 21 rfl (by decide +kernel) rfl (by first | exact Sub.refl _ | exact Sub.del _ _ | exact Sub.del_set _ _ _) (hop_assign ?_)
 try simp only [nf, Nat.reduceAdd]
 refine hD_done (by decide +kernel) ?_
 try simp only [nf, Nat.reduceAdd]
 refine hc_ret ?_
 try simp only [hng, hthen, hblock]
 refine hend_tmp rfl ?_
 exact ⟨rfl, rfl⟩
theorem count_together {H : Hp} {x y : Nat} (hx : x < 2 ^ 64) (hy : y < 2 ^ 64) :
    HT prog 77 #[.int .u64 x, .int .u64 y] H (fun v H' => v = .int .u64 (sat x y : Nat) ∧ H = H') := by
 refine ht_of_body (args := [.int .u64 x, .int .u64 y]) func77 rfl ?_
 simp only [ntmps77, List.length_cons, List.length_nil, Nat.reduceAdd, Nat.reduceSub, List.replicate_succ, List.replicate_zero, List.cons_append, List.nil_append]
 refine sR ?_
 refine oA ?_
 try simp only [nf, Nat.reduceAdd]
 refine hops_nil ?_
 try simp only [nf, Nat.reduceAdd]
 refine sR ?_
 refine oM ?_
 try simp only [nf, Nat.reduceAdd]
 refine oM ?_
 try simp only [nf, Nat.reduceAdd]
 refine hops_cons rfl (hop_add64 rfl rfl rfl ?_)
 try simp only [nf, Nat.reduceAdd]
 refine oM ?_
 try simp only [nf, Nat.reduceAdd]
 refine hops_cons rfl (hop_extract rfl rfl ?_)
 try simp only [nf, Nat.reduceAdd]
 refine hops_cons rfl (hop_extract rfl rfl ?_)
 try simp only [nf, Nat.reduceAdd]
 refine oA ?_
 try simp only [nf, Nat.reduceAdd]
 refine oA ?_
 try simp only [nf, Nat.reduceAdd]
 refine hops_nil ?_
 try simp only [nf, Nat.reduceAdd]
 refine hc_seq ?_
 refine sR ?_
 refine oM ?_
 try simp only [nf, Nat.reduceAdd]
 refine hops_cons rfl (hop_bin rfl rfl rfl ?_)
 try simp only [nf, Nat.reduceAdd]
 refine hops_nil ?_
 try simp only [nf, Nat.reduceAdd]
 refine hc_cond rfl (fun hc0 => ?_) (fun hc0 => ?_)
 ·
  try simp at hc0
  refine sR ?_
  refine oA ?_
  try simp only [nf, Nat.reduceAdd]
  refine hops_nil ?_
  try simp only [nf, Nat.reduceAdd]
  refine hc_ret ?_
  try simp only [hng, hthen, hblock]
  refine hend_tmp rfl ?_
  refine ⟨?_, rfl⟩
  have h1 : 2 ^ 64 ≤ x + y := by omega
  rw [sat, if_pos h1]; rfl
 ·
  try simp at hc0
  refine hc_skip ?_
  try simp only [nf, Nat.reduceAdd]
  refine sR ?_
  refine oM ?_
  try simp only [nf, Nat.reduceAdd]
  refine oA ?_
  try simp only [nf, Nat.reduceAdd]
  refine hops_nil ?_
  try simp only [nf, Nat.reduceAdd]
  refine hc_ret ?_
  try simp only [hng, hthen, hblock]
  refine hend_tmp rfl ?_
  refine ⟨?_, rfl⟩
  have h1 : ¬ 2 ^ 64 ≤ x + y := by omega
  rw [sat, if_neg h1, Nat.mod_eq_of_lt (by omega)]; rfl
theorem count_Get {H : Hp} {c : List Nat} {k x : Nat} (hk : k < 6) (hx : c[k]? = some x) :
    HT prog 53 #[.agg (cnc c).toArray, .int .i64 k] H (fun v H' => v = .tuple #[.int .u64 x, .bool true] ∧ H = H') := by
 refine ht_of_body (args := [.agg (cnc c).toArray, .int .i64 k]) func53 rfl ?_
 simp only [ntmps53, List.length_cons, List.length_nil, Nat.reduceAdd, Nat.reduceSub, List.replicate_succ, List.replicate_zero, List.cons_append, List.nil_append]
 refine sR ?_
 refine hops_cons rfl (hop_box (zl := cnc c) rfl rfl ?_)
 intro jb hjb
 have sub := Sub.set_new (o := row (cnc c) 38) hjb
 try simp only [nf]
 refine oA ?_
 try simp only [nf, Nat.reduceAdd]
 refine oA ?_
 try simp only [nf, Nat.reduceAdd]
 refine hops_nil ?_
 try simp only [nf, Nat.reduceAdd]
 refine sR ?_
 refine oM ?_
 try simp only [nf, Nat.reduceAdd]
 refine hops_cons rfl (hop_call ?_)
 simp only [nf, Nat.reduceAdd]
 refine HT.mono (count_of hk) ?_
 rintro _ _ ⟨rfl, rfl⟩
 try simp only [nf, Nat.reduceAdd]
 refine oA ?_
 try simp only [nf, Nat.reduceAdd]
 refine hops_nil ?_
 try simp only [nf, Nat.reduceAdd]
 refine hc_seq ?_
 refine sR ?_
 refine oM ?_
 try simp only [nf, Nat.reduceAdd]
 refine hops_cons rfl (hop_eqNil rfl rfl ?_)
 try simp only [nf, Nat.reduceAdd]
 refine hops_nil ?_
 try simp only [nf, Nat.reduceAdd]
 refine hc_F rfl (by first | rfl | assumption | (simp; done) | (simp; omega) | (simp [*]; done)) ?_
 refine hc_skip ?_
 try simp only [nf, Nat.reduceAdd]
 refine sR ?_
 refine oM ?_
 try simp only [nf, Nat.reduceAdd]
 refine oN rfl ?_
 try simp only [nf, Nat.reduceAdd]
 refine hops_cons rfl (hop_load rfl (Hp.set_same _ _ _) (cnc_get hx) ?_)
 try simp only [nf, Nat.reduceAdd]
 refine oA ?_
 try simp only [nf, Nat.reduceAdd]
 refine oA ?_
 try simp only [nf, Nat.reduceAdd]
 refine hops_nil ?_
 try simp only [nf, Nat.reduceAdd]
 refine hc_ret ?_
 try simp only [hng, hthen, hblock]
 exact hend_tmp2_sub rfl sub ⟨rfl, rfl⟩
theorem count_Add {H : Hp} {c : List Nat} {k x n : Nat} (hc : c.length = 6) (hk : k < 6) (hx : c[k]? = some x) (hxl : x < 2 ^ 64) (hn : n < 2 ^ 64) :
    HT prog 54 #[.agg (cnc c).toArray, .int .i64 k, .int .u64 n] H (fun v H' => v = .agg (cnc (c.set k (sat x n))).toArray ∧ H = H') := by
 refine ht_of_body (args := [.agg (cnc c).toArray, .int .i64 k, .int .u64 n]) func54 rfl ?_
 simp only [ntmps54, List.length_cons, List.length_nil, Nat.reduceAdd, Nat.reduceSub, List.replicate_succ, List.replicate_zero, List.cons_append, List.nil_append]
 refine sR ?_
 refine hops_cons rfl (hop_box (zl := cnc c) rfl rfl ?_)
 intro jb hjb
 have sub := Sub.set_new (o := row (cnc c) 38) hjb
 try simp only [nf]
 refine hops_cons rfl (hop_alloc (zl := cnc [0, 0, 0, 0, 0, 0]) rfl ?_)
 intro r hr
 obtain ⟨hrj, hr0⟩ := Hp.set_none.1 hr
 have sub2 := sub.trans (Sub.set_new (o := row (cnc [0, 0, 0, 0, 0, 0]) 38) hr)
 have hjr := Ne.symm hrj
 try simp only [nf]
 refine hops_nil ?_
 try simp only [nf, Nat.reduceAdd]
 refine hc_seq ?_
 refine sR ?_
 refine oM ?_
 try simp only [nf, Nat.reduceAdd]
 refine hops_cons rfl (hop_call ?_)
 simp only [nf, Nat.reduceAdd]
 refine HT.mono (count_of hk) ?_
 rintro _ _ ⟨rfl, rfl⟩
 try simp only [nf, Nat.reduceAdd]
 refine oA ?_
 try simp only [nf, Nat.reduceAdd]
 refine hops_nil ?_
 try simp only [nf, Nat.reduceAdd]
 refine sR ?_
 refine oM ?_
 try simp only [nf, Nat.reduceAdd]
 refine hops_cons rfl (hop_neNil rfl rfl ?_)
 try simp only [nf, Nat.reduceAdd]
 refine hops_nil ?_
 try simp only [nf, Nat.reduceAdd]
 refine hc_T rfl (by first | rfl | assumption | (simp; done) | (simp; omega) | (simp [*]; done)) ?_
 refine hc_region ?_
 refine oM ?_
 try simp only [nf, Nat.reduceAdd]
 refine oM ?_
 try simp only [nf, Nat.reduceAdd]
 refine oN rfl ?_
 try simp only [nf, Nat.reduceAdd]
 refine hops_cons rfl (hop_load rfl (by solve_by_elim [hS, hN, hT, hT']) (cnc_get hx) ?_)
 try simp only [nf, Nat.reduceAdd]
 refine oM ?_
 try simp only [nf, Nat.reduceAdd]
 refine hops_cons rfl (hop_call ?_)
 simp only [nf, Nat.reduceAdd]
 refine HT.mono (count_together hxl hn) ?_
 rintro _ _ ⟨rfl, rfl⟩
 try simp only [nf, Nat.reduceAdd]
 refine oN rfl ?_
 try simp only [nf, Nat.reduceAdd]
 refine hops_cons rfl (hop_store rfl rfl rfl (by solve_by_elim [hS, hN, hT, hT']) (by simp [cnc, hc]; omega) ?_)
 try simp only [nf, Nat.reduceAdd]
 refine hops_nil ?_
 try simp only [nf, Nat.reduceAdd]
 refine sR ?_
 refine hops_cons rfl (hop_loadA rfl (Hp.set_same _ _ _) (by simp [cnc, hc]) ?_)
 try simp only [List.drop_zero]
 rw [cnc_set, List.take_of_length_le (by simp [cnc, hc])]
 try simp only [nf]
 refine hops_cons rfl (hop_storeA (n := 6) (vs := cnc (c.set k (sat x n))) rfl rfl (by simp [cnc, hc]) (one_cnc _) (by solve_by_elim [hS, hN, hT, hT']) (by simp [cnc]) (by decide) ?_)
 try simp only [nf, Nat.reduceAdd]
 refine hops_nil ?_
 try simp only [nf, Nat.reduceAdd]
 refine hc_ret ?_
 try simp only [hng, hthen, hblock]
 rw [wr_all (L := cnc [0, 0, 0, 0, 0, 0]) (vs := cnc (c.set k (sat x n))) (by simp [cnc, hc])]
 exact hend_mem (H' := H) ((Sub.over (Sub.over sub2 hjb _) hr0 _)) (hw_res_cell (L := cnc (c.set k (sat x n))) rfl rfl (Hp.set_same _ _ _) (by simp [cnc, hc]) rfl) ⟨rfl, rfl⟩
end Go.Proofs.Try
