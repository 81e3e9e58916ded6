/- A part of the proofs over the tenants of a page cache: lemmas on what is known of the memory, and contracts of the Go functions. -/
import Derived.Test.YtckokpmljhhhcaaTf
import Derived.Test.YtckokpmljhhhcaaM
set_option linter.unusedVariables false
set_option linter.unusedSimpArgs false
namespace Go.Proofs.Try
open Go Go.H
set_option linter.unusedSimpArgs false
set_option linter.unusedVariables false
set_option maxRecDepth 100000
set_option maxHeartbeats 2000000
theorem one_flc (f : Fl) : ∀ v ∈ flc f, v.oneCell' = true := by intro v h; simp [flc] at h; rcases h with rfl | rfl | rfl | rfl <;> rfl
theorem one_flat {l : List Fl} : ∀ v ∈ flat flc l, v.oneCell' = true := by
  intro v h
  simp only [flat, List.mem_flatten, List.mem_map] at h
  obtain ⟨_, ⟨f, _, rfl⟩, h⟩ := h
  exact one_flc f v h
theorem Clone_flags {H : Hp} {b n c : Nat} {ys B : List Value} (hH : H b = some (row (ys ++ B) 126)) (hl : ys.length = n * 4) (hv : ∀ v ∈ ys, v.oneCell' = true) (hn : n ≤ 65536) :
    HT prog 101 #[.slice (some ⟨b, 0, none⟩) n c] H (fun v H' => ∃ b' cap' B', H b' = none ∧ n ≤ cap' ∧ B'.length = (cap' - n) * 4 ∧ v = .slice (some ⟨b', 0, none⟩) n cap' ∧ H' = H.set b' (row (ys ++ B') 126)) := by
 refine ht_of_body (args := [.slice (some ⟨b, 0, none⟩) n c]) func101 rfl ?_
 simp only [ntmps101, List.length_cons, List.length_nil, Nat.reduceAdd, Nat.reduceSub, List.replicate_succ, List.replicate_zero, List.cons_append, List.nil_append]
 refine sR ?_
 refine oA ?_
 try simp only [nf, Nat.reduceAdd]
 refine hops_nil ?_
 try simp only [nf, Nat.reduceAdd]
 refine hc_seq ?_
 refine sR ?_
 refine oM ?_
 try simp only [nf, Nat.reduceAdd]
 refine hops_cons rfl (hop_eqSliceNil rfl rfl ?_)
 try simp only [nf, Nat.reduceAdd]
 refine hops_nil ?_
 try simp only [nf, Nat.reduceAdd]
 refine hc_F rfl (by first | rfl | assumption | (simp; done) | (simp; omega) | (simp [*]; done)) ?_
 refine hc_skip ?_
 try simp only [nf, Nat.reduceAdd]
 refine sR ?_
 refine hops_cons rfl (hop_buildSlice (L := []) rfl (by decide) (by decide) rfl ?_)
 intro b0 hb0
 have hbb : b ≠ b0 := Hp.ne_of hH hb0
 try simp only [pt, ev, List.getD_cons_zero, List.getD_cons_succ, List.set_cons_zero, List.set_cons_succ]
 refine oM ?_
 try simp only [nf, Nat.reduceAdd]
 have hs : srcOk (H.set b0 (row [] 126)) 4 n (.slice (some ⟨b, 0, none⟩) n c) ys := (srcOk_own hH hl).new hb0
 refine hops_cons rfl (hop_append (A := []) (B := []) (m := n) (ys := ys) rfl (Hp.set_same _ _ _) rfl rfl (Nat.le_refl _) hs hv rfl (by decide) (by omega) (by decide) ?_)
 intro b' cap' B' hb' hc' hB'
 rw [Hp.set_del, Hp.del_of hb0] at *
 simp only [Nat.zero_add, List.nil_append] at *
 refine oA ?_
 try simp only [nf, Nat.reduceAdd]
 refine hops_nil ?_
 try simp only [nf, Nat.reduceAdd]
 refine hc_ret ?_
 try simp only [hng, hthen, hblock]
 refine hend_tmp rfl ?_
 exact ⟨b', cap', B', hb', hc', hB', rfl, rfl⟩
theorem Fl_Free {H : Hp} {b : Nat} {A B : List Value} {T : TypeId} {f : Fl} (hH : H b = some (row (A ++ flc f ++ B) T)) :
    HT prog 78 #[.pointer (some ⟨b, A.length, none⟩)] H (fun v H' => v = .bool (f.pins == 0) ∧ H = H') := by
 refine ht_of_body (args := [.pointer (some ⟨b, A.length, none⟩)]) func78 rfl ?_
 simp only [ntmps78, List.length_cons, List.length_nil, Nat.reduceAdd, Nat.reduceSub, List.replicate_succ, List.replicate_zero, List.cons_append, List.nil_append]
 refine sR ?_
 refine oA ?_
 try simp only [nf, Nat.reduceAdd]
 refine hops_nil ?_
 try simp only [nf, Nat.reduceAdd]
 refine sR ?_
 refine oM ?_
 try simp only [nf, Nat.reduceAdd]
 refine oN rfl ?_
 try simp only [nf, Nat.reduceAdd]
 refine oF rfl ?_
 try simp only [nf, Nat.reduceAdd]
 refine hops_cons rfl (hop_load rfl (by solve_by_elim [hS, hN, hT, hT']) (by first | rfl | assumption | exact mid_get0 rfl | exact mid_get rfl | (simp; done)) ?_)
 try simp only [nf, Nat.reduceAdd]
 refine hops_cons rfl (hop_bin rfl rfl rfl ?_)
 try simp only [nf, Nat.reduceAdd]
 refine oA ?_
 try simp only [nf, Nat.reduceAdd]
 refine hops_nil ?_
 try simp only [nf, Nat.reduceAdd]
 refine hc_ret ?_
 try simp only [hng, hthen, hblock]
 refine hend_tmp rfl ?_
 exact ⟨rfl, rfl⟩
theorem goes_1 {H : Hp} {ob b n c : Nat} {A B : List Value} {f : Fl} {i : Nat} (ho : H ob = some (row [.slice (some ⟨b, 0, none⟩) n c] 153)) (hH : H b = some (row (A ++ flc f ++ B) 126)) (hi : A.length = i * 4) (hin : i < n) (hu : f.used = false) :
    HT prog 102 #[.int .i64 i, .pointer (some ⟨ob, 0, none⟩)] H (fun v H' => v = .bool true ∧ H = H') := by
 refine ht_of_body (args := [.int .i64 i, .pointer (some ⟨ob, 0, none⟩)]) func102 rfl ?_
 simp only [ntmps102, List.length_cons, List.length_nil, Nat.reduceAdd, Nat.reduceSub, List.replicate_succ, List.replicate_zero, List.cons_append, List.nil_append]
 refine sR ?_
 refine oA ?_
 try simp only [nf, Nat.reduceAdd, hu]
 refine hops_nil ?_
 try simp only [nf, Nat.reduceAdd, hu]
 refine sR ?_
 refine hops_cons rfl (hop_load rfl (by solve_by_elim [hS, hN, hT, hT']) (by first | rfl | assumption | exact mid_get0 rfl | exact mid_get rfl | (simp; done)) ?_)
 try simp only [nf, Nat.reduceAdd, hu]
 refine oM ?_
 try simp only [nf, Nat.reduceAdd, hu]
 refine hops_cons rfl (hop_indexAddr (i := (i : Int)) (b := b) (o := 0) (n := 4) (len := n) (cap := c) rfl rfl (by omega) (by omega) ?_)
 simp only [Int.toNat_natCast, Nat.zero_add, ← hi]
 try simp only [pt, ev, List.getD_cons_zero, List.getD_cons_succ, List.set_cons_zero, List.set_cons_succ]
 refine oA ?_
 try simp only [nf, Nat.reduceAdd, hu]
 refine hops_nil ?_
 try simp only [nf, Nat.reduceAdd, hu]
 refine hc_seq ?_
 refine hc_block ?_
 refine sR ?_
 refine oM ?_
 try simp only [nf, Nat.reduceAdd, hu]
 refine oN rfl ?_
 try simp only [nf, Nat.reduceAdd, hu]
 refine oF rfl ?_
 try simp only [nf, Nat.reduceAdd, hu]
 refine hops_cons rfl (hop_load rfl (by solve_by_elim [hS, hN, hT, hT']) (by first | rfl | assumption | exact mid_get0 rfl | exact mid_get rfl | (simp; done)) ?_)
 try simp only [nf, Nat.reduceAdd, hu]
 refine hops_cons rfl (hop_not rfl ?_)
 try simp only [nf, Nat.reduceAdd, hu]
 refine oA ?_
 try simp only [nf, Nat.reduceAdd, hu]
 refine hops_nil ?_
 try simp only [nf, Nat.reduceAdd, hu]
 refine hc_T rfl (by first | rfl | assumption | (simp; done) | (simp; omega) | (simp [*]; done)) ?_
 refine sR ?_
 refine oA ?_
 try simp only [nf, Nat.reduceAdd, hu]
 refine hops_nil ?_
 try simp only [nf, Nat.reduceAdd, hu]
 refine hc_ret ?_
 try simp only [hng, hthen, hblock]
 refine hend_tmp rfl ?_
 exact ⟨rfl, rfl⟩
theorem goes_2 {H : Hp} {ob b n c : Nat} {A B : List Value} {f : Fl} {i : Nat} (ho : H ob = some (row [.slice (some ⟨b, 0, none⟩) n c] 153)) (hH : H b = some (row (A ++ flc f ++ B) 126)) (hi : A.length = i * 4) (hin : i < n) (hu : f.used = true) (hp : f.pins ≠ 0) :
    HT prog 102 #[.int .i64 i, .pointer (some ⟨ob, 0, none⟩)] H (fun v H' => v = .bool false ∧ H = H') := by
 have hpp : (f.pins == 0) = false := by simp [hp]
 refine ht_of_body (args := [.int .i64 i, .pointer (some ⟨ob, 0, none⟩)]) func102 rfl ?_
 simp only [ntmps102, List.length_cons, List.length_nil, Nat.reduceAdd, Nat.reduceSub, List.replicate_succ, List.replicate_zero, List.cons_append, List.nil_append]
 refine sR ?_
 refine oA ?_
 try simp only [nf, Nat.reduceAdd, hu]
 refine hops_nil ?_
 try simp only [nf, Nat.reduceAdd, hu]
 refine sR ?_
 refine hops_cons rfl (hop_load rfl (by solve_by_elim [hS, hN, hT, hT']) (by first | rfl | assumption | exact mid_get0 rfl | exact mid_get rfl | (simp; done)) ?_)
 try simp only [nf, Nat.reduceAdd, hu]
 refine oM ?_
 try simp only [nf, Nat.reduceAdd, hu]
 refine hops_cons rfl (hop_indexAddr (i := (i : Int)) (b := b) (o := 0) (n := 4) (len := n) (cap := c) rfl rfl (by omega) (by omega) ?_)
 simp only [Int.toNat_natCast, Nat.zero_add, ← hi]
 try simp only [pt, ev, List.getD_cons_zero, List.getD_cons_succ, List.set_cons_zero, List.set_cons_succ]
 refine oA ?_
 try simp only [nf, Nat.reduceAdd, hu]
 refine hops_nil ?_
 try simp only [nf, Nat.reduceAdd, hu]
 refine hc_seq ?_
 refine hc_block ?_
 refine sR ?_
 refine oM ?_
 try simp only [nf, Nat.reduceAdd, hu]
 refine oN rfl ?_
 try simp only [nf, Nat.reduceAdd, hu]
 refine oF rfl ?_
 try simp only [nf, Nat.reduceAdd, hu]
 refine hops_cons rfl (hop_load rfl (by solve_by_elim [hS, hN, hT, hT']) (by first | rfl | assumption | exact mid_get0 rfl | exact mid_get rfl | (simp; done)) ?_)
 try simp only [nf, Nat.reduceAdd, hu]
 refine hops_cons rfl (hop_not rfl ?_)
 try simp only [nf, Nat.reduceAdd, hu]
 refine oA ?_
 try simp only [nf, Nat.reduceAdd, hu]
 refine hops_nil ?_
 try simp only [nf, Nat.reduceAdd, hu]
 refine hc_F rfl (by first | rfl | assumption | (simp; done) | (simp; omega) | (simp [*]; done)) ?_
 refine sR ?_
 refine oM ?_
 try simp only [nf, Nat.reduceAdd, hu]
 refine hops_cons rfl (hop_call ?_)
 simp only [nf, Nat.reduceAdd, hu]
 refine HT.mono (Fl_Free hH) ?_
 rintro _ _ ⟨rfl, rfl⟩
 try simp only [nf, Nat.reduceAdd, hu]
 refine hops_cons rfl (hop_not rfl ?_)
 try simp only [nf, Nat.reduceAdd, hu]
 refine oA ?_
 try simp only [nf, Nat.reduceAdd, hu]
 refine hops_nil ?_
 try simp only [nf, Nat.reduceAdd, hu]
 refine hc_T rfl (by first | rfl | assumption | (simp; done) | (simp; omega) | (simp [*]; done)) ?_
 refine sR ?_
 refine oA ?_
 try simp only [nf, Nat.reduceAdd, hu]
 refine hops_nil ?_
 try simp only [nf, Nat.reduceAdd, hu]
 refine hc_ret ?_
 try simp only [hng, hthen, hblock]
 refine hend_tmp rfl ?_
 exact ⟨rfl, rfl⟩
theorem goes_3 {H : Hp} {ob b n c : Nat} {A B : List Value} {f : Fl} {i : Nat} (ho : H ob = some (row [.slice (some ⟨b, 0, none⟩) n c] 153)) (hH : H b = some (row (A ++ flc f ++ B) 126)) (hi : A.length = i * 4) (hin : i < n) (hu : f.used = true) (hp : f.pins = 0) :
    HT prog 102 #[.int .i64 i, .pointer (some ⟨ob, 0, none⟩)] H (fun v H' => v = .bool (!f.ref) ∧ H' = H.set b (row (A ++ flc { f with ref := false } ++ B) 126)) := by
 have hpp : (f.pins == 0) = true := by simp [hp]
 refine ht_of_body (args := [.int .i64 i, .pointer (some ⟨ob, 0, none⟩)]) func102 rfl ?_
 simp only [ntmps102, List.length_cons, List.length_nil, Nat.reduceAdd, Nat.reduceSub, List.replicate_succ, List.replicate_zero, List.cons_append, List.nil_append]
 refine sR ?_
 refine oA ?_
 try simp only [nf, Nat.reduceAdd, hu]
 refine hops_nil ?_
 try simp only [nf, Nat.reduceAdd, hu]
 refine sR ?_
 refine hops_cons rfl (hop_load rfl (by solve_by_elim [hS, hN, hT, hT']) (by first | rfl | assumption | exact mid_get0 rfl | exact mid_get rfl | (simp; done)) ?_)
 try simp only [nf, Nat.reduceAdd, hu]
 refine oM ?_
 try simp only [nf, Nat.reduceAdd, hu]
 refine hops_cons rfl (hop_indexAddr (i := (i : Int)) (b := b) (o := 0) (n := 4) (len := n) (cap := c) rfl rfl (by omega) (by omega) ?_)
 simp only [Int.toNat_natCast, Nat.zero_add, ← hi]
 try simp only [pt, ev, List.getD_cons_zero, List.getD_cons_succ, List.set_cons_zero, List.set_cons_succ]
 refine oA ?_
 try simp only [nf, Nat.reduceAdd, hu]
 refine hops_nil ?_
 try simp only [nf, Nat.reduceAdd, hu]
 refine hc_seq ?_
 refine hc_block ?_
 refine sR ?_
 refine oM ?_
 try simp only [nf, Nat.reduceAdd, hu]
 refine oN rfl ?_
 try simp only [nf, Nat.reduceAdd, hu]
 refine oF rfl ?_
 try simp only [nf, Nat.reduceAdd, hu]
 refine hops_cons rfl (hop_load rfl (by solve_by_elim [hS, hN, hT, hT']) (by first | rfl | assumption | exact mid_get0 rfl | exact mid_get rfl | (simp; done)) ?_)
 try simp only [nf, Nat.reduceAdd, hu]
 refine hops_cons rfl (hop_not rfl ?_)
 try simp only [nf, Nat.reduceAdd, hu]
 refine oA ?_
 try simp only [nf, Nat.reduceAdd, hu]
 refine hops_nil ?_
 try simp only [nf, Nat.reduceAdd, hu]
 refine hc_F rfl (by first | rfl | assumption | (simp; done) | (simp; omega) | (simp [*]; done)) ?_
 refine sR ?_
 refine oM ?_
 try simp only [nf, Nat.reduceAdd, hu]
 refine hops_cons rfl (hop_call ?_)
 simp only [nf, Nat.reduceAdd, hu]
 refine HT.mono (Fl_Free hH) ?_
 rintro _ _ ⟨rfl, rfl⟩
 try simp only [nf, Nat.reduceAdd, hu]
 refine hops_cons rfl (hop_not rfl ?_)
 try simp only [nf, Nat.reduceAdd, hu]
 refine oA ?_
 try simp only [nf, Nat.reduceAdd, hu]
 refine hops_nil ?_
 try simp only [nf, Nat.reduceAdd, hu]
 refine hc_F rfl (by first | rfl | assumption | (simp; done) | (simp; omega) | (simp [*]; done)) ?_
 refine hc_skip ?_
 try simp only [nf, Nat.reduceAdd, hu]
 refine sR ?_
 refine oM ?_
 try simp only [nf, Nat.reduceAdd, hu]
 refine oN rfl ?_
 try simp only [nf, Nat.reduceAdd, hu]
 refine oF rfl ?_
 try simp only [nf, Nat.reduceAdd, hu]
 refine hops_cons rfl (hop_load rfl (by solve_by_elim [hS, hN, hT, hT']) (by first | rfl | assumption | exact mid_get0 rfl | exact mid_get rfl | (simp; done)) ?_)
 try simp only [nf, Nat.reduceAdd, hu]
 refine oA ?_
 try simp only [nf, Nat.reduceAdd, hu]
 refine hops_nil ?_
 try simp only [nf, Nat.reduceAdd, hu]
 refine sR ?_
 refine oM ?_
 try simp only [nf, Nat.reduceAdd, hu]
 refine oN rfl ?_
 try simp only [nf, Nat.reduceAdd, hu]
 refine oF rfl ?_
 try simp only [nf, Nat.reduceAdd, hu]
 refine hops_cons rfl (hop_store rfl rfl rfl hH (by simp [flc] <;> omega) ?_)
 try simp only [nf, Nat.reduceAdd, hu]
 refine hops_nil ?_
 try simp only [nf, Nat.reduceAdd, hu]
 refine sR ?_
 refine oM ?_
 try simp only [nf, Nat.reduceAdd, hu]
 refine hops_cons rfl (hop_not rfl ?_)
 try simp only [nf, Nat.reduceAdd, hu]
 refine oA ?_
 try simp only [nf, Nat.reduceAdd, hu]
 refine hops_nil ?_
 try simp only [nf, Nat.reduceAdd, hu]
 refine hc_ret ?_
 try simp only [hng, hthen, hblock]
 refine hend_tmp rfl ?_
 refine ⟨rfl, ?_⟩
 rw [mid_set (by simp [flc])]
 simp [flc, hu]
theorem goes_all {H : Hp} {ob b n c : Nat} {A B : List Value} {f : Fl} {i : Nat} (ho : H ob = some (row [.slice (some ⟨b, 0, none⟩) n c] 153)) (hH : H b = some (row (A ++ flc f ++ B) 126)) (hi : A.length = i * 4) (hin : i < n) :
    HT prog 102 #[.int .i64 i, .pointer (some ⟨ob, 0, none⟩)] H (fun v H' => v = .bool (goesF f).1 ∧ H' = H.set b (row (A ++ flc (goesF f).2 ++ B) 126)) := by
  unfold goesF
  by_cases hu : f.used = false
  · rw [if_pos hu]
    refine (goes_1 ho hH hi hin hu).mono ?_
    rintro _ _ ⟨rfl, rfl⟩
    exact ⟨rfl, (Hp.set_eq _ hH).symm⟩
  · rw [if_neg hu]
    have hu' : f.used = true := by simpa using hu
    by_cases hp : f.pins = 0
    · rw [if_pos hp]; exact goes_3 ho hH hi hin hu' hp
    · rw [if_neg hp]
      refine (goes_2 ho hH hi hin hu' hp).mono ?_
      rintro _ _ ⟨rfl, rfl⟩
      exact ⟨rfl, (Hp.set_eq _ hH).symm⟩
theorem clock_turn {H0 : Hp} {lb n c hand : Nat} {l0 : List Fl} {B : List Value} (hH : H0 lb = some (row (flat flc l0 ++ B) 126)) (hl0 : l0.length = n) (hn : 0 < n) (hn2 : n ≤ 65536) (hh : hand ≤ 65536) :
    HT prog 97 #[.slice (some ⟨lb, 0, none⟩) n c, .int .i64 hand] H0 (fun v H' => ∃ ob' cap' J, H0 ob' = none ∧ n ≤ cap' ∧ H' = H0.set ob' (row (flat flc (turnFrom n hand (2 * n) 0 l0).2 ++ J) 126) ∧
      v = match (turnFrom n hand (2 * n) 0 l0).1 with
        | some (vi, q) => .tuple #[.int .i64 vi, .int .i64 ((vi + 1) % n : Nat), .slice (some ⟨ob', 0, none⟩) n cap', .int .i64 q]
        | none => .tuple #[.int .i64 0, .int .i64 hand, .slice (some ⟨ob', 0, none⟩) n cap', .int .i64 0]) := by
 have hfl : (flat flc l0).length = n * 4 := by rw [flat_length (n := 4) _ (fun _ _ => rfl), hl0]
 refine ht_of_body (args := [.slice (some ⟨lb, 0, none⟩) n c, .int .i64 hand]) func97 rfl ?_
 simp only [ntmps97, List.length_cons, List.length_nil, Nat.reduceAdd, Nat.reduceSub, List.replicate_succ, List.replicate_zero, List.cons_append, List.nil_append]
 refine sR ?_
 refine oA ?_
 try simp only [nf, Nat.reduceAdd]
 refine oA ?_
 try simp only [nf, Nat.reduceAdd]
 refine oA ?_
 try simp only [nf, Nat.reduceAdd]
 refine oA ?_
 try simp only [nf, Nat.reduceAdd]
 refine hops_nil ?_
 try simp only [nf, Nat.reduceAdd]
 refine hc_scope ?_
 refine sR ?_
 refine oM ?_
 try simp only [nf, Nat.reduceAdd]
 refine hops_cons rfl (hop_call ?_)
 simp only [nf, Nat.reduceAdd]
 refine HT.mono (Clone_flags hH hfl one_flat hn2) ?_
 rintro _ _ ⟨b, cap, J, hb, hcap, hJ, rfl, rfl⟩
 try simp only [nf, Nat.reduceAdd]
 refine hops_cons rfl (hop_alloc rfl ?_)
 intro ob hob0
 obtain ⟨hobb, hob1⟩ := Hp.set_none.1 hob0
 have hbo : b ≠ ob := Ne.symm hobb
 refine hops_cons rfl (hop_store rfl rfl (by first | rfl | assumption) (by solve_by_elim [hS, hN, hT, hT']) (by first | assumption | omega | (simp; done) | (simp; omega) | (simp [frc] <;> omega)) ?_)
 try simp only [nf, Nat.reduceAdd]
 refine hops_nil ?_
 try simp only [nf, Nat.reduceAdd]
 refine sR ?_
 refine hops_cons rfl (hop_load rfl (by solve_by_elim [hS, hN, hT, hT']) (by first | rfl | assumption | exact mid_get0 rfl | exact mid_get rfl | (simp; done)) ?_)
 try simp only [nf, Nat.reduceAdd]
 refine hops_cons rfl (hop_lenS rfl ?_)
 try simp only [nf, Nat.reduceAdd]
 refine oA ?_
 try simp only [nf, Nat.reduceAdd]
 refine hops_nil ?_
 try simp only [nf, Nat.reduceAdd]
 refine sR ?_
 refine hops_cons rfl (hop_makeFunc ?_)
 try simp only [nf, Nat.reduceAdd]
 refine oA ?_
 try simp only [nf, Nat.reduceAdd]
 refine hops_nil ?_
 try simp only [nf, Nat.reduceAdd]
 refine sR ?_
 refine oA ?_
 try simp only [nf, Nat.reduceAdd]
 refine oA ?_
 try simp only [nf, Nat.reduceAdd]
 refine hops_nil ?_
 try simp only [nf, Nat.reduceAdd]
 refine hc_seq ?_
 refine hc_label ?_
 try simp only [nf, Nat.reduceAdd]
 refine hc_seq ?_
 refine sR ?_
 refine oM ?_
 try simp only [nf, Nat.reduceAdd]
 refine hops_cons rfl (hop_mul rfl rfl (by omega) ?_)
 try simp only [nf, Nat.reduceAdd]
 refine oM ?_
 try simp only [nf, Nat.reduceAdd]
 refine hops_nil ?_
 try simp only [nf, Nat.reduceAdd]
 refine hc_block ?_
 refine hc_loop (fun nn l H => ∃ (x13 : Value) (x14 : Value) (x23 : Value) (x24 : Value) (x25 : Value) (x26 : Value) (x27 : Value) (x28 : Value) (x29 : Value) (x30 : Value) (x31 : Value) (x32 : Value) (x33 : Value) (x34 : Value) (x35 : Value) (x36 : Value) (k : Nat) (lst : List Fl), l = [_, _, _, _, _, _, _, _, _, _, _, .int .i64 0, .int .i64 0, x13, x14, _, _, _, _, _, _, _, .int .i64 (k : Int), x23, x24, x25, x26, x27, x28, x29, x30, x31, x32, x33, x34, x35, x36, _, _, _, _, _, _, _, _, _, _, _] ∧ H = (H0.set ob (row [.slice (some ⟨b, 0, none⟩) n cap] 153)).set b (row (flat flc lst ++ J) 126) ∧ lst.length = n ∧ k ≤ 2 * n ∧ turnFrom n hand (2 * n - k) k lst = turnFrom n hand (2 * n) 0 l0 ∧ nn = 2 * n - k) (2 * n) ⟨_, _, _, _, _, _, _, _, _, _, _, _, _, _, _, _, 0, l0, rfl, by rw [Hp.set_comm _ _ _ hbo], hl0, by omega, rfl, rfl⟩ ?_
 rintro nn l H ⟨x13, x14, x23, x24, x25, x26, x27, x28, x29, x30, x31, x32, x33, x34, x35, x36, k, lst, rfl, rfl, hll, hk, htf, hnn⟩
 have hob : ob ≠ b := Ne.symm hbo
 refine sR ?_
 refine hops_cons rfl (hop_bin rfl rfl rfl ?_)
 try simp only [nf, Nat.reduceAdd]
 refine hops_nil ?_
 try simp only [nf, Nat.reduceAdd]
 refine hc_seq ?_
 refine hc_cond rfl (fun hc0 => ?_) (fun hc0 => ?_)
 ·
  try simp at hc0
  refine hc_skip ?_
  try simp only [nf, Nat.reduceAdd]
  refine hc_seq ?_
  refine hc_block ?_
  refine sR ?_
  refine oM ?_
  try simp only [nf, Nat.reduceAdd]
  refine oA ?_
  try simp only [nf, Nat.reduceAdd]
  refine hops_nil ?_
  try simp only [nf, Nat.reduceAdd]
  refine sR ?_
  refine oM ?_
  try simp only [nf, Nat.reduceAdd]
  refine oM ?_
  try simp only [nf, Nat.reduceAdd]
  refine hops_cons rfl (hop_add rfl rfl (by omega) ?_)
  try simp only [nf, Nat.reduceAdd]
  refine oM ?_
  try simp only [nf, Nat.reduceAdd]
  refine hops_cons rfl (hop_remN (a := hand + k) (b := n) rfl rfl hn ?_)
  try simp only [nf, Nat.reduceAdd]
  refine oA ?_
  try simp only [nf, Nat.reduceAdd]
  refine hops_nil ?_
  try simp only [nf, Nat.reduceAdd]
  refine sR ?_
  refine oM ?_
  try simp only [nf, Nat.reduceAdd]
  refine oM ?_
  try simp only [nf, Nat.reduceAdd]
  refine hops_cons rfl (hop_callv rfl ?_)
  simp only [nf, Nat.reduceAdd]
  obtain ⟨f, hf⟩ : ∃ f, lst[(hand + k) % n]? = some f := ⟨_, List.getElem?_eq_getElem (by rw [hll]; exact Nat.mod_lt _ hn)⟩
  have hmod : (hand + k) % n < n := Nat.mod_lt _ hn
  have hA : (flat flc (lst.take ((hand + k) % n))).length = (hand + k) % n * 4 := flat_take_length (c := flc) (n := 4) (l := lst) (fun _ => rfl) (by omega)
  have hrow : row (flat flc lst ++ J) 126 = row (flat flc (lst.take ((hand + k) % n)) ++ flc f ++ (flat flc (lst.drop ((hand + k) % n + 1)) ++ J)) 126 := by rw [flat_split hf]; simp
  rw [hrow]
  refine HT.mono (goes_all (ob := ob) (n := n) (c := cap) (Hp.get_there hob (Hp.set_same _ _ _)) (Hp.set_same _ _ _) hA (Nat.mod_lt _ hn)) ?_
  rintro _ _ ⟨rfl, rfl⟩
  refine hops_nil ?_
  try simp only [nf, Nat.reduceAdd]
  refine hc_cond rfl (fun hc1 => ?_) (fun hc1 => ?_)
  ·
   try simp at hc1
   refine sR ?_
   refine oM ?_
   try simp only [nf, Nat.reduceAdd]
   refine oM ?_
   try simp only [nf, Nat.reduceAdd]
   refine hops_cons rfl (hop_add rfl rfl (by omega) ?_)
   try simp only [nf, Nat.reduceAdd]
   refine oA ?_
   try simp only [nf, Nat.reduceAdd]
   refine oA ?_
   try simp only [nf, Nat.reduceAdd]
   refine hops_nil ?_
   try simp only [nf, Nat.reduceAdd]
   refine hc_exit ?_
   simp only [hng, hthen, hblock, if_true]
   try simp only [nf, Nat.reduceAdd]
   refine hc_seq ?_
   refine sR ?_
   refine oM ?_
   try simp only [nf, Nat.reduceAdd]
   refine hops_cons rfl (hop_bin rfl rfl rfl ?_)
   try simp only [nf, Nat.reduceAdd]
   refine hops_nil ?_
   try simp only [nf, Nat.reduceAdd]
   refine hc_F rfl (by first | rfl | assumption | (simp; done) | (simp; omega) | (simp [*]; done)) ?_
   refine hc_skip ?_
   try simp only [nf, Nat.reduceAdd]
   refine hc_seq ?_
   refine hc_draw0 follows (by intros; simp [hng, hthen, hblock, hend]) ?_
   refine dT 0 rfl (by decide +kernel) rfl (by first | exact Sub.refl _ | exact Sub.del _ _ | exact Sub.del_set _ _ _) (hop_move ?_)
   try simp only [nf, Nat.reduceAdd]
   refine dT 1 rfl (by decide +kernel) rfl (by first | exact Sub.refl _ | exact Sub.del _ _ | exact Sub.del_set _ _ _) (hop_move ?_)
   try simp only [nf, Nat.reduceAdd]
   refine dT 2 rfl (by decide +kernel) rfl (by first | exact Sub.refl _ | exact Sub.del _ _ | exact Sub.del_set _ _ _) (hop_add rfl rfl (by omega) ?_)
   try simp only [nf, Nat.reduceAdd]
   refine dT 3 rfl (by decide +kernel) rfl (by first | exact Sub.refl _ | exact Sub.del _ _ | exact Sub.del_set _ _ _) (hop_move ?_)
   try simp only [nf, Nat.reduceAdd]
   refine dT 4 rfl (by decide +kernel) rfl (by first | exact Sub.refl _ | exact Sub.del _ _ | exact Sub.del_set _ _ _) (hop_remN (a := (hand + k) % n + 1) (b := n) rfl rfl hn ?_)
   try simp only [nf, Nat.reduceAdd]
   refine dT 5 rfl (by decide +kernel) rfl (by first | exact Sub.refl _ | exact Sub.del _ _ | exact Sub.del_set _ _ _) (hop_load rfl (by solve_by_elim [hS, hN, hT, hT']) (by first | rfl | assumption | exact mid_get0 rfl | exact mid_get rfl | (simp; done)) ?_)
   try simp only [nf, Nat.reduceAdd]
   refine dT 6 rfl (by decide +kernel) rfl (by first | exact Sub.refl _ | exact Sub.del _ _ | exact Sub.del_set _ _ _) (hop_move ?_)
   try simp only [nf, Nat.reduceAdd]
   refine dT 7 rfl (by decide +kernel) rfl (by first | exact Sub.refl _ | exact Sub.del _ _ | exact Sub.del_set _ _ _) (hop_assign ?_)
   try simp only [nf, Nat.reduceAdd]
   refine dT 8 rfl (by decide +kernel) rfl (by first | exact Sub.refl _ | exact Sub.del _ _ | exact Sub.del_set _ _ _) (hop_assign ?_)
   try simp only [nf, Nat.reduceAdd]
   refine dT 9 rfl (by decide +kernel) rfl (by first | exact Sub.refl _ | exact Sub.del _ _ | exact Sub.del_set _ _ _) (hop_assign ?_)
   try simp only [nf, Nat.reduceAdd]
   refine dT 10 rfl (by decide +kernel) rfl (by first | exact Sub.refl _ | exact Sub.del _ _ | exact Sub.del_set _ _ _) (hop_assign ?_)
   try simp only [nf, Nat.reduceAdd]
   refine hD_done (by decide +kernel) ?_
   try simp only [nf, Nat.reduceAdd]
   refine hc_ret ?_
   try simp only [hng, hthen, hblock]
   have hres := htf
   rw [turn_step (by omega) hf, hc1] at hres
   refine hend_tmp4_sub (H' := H0.set b (row (flat flc (turnFrom n hand (2 * n) 0 l0).2 ++ J) 126)) rfl ?_ ?_
   · rw [← hres]; simp only [if_true, flat_set hf, List.append_assoc]; exact (Sub.set_new hob1).set _ _
   · rw [← hres]; exact ⟨b, cap, J, hb, hcap, rfl, rfl⟩
  ·
   try simp at hc1
   refine hc_skip ?_
   try simp only [nf, Nat.reduceAdd]
   refine hc_region ?_
   refine hops_cons rfl (hop_add rfl rfl (by omega) ?_)
   try simp only [nf, Nat.reduceAdd]
   refine oM ?_
   try simp only [nf, Nat.reduceAdd]
   refine hops_nil ?_
   try simp only [nf, Nat.reduceAdd]
   refine ⟨2 * n - (k + 1), _, by omega, Sub.refl _, _, _, _, _, _, _, _, _, _, _, _, _, _, _, _, _, k + 1, lst.set ((hand + k) % n) (goesF f).2, rfl, ?_⟩
   refine ⟨?_, by simpa using hll, by omega, ?_, rfl⟩
   · rw [flat_set hf]; simp only [List.append_assoc]
   · rw [← htf, turn_step (by omega) hf, hc1]; rfl
 ·
  try simp at hc0
  refine hc_exit ?_
  simp only [hng, hthen, hblock, if_true]
  try simp only [nf, Nat.reduceAdd]
  refine hc_seq ?_
  refine sR ?_
  refine oM ?_
  try simp only [nf, Nat.reduceAdd]
  refine hops_cons rfl (hop_bin rfl rfl rfl ?_)
  try simp only [nf, Nat.reduceAdd]
  refine hops_nil ?_
  try simp only [nf, Nat.reduceAdd]
  refine hc_T rfl (by first | rfl | assumption | (simp; done) | (simp; omega) | (simp [*]; done)) ?_
  refine hc_seq ?_
  refine hc_draw0 follows (by intros; simp [hng, hthen, hblock, hend]) ?_
  refine dT 0 rfl (by decide +kernel) rfl (by first | exact Sub.refl _ | exact Sub.del _ _ | exact Sub.del_set _ _ _) (hop_move ?_)
  try simp only [nf, Nat.reduceAdd]
  refine dT 1 rfl (by decide +kernel) rfl (by first | exact Sub.refl _ | exact Sub.del _ _ | exact Sub.del_set _ _ _) (hop_load rfl (by solve_by_elim [hS, hN, hT, hT']) (by first | rfl | assumption | exact mid_get0 rfl | exact mid_get rfl | (simp; done)) ?_)
  try simp only [nf, Nat.reduceAdd]
  refine dT 2 rfl (by decide +kernel) rfl (by first | exact Sub.refl _ | exact Sub.del _ _ | exact Sub.del_set _ _ _) (hop_assign ?_)
  try simp only [nf, Nat.reduceAdd]
  refine dT 3 rfl (by decide +kernel) rfl (by first | exact Sub.refl _ | exact Sub.del _ _ | exact Sub.del_set _ _ _) (hop_assign ?_)
  try simp only [nf, Nat.reduceAdd]
  refine dT 4 rfl (by decide +kernel) rfl (by first | exact Sub.refl _ | exact Sub.del _ _ | exact Sub.del_set _ _ _) (hop_assign ?_)
  try simp only [nf, Nat.reduceAdd]
  refine dT 5 rfl (by decide +kernel) rfl (by first | exact Sub.refl _ | exact Sub.del _ _ | exact Sub.del_set _ _ _) (hop_assign ?_)
  try simp only [nf, Nat.reduceAdd]
  refine hD_done (by decide +kernel) ?_
  try simp only [nf, Nat.reduceAdd]
  refine hc_ret ?_
  try simp only [hng, hthen, hblock]
  have hkk : k = 2 * n := by omega
  subst hkk
  rw [Nat.sub_self] at htf
  refine hend_tmp4_sub (H' := H0.set b (row (flat flc (turnFrom n hand (2 * n) 0 l0).2 ++ J) 126)) rfl ?_ ?_
  · rw [← htf]; exact (Sub.set_new hob1).set _ _
  · rw [← htf]; exact ⟨b, cap, J, hb, hcap, rfl, rfl⟩
/-- what Turn tells -/
def turnVal (n hand : Nat) (l0 : List Fl) (b cap : Nat) : Value := match (turnFrom n hand (2 * n) 0 l0).1 with
        | some (vi, _) => .tuple #[.int .i64 vi, .int .i64 ((vi + 1) % n : Nat), .slice (some ⟨b, 0, none⟩) n cap, .bool true]
        | none => .tuple #[.int .i64 0, .int .i64 hand, .slice (some ⟨b, 0, none⟩) n cap, .bool false]
theorem clock_Turn_yes {H0 : Hp} {lb n c hand : Nat} {l0 : List Fl} {B : List Value} (hH : H0 lb = some (row (flat flc l0 ++ B) 126)) (hl0 : l0.length = n) (hn : 0 < n) (hn2 : n ≤ 65536) (hh : hand ≤ 65536) {vi q : Nat} (hq : (turnFrom n hand (2 * n) 0 l0).1 = some (vi, q)) :
    HT prog 91 #[.slice (some ⟨lb, 0, none⟩) n c, .int .i64 hand] H0 (fun v H' => ∃ ob' cap' J, H0 ob' = none ∧ n ≤ cap' ∧ H' = H0.set ob' (row (flat flc (turnFrom n hand (2 * n) 0 l0).2 ++ J) 126) ∧ v = turnVal n hand l0 ob' cap') := by
 have hq0 := (turnFrom_lt hn _ _ _ _ _ hq).2.1
 refine ht_of_body (args := [.slice (some ⟨lb, 0, none⟩) n c, .int .i64 hand]) func91 rfl ?_
 simp only [ntmps91, List.length_cons, List.length_nil, Nat.reduceAdd, Nat.reduceSub, List.replicate_succ, List.replicate_zero, List.cons_append, List.nil_append]
 refine sR ?_
 refine oA ?_
 try simp only [nf, Nat.reduceAdd]
 refine oA ?_
 try simp only [nf, Nat.reduceAdd]
 refine oA ?_
 try simp only [nf, Nat.reduceAdd]
 refine oA ?_
 try simp only [nf, Nat.reduceAdd]
 refine hops_nil ?_
 try simp only [nf, Nat.reduceAdd]
 refine sR ?_
 refine oM ?_
 try simp only [nf, Nat.reduceAdd]
 refine oM ?_
 try simp only [nf, Nat.reduceAdd]
 refine hops_cons rfl (hop_call ?_)
 simp only [nf, Nat.reduceAdd]
 refine HT.mono (clock_turn hH hl0 hn hn2 hh) ?_
 rintro _ _ ⟨ob, cap, J, hob, hcap, rfl, hv⟩
 rw [hq] at hv; subst hv
 try simp only [nf, Nat.reduceAdd]
 refine oM ?_
 try simp only [nf, Nat.reduceAdd]
 refine hops_cons rfl (hop_extract rfl rfl ?_)
 try simp only [nf, Nat.reduceAdd]
 refine hops_cons rfl (hop_extract rfl rfl ?_)
 try simp only [nf, Nat.reduceAdd]
 refine hops_cons rfl (hop_extract rfl rfl ?_)
 try simp only [nf, Nat.reduceAdd]
 refine hops_cons rfl (hop_extract rfl rfl ?_)
 try simp only [nf, Nat.reduceAdd]
 refine oA ?_
 try simp only [nf, Nat.reduceAdd]
 refine oA ?_
 try simp only [nf, Nat.reduceAdd]
 refine oA ?_
 try simp only [nf, Nat.reduceAdd]
 refine oA ?_
 try simp only [nf, Nat.reduceAdd]
 refine hops_nil ?_
 try simp only [nf, Nat.reduceAdd]
 refine sR ?_
 refine oM ?_
 try simp only [nf, Nat.reduceAdd]
 refine oM ?_
 try simp only [nf, Nat.reduceAdd]
 refine oM ?_
 try simp only [nf, Nat.reduceAdd]
 refine oM ?_
 try simp only [nf, Nat.reduceAdd]
 refine hops_cons rfl (hop_bin rfl rfl rfl ?_)
 try simp only [nf, Nat.reduceAdd]
 refine oA ?_
 try simp only [nf, Nat.reduceAdd]
 refine oA ?_
 try simp only [nf, Nat.reduceAdd]
 refine oA ?_
 try simp only [nf, Nat.reduceAdd]
 refine oA ?_
 try simp only [nf, Nat.reduceAdd]
 refine hops_nil ?_
 try simp only [nf, Nat.reduceAdd]
 refine hc_ret ?_
 try simp only [hng, hthen, hblock]
 refine hend_tmp4 rfl ?_
 exact ⟨ob, cap, J, hob, hcap, rfl, by simp [turnVal, hq]; omega⟩
theorem clock_Turn_no {H0 : Hp} {lb n c hand : Nat} {l0 : List Fl} {B : List Value} (hH : H0 lb = some (row (flat flc l0 ++ B) 126)) (hl0 : l0.length = n) (hn : 0 < n) (hn2 : n ≤ 65536) (hh : hand ≤ 65536) (hq : (turnFrom n hand (2 * n) 0 l0).1 = none) :
    HT prog 91 #[.slice (some ⟨lb, 0, none⟩) n c, .int .i64 hand] H0 (fun v H' => ∃ ob' cap' J, H0 ob' = none ∧ n ≤ cap' ∧ H' = H0.set ob' (row (flat flc (turnFrom n hand (2 * n) 0 l0).2 ++ J) 126) ∧ v = turnVal n hand l0 ob' cap') := by
 refine ht_of_body (args := [.slice (some ⟨lb, 0, none⟩) n c, .int .i64 hand]) func91 rfl ?_
 simp only [ntmps91, List.length_cons, List.length_nil, Nat.reduceAdd, Nat.reduceSub, List.replicate_succ, List.replicate_zero, List.cons_append, List.nil_append]
 refine sR ?_
 refine oA ?_
 try simp only [nf, Nat.reduceAdd]
 refine oA ?_
 try simp only [nf, Nat.reduceAdd]
 refine oA ?_
 try simp only [nf, Nat.reduceAdd]
 refine oA ?_
 try simp only [nf, Nat.reduceAdd]
 refine hops_nil ?_
 try simp only [nf, Nat.reduceAdd]
 refine sR ?_
 refine oM ?_
 try simp only [nf, Nat.reduceAdd]
 refine oM ?_
 try simp only [nf, Nat.reduceAdd]
 refine hops_cons rfl (hop_call ?_)
 simp only [nf, Nat.reduceAdd]
 refine HT.mono (clock_turn hH hl0 hn hn2 hh) ?_
 rintro _ _ ⟨ob, cap, J, hob, hcap, rfl, hv⟩
 rw [hq] at hv; subst hv
 try simp only [nf, Nat.reduceAdd]
 refine oM ?_
 try simp only [nf, Nat.reduceAdd]
 refine hops_cons rfl (hop_extract rfl rfl ?_)
 try simp only [nf, Nat.reduceAdd]
 refine hops_cons rfl (hop_extract rfl rfl ?_)
 try simp only [nf, Nat.reduceAdd]
 refine hops_cons rfl (hop_extract rfl rfl ?_)
 try simp only [nf, Nat.reduceAdd]
 refine hops_cons rfl (hop_extract rfl rfl ?_)
 try simp only [nf, Nat.reduceAdd]
 refine oA ?_
 try simp only [nf, Nat.reduceAdd]
 refine oA ?_
 try simp only [nf, Nat.reduceAdd]
 refine oA ?_
 try simp only [nf, Nat.reduceAdd]
 refine oA ?_
 try simp only [nf, Nat.reduceAdd]
 refine hops_nil ?_
 try simp only [nf, Nat.reduceAdd]
 refine sR ?_
 refine oM ?_
 try simp only [nf, Nat.reduceAdd]
 refine oM ?_
 try simp only [nf, Nat.reduceAdd]
 refine oM ?_
 try simp only [nf, Nat.reduceAdd]
 refine oM ?_
 try simp only [nf, Nat.reduceAdd]
 refine hops_cons rfl (hop_bin rfl rfl rfl ?_)
 try simp only [nf, Nat.reduceAdd]
 refine oA ?_
 try simp only [nf, Nat.reduceAdd]
 refine oA ?_
 try simp only [nf, Nat.reduceAdd]
 refine oA ?_
 try simp only [nf, Nat.reduceAdd]
 refine oA ?_
 try simp only [nf, Nat.reduceAdd]
 refine hops_nil ?_
 try simp only [nf, Nat.reduceAdd]
 refine hc_ret ?_
 try simp only [hng, hthen, hblock]
 refine hend_tmp4 rfl ?_
 exact ⟨ob, cap, J, hob, hcap, rfl, by simp [turnVal, hq]⟩
theorem clock_Turn_all {H0 : Hp} {lb n c hand : Nat} {l0 : List Fl} {B : List Value} (hH : H0 lb = some (row (flat flc l0 ++ B) 126)) (hl0 : l0.length = n) (hn : 0 < n) (hn2 : n ≤ 65536) (hh : hand ≤ 65536)  :
    HT prog 91 #[.slice (some ⟨lb, 0, none⟩) n c, .int .i64 hand] H0 (fun v H' => ∃ ob' cap' J, H0 ob' = none ∧ n ≤ cap' ∧ H' = H0.set ob' (row (flat flc (turnFrom n hand (2 * n) 0 l0).2 ++ J) 126) ∧ v = turnVal n hand l0 ob' cap') := by
  cases hq : (turnFrom n hand (2 * n) 0 l0).1 with
  | none => exact clock_Turn_no hH hl0 hn hn2 hh hq
  | some p => exact clock_Turn_yes hH hl0 hn hn2 hh (vi := p.1) (q := p.2) hq
end Go.Proofs.Try
