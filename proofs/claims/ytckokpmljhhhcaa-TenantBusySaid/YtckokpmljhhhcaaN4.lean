/- A part of the proofs over the tenants of a page cache: lemmas on what is known of the memory, and contracts of the Go functions. -/
import Derived.Test.YtckokpmljhhhcaaN3
set_option linter.unusedVariables false
set_option linter.unusedSimpArgs false
namespace Go.Proofs.Try
open Go Go.H
set_option linter.unusedSimpArgs false
set_option linter.unusedVariables false
set_option maxRecDepth 100000
set_option maxHeartbeats 2000000
theorem ops_read_no {H : Hp} {m p : Nat} {op pg to : Int} {tv : Value} {s : Pt} (hm : H m = some (row [.pointer (some ⟨p, 0, none⟩), .int .i64 op, .int .i64 pg, tv, .int .i64 to, .slice none 0 0] 86)) (hP : PartH H p s) {bx : Nat} (hbx : H bx = some (row [.pointer (some ⟨m, 0, none⟩)] 57)) {rop rpg : Int} {off n : Nat} {da : Option Addr} {dn dc : Nat} (hfit : off + n ≤ 32) (he : (s.get rpg).1 ≠ 0) :
    HT prog 64 #[.agg #[.int .i64 rop, .int .i64 rpg, .int .i64 (off : Int), .int .i64 (n : Int), .slice da dn dc], .pointer (some ⟨bx, 0, none⟩)] H (fun v H' => v = .agg #[.bool true, .int .i64 0, .int .i64 (s.get rpg).1, .bool false, .int .i64 0, .slice none 0 0, .int .u64 0, .int .u64 0, .int .u64 0, .int .u64 0, .int .u64 0, .int .u64 0, .int .u64 0, .int .u64 0, .int .u64 0, .int .u64 0, .int .u64 0, .int .u64 0] ∧ PartH H' p (s.get rpg).2 ∧ PFr H H') := by
 have hmb := ne_row hm hbx (by decide)
 refine ht_of_body (args := [.agg #[.int .i64 rop, .int .i64 rpg, .int .i64 (off : Int), .int .i64 (n : Int), .slice da dn dc], .pointer (some ⟨bx, 0, none⟩)]) func64 rfl ?_
 simp only [ntmps64, List.length_cons, List.length_nil, Nat.reduceAdd, Nat.reduceSub, List.replicate_succ, List.replicate_zero, List.cons_append, List.nil_append]
 refine sR ?_
 refine hops_cons rfl (hop_box rfl rfl ?_)
 intro b1 hb1
 have hb1' := hb1
 try simp only [Hp.set_none, Hp.del_none] at hb1'
 have hb1_n : H b1 = none := by first | exact hb1' | exact hb1'.2 | exact hb1'.2.2 | exact hb1'.2.2.2 | exact hb1'.2.2.2.2 | exact hb1'.2.2.2.2.2 | exact hb1'.2.2.2.2.2.2
 have hb1_m : b1 ≠ m := (Hp.ne_of hm hb1_n).symm
 have hb1_bx : b1 ≠ bx := (Hp.ne_of hbx hb1_n).symm
 clear hb1'
 try simp only [nfa, Nat.reduceAdd]
 refine hops_cons rfl (hop_alloc (zl := [.bool false, .int .i64 0, .int .i64 0, .bool false, .int .i64 0, .slice none 0 0, .int .u64 0, .int .u64 0, .int .u64 0, .int .u64 0, .int .u64 0, .int .u64 0, .int .u64 0, .int .u64 0, .int .u64 0, .int .u64 0, .int .u64 0, .int .u64 0]) rfl ?_)
 intro b2 hb2
 have hb2' := hb2
 try simp only [Hp.set_none, Hp.del_none] at hb2'
 have hb2_n : H b2 = none := by first | exact hb2' | exact hb2'.2 | exact hb2'.2.2 | exact hb2'.2.2.2 | exact hb2'.2.2.2.2 | exact hb2'.2.2.2.2.2 | exact hb2'.2.2.2.2.2.2
 have hb2_b1 : b2 ≠ b1 := by first | exact hb2'.1 | exact hb2'.2.1 | exact hb2'.2.2.1 | exact hb2'.2.2.2.1 | exact hb2'.2.2.2.2.1 | exact hb2'.2.2.2.2.2.1
 have hb2_m : b2 ≠ m := (Hp.ne_of hm hb2_n).symm
 have hb2_bx : b2 ≠ bx := (Hp.ne_of hbx hb2_n).symm
 clear hb2'
 try simp only [nfa, Nat.reduceAdd]
 refine hops_nil ?_
 try simp only [nfa, Nat.reduceAdd]
 refine hc_seq ?_
 refine hc_drawP follows (by intros; simp [hng, hthen, hblock, hend]) ?_
 refine dT 0 rfl (by decide +kernel) rfl (by first | exact flt_sub _ | exact PFr.flt (by assumption) | exact Sub.trans (flt_sub _) (by first | ((repeat' first | assumption | exact Sub.refl _ | refine Sub.over ?_ ‹_› _); done) | (intro _ _ h; simp only [Hp.set] at h ⊢; grind))) (hop_load rfl (by refine hFl (by (repeat' first | assumption | exact hS | exact Hp.one_get _ _ | refine hT (by first | assumption | exact Ne.symm ‹_›) ?_)) ?_; exact npOf) (by first | rfl | assumption | exact mid_get0 rfl | exact mid_get rfl | (simp; done)) ?_)
 try simp only [nfa, Nat.reduceAdd]
 refine dT 1 rfl (by decide +kernel) rfl (by first | exact flt_sub _ | exact PFr.flt (by assumption) | exact Sub.trans (flt_sub _) (by first | ((repeat' first | assumption | exact Sub.refl _ | refine Sub.over ?_ ‹_› _); done) | (intro _ _ h; simp only [Hp.set] at h ⊢; grind))) (hop_nilCheck rfl ?_)
 try simp only [nfa, Nat.reduceAdd]
 refine dT 2 rfl (by decide +kernel) rfl (by first | exact flt_sub _ | exact PFr.flt (by assumption) | exact Sub.trans (flt_sub _) (by first | ((repeat' first | assumption | exact Sub.refl _ | refine Sub.over ?_ ‹_› _); done) | (intro _ _ h; simp only [Hp.set] at h ⊢; grind))) (hop_fieldAddr rfl ?_)
 try simp only [nfa, Nat.reduceAdd]
 refine dT 3 rfl (by decide +kernel) rfl (by first | exact flt_sub _ | exact PFr.flt (by assumption) | exact Sub.trans (flt_sub _) (by first | ((repeat' first | assumption | exact Sub.refl _ | refine Sub.over ?_ ‹_› _); done) | (intro _ _ h; simp only [Hp.set] at h ⊢; grind))) (hop_load rfl (by refine hFl (by (repeat' first | assumption | exact hS | exact Hp.one_get _ _ | refine hT (by first | assumption | exact Ne.symm ‹_›) ?_)) ?_; exact npOf) (by first | rfl | assumption | exact mid_get0 rfl | exact mid_get rfl | (simp; done)) ?_)
 try simp only [nfa, Nat.reduceAdd]
 refine dT 4 rfl (by decide +kernel) rfl (by first | exact flt_sub _ | exact PFr.flt (by assumption) | exact Sub.trans (flt_sub _) (by first | ((repeat' first | assumption | exact Sub.refl _ | refine Sub.over ?_ ‹_› _); done) | (intro _ _ h; simp only [Hp.set] at h ⊢; grind))) (hop_fieldAddr rfl ?_)
 try simp only [nfa, Nat.reduceAdd]
 refine dT 5 rfl (by decide +kernel) rfl (by first | exact flt_sub _ | exact PFr.flt (by assumption) | exact Sub.trans (flt_sub _) (by first | ((repeat' first | assumption | exact Sub.refl _ | refine Sub.over ?_ ‹_› _); done) | (intro _ _ h; simp only [Hp.set] at h ⊢; grind))) (hop_load rfl (by refine hFl (by (repeat' first | assumption | exact hS | exact Hp.one_get _ _ | refine hT (by first | assumption | exact Ne.symm ‹_›) ?_)) ?_; exact npOf) (by first | rfl | assumption | exact mid_get0 rfl | exact mid_get rfl | (simp; done)) ?_)
 try simp only [nfa, Nat.reduceAdd]
 refine dT 6 rfl (by decide +kernel) rfl (by first | exact flt_sub _ | exact PFr.flt (by assumption) | exact Sub.trans (flt_sub _) (by first | ((repeat' first | assumption | exact Sub.refl _ | refine Sub.over ?_ ‹_› _); done) | (intro _ _ h; simp only [Hp.set] at h ⊢; grind))) (hop_fieldAddr rfl ?_)
 try simp only [nfa, Nat.reduceAdd]
 refine dT 7 rfl (by decide +kernel) rfl (by first | exact flt_sub _ | exact PFr.flt (by assumption) | exact Sub.trans (flt_sub _) (by first | ((repeat' first | assumption | exact Sub.refl _ | refine Sub.over ?_ ‹_› _); done) | (intro _ _ h; simp only [Hp.set] at h ⊢; grind))) (hop_load rfl (by refine hFl (by (repeat' first | assumption | exact hS | exact Hp.one_get _ _ | refine hT (by first | assumption | exact Ne.symm ‹_›) ?_)) ?_; exact npOf) (by first | rfl | assumption | exact mid_get0 rfl | exact mid_get rfl | (simp; done)) ?_)
 try simp only [nfa, Nat.reduceAdd]
 refine dT 8 rfl (by decide +kernel) rfl (by first | exact flt_sub _ | exact PFr.flt (by assumption) | exact Sub.trans (flt_sub _) (by first | ((repeat' first | assumption | exact Sub.refl _ | refine Sub.over ?_ ‹_› _); done) | (intro _ _ h; simp only [Hp.set] at h ⊢; grind))) (hop_fieldAddr rfl ?_)
 try simp only [nfa, Nat.reduceAdd]
 refine dT 9 rfl (by decide +kernel) rfl (by first | exact flt_sub _ | exact PFr.flt (by assumption) | exact Sub.trans (flt_sub _) (by first | ((repeat' first | assumption | exact Sub.refl _ | refine Sub.over ?_ ‹_› _); done) | (intro _ _ h; simp only [Hp.set] at h ⊢; grind))) (hop_load rfl (by refine hFl (by (repeat' first | assumption | exact hS | exact Hp.one_get _ _ | refine hT (by first | assumption | exact Ne.symm ‹_›) ?_)) ?_; exact npOf) (by first | rfl | assumption | exact mid_get0 rfl | exact mid_get rfl | (simp; done)) ?_)
 try simp only [nfa, Nat.reduceAdd]
 refine hD_do 10 rfl (by decide +kernel) rfl (hop_call ?_)
 simp only [nfa, Nat.reduceAdd]
 refine HT.mono (ph_Get (s := s) (by (repeat' first | assumption | refine PartH.upd ?_ (by (repeat' first | assumption | exact hS | exact Hp.one_get _ _ | refine hT (by first | assumption | exact Ne.symm ‹_›) ?_)) (by exact npOf) | refine PartH.new ?_ (by assumption))) hfit) ?_
 rintro _ H1 ⟨dv, rfl, hdv, hP1, f1⟩
 obtain ⟨ga, gc, rfl⟩ := hdv.len
 try simp only [nf, nf2]
 have H1_b1 := f1.keep' (b := b1) (by (repeat' first | assumption | exact hS | exact Hp.one_get _ _ | refine hT (by first | assumption | exact Ne.symm ‹_›) ?_)) (by exact npOf)
 have H1_b2 := f1.keep' (b := b2) (by (repeat' first | assumption | exact hS | exact Hp.one_get _ _ | refine hT (by first | assumption | exact Ne.symm ‹_›) ?_)) (by exact npOf)
 have H1_m := f1.keep' (b := m) (by (repeat' first | assumption | exact hS | exact Hp.one_get _ _ | refine hT (by first | assumption | exact Ne.symm ‹_›) ?_)) (by exact npOf)
 have H1_bx := f1.keep' (b := bx) (by (repeat' first | assumption | exact hS | exact Hp.one_get _ _ | refine hT (by first | assumption | exact Ne.symm ‹_›) ?_)) (by exact npOf)
 refine ⟨.inr (by first | exact flt_sub _ | exact PFr.flt (by assumption) | exact Sub.trans (flt_sub _) (by first | ((repeat' first | assumption | exact Sub.refl _ | refine Sub.over ?_ ‹_› _); done) | (intro _ _ h; simp only [Hp.set] at h ⊢; grind))), ?_⟩
 try simp only [nfa, Nat.reduceAdd]
 refine dT 11 rfl (by decide +kernel) rfl (by first | exact flt_sub _ | exact PFr.flt (by assumption) | exact Sub.trans (flt_sub _) (by first | ((repeat' first | assumption | exact Sub.refl _ | refine Sub.over ?_ ‹_› _); done) | (intro _ _ h; simp only [Hp.set] at h ⊢; grind))) (hop_move ?_)
 try simp only [nfa, Nat.reduceAdd]
 refine dT 12 rfl (by decide +kernel) rfl (by first | exact flt_sub _ | exact PFr.flt (by assumption) | exact Sub.trans (flt_sub _) (by first | ((repeat' first | assumption | exact Sub.refl _ | refine Sub.over ?_ ‹_› _); done) | (intro _ _ h; simp only [Hp.set] at h ⊢; grind))) (hop_extract rfl rfl ?_)
 try simp only [nfa, Nat.reduceAdd]
 refine dT 13 rfl (by decide +kernel) rfl (by first | exact flt_sub _ | exact PFr.flt (by assumption) | exact Sub.trans (flt_sub _) (by first | ((repeat' first | assumption | exact Sub.refl _ | refine Sub.over ?_ ‹_› _); done) | (intro _ _ h; simp only [Hp.set] at h ⊢; grind))) (hop_extract rfl rfl ?_)
 try simp only [nfa, Nat.reduceAdd]
 refine dT 14 rfl (by decide +kernel) rfl (by first | exact flt_sub _ | exact PFr.flt (by assumption) | exact Sub.trans (flt_sub _) (by first | ((repeat' first | assumption | exact Sub.refl _ | refine Sub.over ?_ ‹_› _); done) | (intro _ _ h; simp only [Hp.set] at h ⊢; grind))) (hop_assign ?_)
 try simp only [nfa, Nat.reduceAdd]
 refine dT 15 rfl (by decide +kernel) rfl (by first | exact flt_sub _ | exact PFr.flt (by assumption) | exact Sub.trans (flt_sub _) (by first | ((repeat' first | assumption | exact Sub.refl _ | refine Sub.over ?_ ‹_› _); done) | (intro _ _ h; simp only [Hp.set] at h ⊢; grind))) (hop_assign ?_)
 try simp only [nfa, Nat.reduceAdd]
 refine hD_done (by decide +kernel) ?_
 try simp only [nfa, Nat.reduceAdd]
 refine sR ?_
 refine oM ?_
 refine oM ?_
 try simp only [nfa, Nat.reduceAdd]
 refine hops_cons rfl (hop_build (by simp only [fillL, wr, Value.cells, List.map_cons, List.map_nil, nf, nf2]; rfl) ?_)
 try simp only [nfa, Nat.reduceAdd]
 refine hops_cons rfl (hop_call ?_)
 simp only [nfa, Nat.reduceAdd]
 refine HT.mono (machine_counted_no he) ?_
 rintro _ _ ⟨rfl, rfl⟩
 try simp only [nfa, Nat.reduceAdd]
 refine hops_cons rfl (hop_storeA rfl rfl (by rfl) (by first | assumption | (repeat' first | (intro _ h; cases h; done) | refine List.forall_mem_cons.2 ⟨by first | rfl | assumption, ?_⟩) | (simp [Value.oneCell']; done) | (simp [Value.oneCell', *]; done)) (by (repeat' first | assumption | exact hS | exact Hp.one_get _ _ | refine hT (by first | assumption | exact Ne.symm ‹_›) ?_)) (by first | assumption | omega | (simp; done) | (simp; omega) | (simp [frc] <;> omega)) (by decide) ?_)
 try simp only [nfa, Nat.reduceAdd]
 refine hops_nil ?_
 try simp only [nfa, Nat.reduceAdd]
 refine hc_ret ?_
 try simp only [hng, hthen, hblock]
 apply hend_1 rfl ?es (RV.cellW rfl (by (repeat' first | assumption | exact hS | exact Hp.one_get _ _ | refine hT (by first | assumption | exact Ne.symm ‹_›) ?_)) (by simp)) ?eR
 case es => exact Sub.refl _
 case eR =>
  exact ⟨rfl, by (repeat' first | assumption | refine PartH.upd ?_ (by (repeat' first | assumption | exact hS | exact Hp.one_get _ _ | refine hT (by first | assumption | exact Ne.symm ‹_›) ?_)) (by exact npOf) | refine PartH.new ?_ (by assumption)), by (repeat' first | exact f1.of (by first | ((repeat' first | assumption | exact Sub.refl _ | refine Sub.over ?_ ‹_› _); done) | (intro _ _ h; simp only [Hp.set] at h ⊢; grind)) | refine PFr.upd ?_ (by assumption))⟩
theorem dOk.upd {H : Hp} {v : Value} {bs : List UInt8} {b : Nat} {o : Obj} (h : dOk H v bs) (hb : H b = none) : dOk (H.set b o) v bs := h.sub (Sub.set_new hb)
theorem ops_read_ok {H : Hp} {m p : Nat} {op pg to : Int} {tv : Value} {s : Pt} (hm : H m = some (row [.pointer (some ⟨p, 0, none⟩), .int .i64 op, .int .i64 pg, tv, .int .i64 to, .slice none 0 0] 86)) (hP : PartH H p s) {bx : Nat} (hbx : H bx = some (row [.pointer (some ⟨m, 0, none⟩)] 57)) {rop rpg : Int} {off n : Nat} {da : Option Addr} {dn dc : Nat} (hfit : off + n ≤ 32) (he : (s.get rpg).1 = 0) :
    HT prog 64 #[.agg #[.int .i64 rop, .int .i64 rpg, .int .i64 (off : Int), .int .i64 (n : Int), .slice da dn dc], .pointer (some ⟨bx, 0, none⟩)] H (fun v H' => ∃ dv, v = .agg #[.bool true, .int .i64 0, .int .i64 0, .bool false, .int .i64 0, dv, .int .u64 0, .int .u64 0, .int .u64 0, .int .u64 0, .int .u64 0, .int .u64 0, .int .u64 0, .int .u64 0, .int .u64 0, .int .u64 1, .int .u64 0, .int .u64 0] ∧ dOkU H' dv (s.bytes rpg off n) ∧ PartH H' p (s.get rpg).2 ∧ PFr H H') := by
 have hmb := ne_row hm hbx (by decide)
 refine ht_of_body (args := [.agg #[.int .i64 rop, .int .i64 rpg, .int .i64 (off : Int), .int .i64 (n : Int), .slice da dn dc], .pointer (some ⟨bx, 0, none⟩)]) func64 rfl ?_
 simp only [ntmps64, List.length_cons, List.length_nil, Nat.reduceAdd, Nat.reduceSub, List.replicate_succ, List.replicate_zero, List.cons_append, List.nil_append]
 refine sR ?_
 refine hops_cons rfl (hop_box rfl rfl ?_)
 intro b1 hb1
 have hb1' := hb1
 try simp only [Hp.set_none, Hp.del_none] at hb1'
 have hb1_n : H b1 = none := by first | exact hb1' | exact hb1'.2 | exact hb1'.2.2 | exact hb1'.2.2.2 | exact hb1'.2.2.2.2 | exact hb1'.2.2.2.2.2 | exact hb1'.2.2.2.2.2.2
 have hb1_m : b1 ≠ m := (Hp.ne_of hm hb1_n).symm
 have hb1_bx : b1 ≠ bx := (Hp.ne_of hbx hb1_n).symm
 clear hb1'
 try simp only [nfa, Nat.reduceAdd, he]
 refine hops_cons rfl (hop_alloc (zl := [.bool false, .int .i64 0, .int .i64 0, .bool false, .int .i64 0, .slice none 0 0, .int .u64 0, .int .u64 0, .int .u64 0, .int .u64 0, .int .u64 0, .int .u64 0, .int .u64 0, .int .u64 0, .int .u64 0, .int .u64 0, .int .u64 0, .int .u64 0]) rfl ?_)
 intro b2 hb2
 have hb2' := hb2
 try simp only [Hp.set_none, Hp.del_none] at hb2'
 have hb2_n : H b2 = none := by first | exact hb2' | exact hb2'.2 | exact hb2'.2.2 | exact hb2'.2.2.2 | exact hb2'.2.2.2.2 | exact hb2'.2.2.2.2.2 | exact hb2'.2.2.2.2.2.2
 have hb2_b1 : b2 ≠ b1 := by first | exact hb2'.1 | exact hb2'.2.1 | exact hb2'.2.2.1 | exact hb2'.2.2.2.1 | exact hb2'.2.2.2.2.1 | exact hb2'.2.2.2.2.2.1
 have hb2_m : b2 ≠ m := (Hp.ne_of hm hb2_n).symm
 have hb2_bx : b2 ≠ bx := (Hp.ne_of hbx hb2_n).symm
 clear hb2'
 try simp only [nfa, Nat.reduceAdd, he]
 refine hops_nil ?_
 try simp only [nfa, Nat.reduceAdd, he]
 refine hc_seq ?_
 refine hc_drawP follows (by intros; simp [hng, hthen, hblock, hend]) ?_
 refine dT 0 rfl (by decide +kernel) rfl (by first | exact flt_sub _ | exact PFr.flt (by assumption) | exact Sub.trans (flt_sub _) (by first | ((repeat' first | assumption | exact Sub.refl _ | refine Sub.over ?_ ‹_› _); done) | (intro _ _ h; simp only [Hp.set] at h ⊢; grind))) (hop_load rfl (by refine hFl (by (repeat' first | assumption | exact hS | exact Hp.one_get _ _ | refine hT (by first | assumption | exact Ne.symm ‹_›) ?_)) ?_; exact npOf) (by first | rfl | assumption | exact mid_get0 rfl | exact mid_get rfl | (simp; done)) ?_)
 try simp only [nfa, Nat.reduceAdd, he]
 refine dT 1 rfl (by decide +kernel) rfl (by first | exact flt_sub _ | exact PFr.flt (by assumption) | exact Sub.trans (flt_sub _) (by first | ((repeat' first | assumption | exact Sub.refl _ | refine Sub.over ?_ ‹_› _); done) | (intro _ _ h; simp only [Hp.set] at h ⊢; grind))) (hop_nilCheck rfl ?_)
 try simp only [nfa, Nat.reduceAdd, he]
 refine dT 2 rfl (by decide +kernel) rfl (by first | exact flt_sub _ | exact PFr.flt (by assumption) | exact Sub.trans (flt_sub _) (by first | ((repeat' first | assumption | exact Sub.refl _ | refine Sub.over ?_ ‹_› _); done) | (intro _ _ h; simp only [Hp.set] at h ⊢; grind))) (hop_fieldAddr rfl ?_)
 try simp only [nfa, Nat.reduceAdd, he]
 refine dT 3 rfl (by decide +kernel) rfl (by first | exact flt_sub _ | exact PFr.flt (by assumption) | exact Sub.trans (flt_sub _) (by first | ((repeat' first | assumption | exact Sub.refl _ | refine Sub.over ?_ ‹_› _); done) | (intro _ _ h; simp only [Hp.set] at h ⊢; grind))) (hop_load rfl (by refine hFl (by (repeat' first | assumption | exact hS | exact Hp.one_get _ _ | refine hT (by first | assumption | exact Ne.symm ‹_›) ?_)) ?_; exact npOf) (by first | rfl | assumption | exact mid_get0 rfl | exact mid_get rfl | (simp; done)) ?_)
 try simp only [nfa, Nat.reduceAdd, he]
 refine dT 4 rfl (by decide +kernel) rfl (by first | exact flt_sub _ | exact PFr.flt (by assumption) | exact Sub.trans (flt_sub _) (by first | ((repeat' first | assumption | exact Sub.refl _ | refine Sub.over ?_ ‹_› _); done) | (intro _ _ h; simp only [Hp.set] at h ⊢; grind))) (hop_fieldAddr rfl ?_)
 try simp only [nfa, Nat.reduceAdd, he]
 refine dT 5 rfl (by decide +kernel) rfl (by first | exact flt_sub _ | exact PFr.flt (by assumption) | exact Sub.trans (flt_sub _) (by first | ((repeat' first | assumption | exact Sub.refl _ | refine Sub.over ?_ ‹_› _); done) | (intro _ _ h; simp only [Hp.set] at h ⊢; grind))) (hop_load rfl (by refine hFl (by (repeat' first | assumption | exact hS | exact Hp.one_get _ _ | refine hT (by first | assumption | exact Ne.symm ‹_›) ?_)) ?_; exact npOf) (by first | rfl | assumption | exact mid_get0 rfl | exact mid_get rfl | (simp; done)) ?_)
 try simp only [nfa, Nat.reduceAdd, he]
 refine dT 6 rfl (by decide +kernel) rfl (by first | exact flt_sub _ | exact PFr.flt (by assumption) | exact Sub.trans (flt_sub _) (by first | ((repeat' first | assumption | exact Sub.refl _ | refine Sub.over ?_ ‹_› _); done) | (intro _ _ h; simp only [Hp.set] at h ⊢; grind))) (hop_fieldAddr rfl ?_)
 try simp only [nfa, Nat.reduceAdd, he]
 refine dT 7 rfl (by decide +kernel) rfl (by first | exact flt_sub _ | exact PFr.flt (by assumption) | exact Sub.trans (flt_sub _) (by first | ((repeat' first | assumption | exact Sub.refl _ | refine Sub.over ?_ ‹_› _); done) | (intro _ _ h; simp only [Hp.set] at h ⊢; grind))) (hop_load rfl (by refine hFl (by (repeat' first | assumption | exact hS | exact Hp.one_get _ _ | refine hT (by first | assumption | exact Ne.symm ‹_›) ?_)) ?_; exact npOf) (by first | rfl | assumption | exact mid_get0 rfl | exact mid_get rfl | (simp; done)) ?_)
 try simp only [nfa, Nat.reduceAdd, he]
 refine dT 8 rfl (by decide +kernel) rfl (by first | exact flt_sub _ | exact PFr.flt (by assumption) | exact Sub.trans (flt_sub _) (by first | ((repeat' first | assumption | exact Sub.refl _ | refine Sub.over ?_ ‹_› _); done) | (intro _ _ h; simp only [Hp.set] at h ⊢; grind))) (hop_fieldAddr rfl ?_)
 try simp only [nfa, Nat.reduceAdd, he]
 refine dT 9 rfl (by decide +kernel) rfl (by first | exact flt_sub _ | exact PFr.flt (by assumption) | exact Sub.trans (flt_sub _) (by first | ((repeat' first | assumption | exact Sub.refl _ | refine Sub.over ?_ ‹_› _); done) | (intro _ _ h; simp only [Hp.set] at h ⊢; grind))) (hop_load rfl (by refine hFl (by (repeat' first | assumption | exact hS | exact Hp.one_get _ _ | refine hT (by first | assumption | exact Ne.symm ‹_›) ?_)) ?_; exact npOf) (by first | rfl | assumption | exact mid_get0 rfl | exact mid_get rfl | (simp; done)) ?_)
 try simp only [nfa, Nat.reduceAdd, he]
 refine hD_do 10 rfl (by decide +kernel) rfl (hop_call ?_)
 simp only [nfa, Nat.reduceAdd, he]
 refine HT.mono (ph_Get (s := s) (by (repeat' first | assumption | refine PartH.upd ?_ (by (repeat' first | assumption | exact hS | exact Hp.one_get _ _ | refine hT (by first | assumption | exact Ne.symm ‹_›) ?_)) (by exact npOf) | refine PartH.new ?_ (by assumption))) hfit) ?_
 rintro _ H1 ⟨dv, rfl, hdv, hP1, f1⟩
 obtain ⟨ga, gc, rfl⟩ := hdv.len
 try simp only [nf, nf2]
 have H1_b1 := f1.keep' (b := b1) (by (repeat' first | assumption | exact hS | exact Hp.one_get _ _ | refine hT (by first | assumption | exact Ne.symm ‹_›) ?_)) (by exact npOf)
 have H1_b2 := f1.keep' (b := b2) (by (repeat' first | assumption | exact hS | exact Hp.one_get _ _ | refine hT (by first | assumption | exact Ne.symm ‹_›) ?_)) (by exact npOf)
 have H1_m := f1.keep' (b := m) (by (repeat' first | assumption | exact hS | exact Hp.one_get _ _ | refine hT (by first | assumption | exact Ne.symm ‹_›) ?_)) (by exact npOf)
 have H1_bx := f1.keep' (b := bx) (by (repeat' first | assumption | exact hS | exact Hp.one_get _ _ | refine hT (by first | assumption | exact Ne.symm ‹_›) ?_)) (by exact npOf)
 refine ⟨.inr (by first | exact flt_sub _ | exact PFr.flt (by assumption) | exact Sub.trans (flt_sub _) (by first | ((repeat' first | assumption | exact Sub.refl _ | refine Sub.over ?_ ‹_› _); done) | (intro _ _ h; simp only [Hp.set] at h ⊢; grind))), ?_⟩
 try simp only [nfa, Nat.reduceAdd, he]
 refine dT 11 rfl (by decide +kernel) rfl (by first | exact flt_sub _ | exact PFr.flt (by assumption) | exact Sub.trans (flt_sub _) (by first | ((repeat' first | assumption | exact Sub.refl _ | refine Sub.over ?_ ‹_› _); done) | (intro _ _ h; simp only [Hp.set] at h ⊢; grind))) (hop_move ?_)
 try simp only [nfa, Nat.reduceAdd, he]
 refine dT 12 rfl (by decide +kernel) rfl (by first | exact flt_sub _ | exact PFr.flt (by assumption) | exact Sub.trans (flt_sub _) (by first | ((repeat' first | assumption | exact Sub.refl _ | refine Sub.over ?_ ‹_› _); done) | (intro _ _ h; simp only [Hp.set] at h ⊢; grind))) (hop_extract rfl rfl ?_)
 try simp only [nfa, Nat.reduceAdd, he]
 refine dT 13 rfl (by decide +kernel) rfl (by first | exact flt_sub _ | exact PFr.flt (by assumption) | exact Sub.trans (flt_sub _) (by first | ((repeat' first | assumption | exact Sub.refl _ | refine Sub.over ?_ ‹_› _); done) | (intro _ _ h; simp only [Hp.set] at h ⊢; grind))) (hop_extract rfl rfl ?_)
 try simp only [nfa, Nat.reduceAdd, he]
 refine dT 14 rfl (by decide +kernel) rfl (by first | exact flt_sub _ | exact PFr.flt (by assumption) | exact Sub.trans (flt_sub _) (by first | ((repeat' first | assumption | exact Sub.refl _ | refine Sub.over ?_ ‹_› _); done) | (intro _ _ h; simp only [Hp.set] at h ⊢; grind))) (hop_assign ?_)
 try simp only [nfa, Nat.reduceAdd, he]
 refine dT 15 rfl (by decide +kernel) rfl (by first | exact flt_sub _ | exact PFr.flt (by assumption) | exact Sub.trans (flt_sub _) (by first | ((repeat' first | assumption | exact Sub.refl _ | refine Sub.over ?_ ‹_› _); done) | (intro _ _ h; simp only [Hp.set] at h ⊢; grind))) (hop_assign ?_)
 try simp only [nfa, Nat.reduceAdd, he]
 refine hD_done (by decide +kernel) ?_
 try simp only [nfa, Nat.reduceAdd, he]
 refine sR ?_
 refine oM ?_
 refine oM ?_
 try simp only [nfa, Nat.reduceAdd, he]
 refine hops_cons rfl (hop_build (by simp only [fillL, wr, Value.cells, List.map_cons, List.map_nil, nf, nf2]; rfl) ?_)
 try simp only [nfa, Nat.reduceAdd, he]
 refine hops_cons rfl (hop_call ?_)
 simp only [nfa, Nat.reduceAdd, he]
 refine HT.mono (machine_counted_ok ⟨_, _, _, rfl⟩) ?_
 rintro _ _ ⟨rfl, rfl⟩
 try simp only [nfa, Nat.reduceAdd, he]
 refine hops_cons rfl (hop_storeA rfl rfl (by rfl) (by first | assumption | (repeat' first | (intro _ h; cases h; done) | refine List.forall_mem_cons.2 ⟨by first | rfl | assumption, ?_⟩) | (simp [Value.oneCell']; done) | (simp [Value.oneCell', *]; done)) (by (repeat' first | assumption | exact hS | exact Hp.one_get _ _ | refine hT (by first | assumption | exact Ne.symm ‹_›) ?_)) (by first | assumption | omega | (simp; done) | (simp; omega) | (simp [frc] <;> omega)) (by decide) ?_)
 try simp only [nfa, Nat.reduceAdd, he]
 refine hops_nil ?_
 try simp only [nfa, Nat.reduceAdd, he]
 refine hc_ret ?_
 try simp only [hng, hthen, hblock]
 apply hend_1 rfl ?es (RV.cellW rfl (by (repeat' first | assumption | exact hS | exact Hp.one_get _ _ | refine hT (by first | assumption | exact Ne.symm ‹_›) ?_)) (by simp)) ?eR
 case es => exact Sub.refl _
 case eR =>
  exact ⟨_, rfl, by (repeat' first | exact hdv | refine rdS.upd ?_ (by (repeat' first | assumption | exact hS | exact Hp.one_get _ _ | refine hT (by first | assumption | exact Ne.symm ‹_›) ?_)) (by decide) | refine rdS.new ?_ (by assumption)), by (repeat' first | assumption | refine PartH.upd ?_ (by (repeat' first | assumption | exact hS | exact Hp.one_get _ _ | refine hT (by first | assumption | exact Ne.symm ‹_›) ?_)) (by exact npOf) | refine PartH.new ?_ (by assumption)), by (repeat' first | exact f1.of (by first | ((repeat' first | assumption | exact Sub.refl _ | refine Sub.over ?_ ‹_› _); done) | (intro _ _ h; simp only [Hp.set] at h ⊢; grind)) | refine PFr.upd ?_ (by assumption))⟩
theorem ops_write_no {H : Hp} {m p : Nat} {op pg to : Int} {tv : Value} {s : Pt} (hm : H m = some (row [.pointer (some ⟨p, 0, none⟩), .int .i64 op, .int .i64 pg, tv, .int .i64 to, .slice none 0 0] 86)) (hP : PartH H p s) {bx : Nat} (hbx : H bx = some (row [.pointer (some ⟨m, 0, none⟩)] 57)) {rop rpg rlen : Int} {off : Nat} {da : Option Addr} {dc : Nat} {bs : List UInt8} (hd : dOkU H (.slice da bs.length dc) bs) (hfit : off + bs.length ≤ 32) (he : (s.put rpg off bs).1 ≠ 0) :
    HT prog 67 #[.agg #[.int .i64 rop, .int .i64 rpg, .int .i64 (off : Int), .int .i64 rlen, .slice da bs.length dc], .pointer (some ⟨bx, 0, none⟩)] H (fun v H' => v = .agg #[.bool true, .int .i64 0, .int .i64 (s.put rpg off bs).1, .bool false, .int .i64 0, .slice none 0 0, .int .u64 0, .int .u64 0, .int .u64 0, .int .u64 0, .int .u64 0, .int .u64 0, .int .u64 0, .int .u64 0, .int .u64 0, .int .u64 0, .int .u64 0, .int .u64 0] ∧ PartH H' p (s.put rpg off bs).2 ∧ PFr H H') := by
 have hmb := ne_row hm hbx (by decide)
 refine ht_of_body (args := [.agg #[.int .i64 rop, .int .i64 rpg, .int .i64 (off : Int), .int .i64 rlen, .slice da bs.length dc], .pointer (some ⟨bx, 0, none⟩)]) func67 rfl ?_
 simp only [ntmps67, List.length_cons, List.length_nil, Nat.reduceAdd, Nat.reduceSub, List.replicate_succ, List.replicate_zero, List.cons_append, List.nil_append]
 refine sR ?_
 refine hops_cons rfl (hop_box rfl rfl ?_)
 intro b1 hb1
 have hb1' := hb1
 try simp only [Hp.set_none, Hp.del_none] at hb1'
 have hb1_n : H b1 = none := by first | exact hb1' | exact hb1'.2 | exact hb1'.2.2 | exact hb1'.2.2.2 | exact hb1'.2.2.2.2 | exact hb1'.2.2.2.2.2 | exact hb1'.2.2.2.2.2.2
 have hb1_m : b1 ≠ m := (Hp.ne_of hm hb1_n).symm
 have hb1_bx : b1 ≠ bx := (Hp.ne_of hbx hb1_n).symm
 clear hb1'
 try simp only [nfa, Nat.reduceAdd]
 refine hops_cons rfl (hop_alloc (zl := [.bool false, .int .i64 0, .int .i64 0, .bool false, .int .i64 0, .slice none 0 0, .int .u64 0, .int .u64 0, .int .u64 0, .int .u64 0, .int .u64 0, .int .u64 0, .int .u64 0, .int .u64 0, .int .u64 0, .int .u64 0, .int .u64 0, .int .u64 0]) rfl ?_)
 intro b2 hb2
 have hb2' := hb2
 try simp only [Hp.set_none, Hp.del_none] at hb2'
 have hb2_n : H b2 = none := by first | exact hb2' | exact hb2'.2 | exact hb2'.2.2 | exact hb2'.2.2.2 | exact hb2'.2.2.2.2 | exact hb2'.2.2.2.2.2 | exact hb2'.2.2.2.2.2.2
 have hb2_b1 : b2 ≠ b1 := by first | exact hb2'.1 | exact hb2'.2.1 | exact hb2'.2.2.1 | exact hb2'.2.2.2.1 | exact hb2'.2.2.2.2.1 | exact hb2'.2.2.2.2.2.1
 have hb2_m : b2 ≠ m := (Hp.ne_of hm hb2_n).symm
 have hb2_bx : b2 ≠ bx := (Hp.ne_of hbx hb2_n).symm
 clear hb2'
 try simp only [nfa, Nat.reduceAdd]
 refine hops_nil ?_
 try simp only [nfa, Nat.reduceAdd]
 refine hc_seq ?_
 refine hc_drawP follows (by intros; simp [hng, hthen, hblock, hend]) ?_
 refine dT 0 rfl (by decide +kernel) rfl (by first | exact flt_sub _ | exact PFr.flt (by assumption) | exact Sub.trans (flt_sub _) (by first | ((repeat' first | assumption | exact Sub.refl _ | refine Sub.over ?_ ‹_› _); done) | (intro _ _ h; simp only [Hp.set] at h ⊢; grind))) (hop_load rfl (by refine hFl (by (repeat' first | assumption | exact hS | exact Hp.one_get _ _ | refine hT (by first | assumption | exact Ne.symm ‹_›) ?_)) ?_; exact npOf) (by first | rfl | assumption | exact mid_get0 rfl | exact mid_get rfl | (simp; done)) ?_)
 try simp only [nfa, Nat.reduceAdd]
 refine dT 1 rfl (by decide +kernel) rfl (by first | exact flt_sub _ | exact PFr.flt (by assumption) | exact Sub.trans (flt_sub _) (by first | ((repeat' first | assumption | exact Sub.refl _ | refine Sub.over ?_ ‹_› _); done) | (intro _ _ h; simp only [Hp.set] at h ⊢; grind))) (hop_nilCheck rfl ?_)
 try simp only [nfa, Nat.reduceAdd]
 refine dT 2 rfl (by decide +kernel) rfl (by first | exact flt_sub _ | exact PFr.flt (by assumption) | exact Sub.trans (flt_sub _) (by first | ((repeat' first | assumption | exact Sub.refl _ | refine Sub.over ?_ ‹_› _); done) | (intro _ _ h; simp only [Hp.set] at h ⊢; grind))) (hop_fieldAddr rfl ?_)
 try simp only [nfa, Nat.reduceAdd]
 refine dT 3 rfl (by decide +kernel) rfl (by first | exact flt_sub _ | exact PFr.flt (by assumption) | exact Sub.trans (flt_sub _) (by first | ((repeat' first | assumption | exact Sub.refl _ | refine Sub.over ?_ ‹_› _); done) | (intro _ _ h; simp only [Hp.set] at h ⊢; grind))) (hop_load rfl (by refine hFl (by (repeat' first | assumption | exact hS | exact Hp.one_get _ _ | refine hT (by first | assumption | exact Ne.symm ‹_›) ?_)) ?_; exact npOf) (by first | rfl | assumption | exact mid_get0 rfl | exact mid_get rfl | (simp; done)) ?_)
 try simp only [nfa, Nat.reduceAdd]
 refine dT 4 rfl (by decide +kernel) rfl (by first | exact flt_sub _ | exact PFr.flt (by assumption) | exact Sub.trans (flt_sub _) (by first | ((repeat' first | assumption | exact Sub.refl _ | refine Sub.over ?_ ‹_› _); done) | (intro _ _ h; simp only [Hp.set] at h ⊢; grind))) (hop_fieldAddr rfl ?_)
 try simp only [nfa, Nat.reduceAdd]
 refine dT 5 rfl (by decide +kernel) rfl (by first | exact flt_sub _ | exact PFr.flt (by assumption) | exact Sub.trans (flt_sub _) (by first | ((repeat' first | assumption | exact Sub.refl _ | refine Sub.over ?_ ‹_› _); done) | (intro _ _ h; simp only [Hp.set] at h ⊢; grind))) (hop_load rfl (by refine hFl (by (repeat' first | assumption | exact hS | exact Hp.one_get _ _ | refine hT (by first | assumption | exact Ne.symm ‹_›) ?_)) ?_; exact npOf) (by first | rfl | assumption | exact mid_get0 rfl | exact mid_get rfl | (simp; done)) ?_)
 try simp only [nfa, Nat.reduceAdd]
 refine dT 6 rfl (by decide +kernel) rfl (by first | exact flt_sub _ | exact PFr.flt (by assumption) | exact Sub.trans (flt_sub _) (by first | ((repeat' first | assumption | exact Sub.refl _ | refine Sub.over ?_ ‹_› _); done) | (intro _ _ h; simp only [Hp.set] at h ⊢; grind))) (hop_fieldAddr rfl ?_)
 try simp only [nfa, Nat.reduceAdd]
 refine dT 7 rfl (by decide +kernel) rfl (by first | exact flt_sub _ | exact PFr.flt (by assumption) | exact Sub.trans (flt_sub _) (by first | ((repeat' first | assumption | exact Sub.refl _ | refine Sub.over ?_ ‹_› _); done) | (intro _ _ h; simp only [Hp.set] at h ⊢; grind))) (hop_load rfl (by refine hFl (by (repeat' first | assumption | exact hS | exact Hp.one_get _ _ | refine hT (by first | assumption | exact Ne.symm ‹_›) ?_)) ?_; exact npOf) (by first | rfl | assumption | exact mid_get0 rfl | exact mid_get rfl | (simp; done)) ?_)
 try simp only [nfa, Nat.reduceAdd]
 refine dT 8 rfl (by decide +kernel) rfl (by first | exact flt_sub _ | exact PFr.flt (by assumption) | exact Sub.trans (flt_sub _) (by first | ((repeat' first | assumption | exact Sub.refl _ | refine Sub.over ?_ ‹_› _); done) | (intro _ _ h; simp only [Hp.set] at h ⊢; grind))) (hop_fieldAddr rfl ?_)
 try simp only [nfa, Nat.reduceAdd]
 refine dT 9 rfl (by decide +kernel) rfl (by first | exact flt_sub _ | exact PFr.flt (by assumption) | exact Sub.trans (flt_sub _) (by first | ((repeat' first | assumption | exact Sub.refl _ | refine Sub.over ?_ ‹_› _); done) | (intro _ _ h; simp only [Hp.set] at h ⊢; grind))) (hop_load rfl (by refine hFl (by (repeat' first | assumption | exact hS | exact Hp.one_get _ _ | refine hT (by first | assumption | exact Ne.symm ‹_›) ?_)) ?_; exact npOf) (by first | rfl | assumption | exact mid_get0 rfl | exact mid_get rfl | (simp; done)) ?_)
 try simp only [nfa, Nat.reduceAdd]
 refine dT 11 rfl (by decide +kernel) rfl (by first | exact flt_sub _ | exact PFr.flt (by assumption) | exact Sub.trans (flt_sub _) (by first | ((repeat' first | assumption | exact Sub.refl _ | refine Sub.over ?_ ‹_› _); done) | (intro _ _ h; simp only [Hp.set] at h ⊢; grind))) (hop_build (by simp only [fillL, wr, Value.cells, List.map_cons, List.map_nil, nf, nf2]; rfl) ?_)
 try simp only [nfa, Nat.reduceAdd]
 refine hD_do 10 rfl (by decide +kernel) rfl (hop_call ?_)
 simp only [nfa, Nat.reduceAdd]
 refine HT.mono (ph_Put (s := s) (by (repeat' first | assumption | refine PartH.upd ?_ (by (repeat' first | assumption | exact hS | exact Hp.one_get _ _ | refine hT (by first | assumption | exact Ne.symm ‹_›) ?_)) (by exact npOf) | refine PartH.new ?_ (by assumption))) (dOkU.d (by (repeat' first | exact hd | refine rdS.upd ?_ (by (repeat' first | assumption | exact hS | exact Hp.one_get _ _ | refine hT (by first | assumption | exact Ne.symm ‹_›) ?_)) (by decide) | refine rdS.new ?_ (by assumption)))) hfit) ?_
 rintro _ H1 ⟨rfl, hP1, f1⟩
 try simp only [nf, nf2]
 have H1_b1 := f1.keep' (b := b1) (by (repeat' first | assumption | exact hS | exact Hp.one_get _ _ | refine hT (by first | assumption | exact Ne.symm ‹_›) ?_)) (by exact npOf)
 have H1_b2 := f1.keep' (b := b2) (by (repeat' first | assumption | exact hS | exact Hp.one_get _ _ | refine hT (by first | assumption | exact Ne.symm ‹_›) ?_)) (by exact npOf)
 have H1_m := f1.keep' (b := m) (by (repeat' first | assumption | exact hS | exact Hp.one_get _ _ | refine hT (by first | assumption | exact Ne.symm ‹_›) ?_)) (by exact npOf)
 have H1_bx := f1.keep' (b := bx) (by (repeat' first | assumption | exact hS | exact Hp.one_get _ _ | refine hT (by first | assumption | exact Ne.symm ‹_›) ?_)) (by exact npOf)
 refine ⟨.inr (by first | exact flt_sub _ | exact PFr.flt (by assumption) | exact Sub.trans (flt_sub _) (by first | ((repeat' first | assumption | exact Sub.refl _ | refine Sub.over ?_ ‹_› _); done) | (intro _ _ h; simp only [Hp.set] at h ⊢; grind))), ?_⟩
 try simp only [nfa, Nat.reduceAdd]
 refine hD_do 12 rfl (by decide +kernel) rfl (hop_call ?_)
 simp only [nfa, Nat.reduceAdd]
 refine HT.mono (machine_counted_no he) ?_
 rintro _ _ ⟨rfl, rfl⟩
 try simp only [nfa, Nat.reduceAdd]
 refine ⟨.inr (by first | exact flt_sub _ | exact PFr.flt (by assumption) | exact Sub.trans (flt_sub _) (by first | ((repeat' first | assumption | exact Sub.refl _ | refine Sub.over ?_ ‹_› _); done) | (intro _ _ h; simp only [Hp.set] at h ⊢; grind))), ?_⟩
 try simp only [nfa, Nat.reduceAdd]
 refine hD_do 13 rfl (by decide +kernel) rfl (hop_storeA rfl rfl (by rfl) (by first | assumption | (repeat' first | (intro _ h; cases h; done) | refine List.forall_mem_cons.2 ⟨by first | rfl | assumption, ?_⟩) | (simp [Value.oneCell']; done) | (simp [Value.oneCell', *]; done)) (by (repeat' first | assumption | exact hS | exact Hp.one_get _ _ | refine hT (by first | assumption | exact Ne.symm ‹_›) ?_)) (by first | assumption | omega | (simp; done) | (simp; omega) | (simp [frc] <;> omega)) (by decide) ?_)
 try simp only [nfa, Nat.reduceAdd]
 refine ⟨.inl (by decide +kernel), ?_⟩
 try simp only [nfa, Nat.reduceAdd]
 refine hD_done (by decide +kernel) ?_
 try simp only [nfa, Nat.reduceAdd]
 refine hc_ret ?_
 try simp only [hng, hthen, hblock]
 apply hend_1 rfl ?es (RV.cellW rfl (by (repeat' first | assumption | exact hS | exact Hp.one_get _ _ | refine hT (by first | assumption | exact Ne.symm ‹_›) ?_)) (by simp)) ?eR
 case es => exact Sub.refl _
 case eR =>
  exact ⟨rfl, by (repeat' first | assumption | refine PartH.upd ?_ (by (repeat' first | assumption | exact hS | exact Hp.one_get _ _ | refine hT (by first | assumption | exact Ne.symm ‹_›) ?_)) (by exact npOf) | refine PartH.new ?_ (by assumption)), by (repeat' first | exact f1.of (by first | ((repeat' first | assumption | exact Sub.refl _ | refine Sub.over ?_ ‹_› _); done) | (intro _ _ h; simp only [Hp.set] at h ⊢; grind)) | refine PFr.upd ?_ (by assumption))⟩
theorem ops_write_ok {H : Hp} {m p : Nat} {op pg to : Int} {tv : Value} {s : Pt} (hm : H m = some (row [.pointer (some ⟨p, 0, none⟩), .int .i64 op, .int .i64 pg, tv, .int .i64 to, .slice none 0 0] 86)) (hP : PartH H p s) {bx : Nat} (hbx : H bx = some (row [.pointer (some ⟨m, 0, none⟩)] 57)) {rop rpg rlen : Int} {off : Nat} {da : Option Addr} {dc : Nat} {bs : List UInt8} (hd : dOkU H (.slice da bs.length dc) bs) (hfit : off + bs.length ≤ 32) (he : (s.put rpg off bs).1 = 0) :
    HT prog 67 #[.agg #[.int .i64 rop, .int .i64 rpg, .int .i64 (off : Int), .int .i64 rlen, .slice da bs.length dc], .pointer (some ⟨bx, 0, none⟩)] H (fun v H' => v = .agg #[.bool true, .int .i64 0, .int .i64 0, .bool false, .int .i64 0, .slice none 0 0, .int .u64 0, .int .u64 0, .int .u64 0, .int .u64 0, .int .u64 0, .int .u64 0, .int .u64 0, .int .u64 0, .int .u64 0, .int .u64 0, .int .u64 1, .int .u64 0] ∧ PartH H' p (s.put rpg off bs).2 ∧ PFr H H') := by
 have hmb := ne_row hm hbx (by decide)
 refine ht_of_body (args := [.agg #[.int .i64 rop, .int .i64 rpg, .int .i64 (off : Int), .int .i64 rlen, .slice da bs.length dc], .pointer (some ⟨bx, 0, none⟩)]) func67 rfl ?_
 simp only [ntmps67, List.length_cons, List.length_nil, Nat.reduceAdd, Nat.reduceSub, List.replicate_succ, List.replicate_zero, List.cons_append, List.nil_append]
 refine sR ?_
 refine hops_cons rfl (hop_box rfl rfl ?_)
 intro b1 hb1
 have hb1' := hb1
 try simp only [Hp.set_none, Hp.del_none] at hb1'
 have hb1_n : H b1 = none := by first | exact hb1' | exact hb1'.2 | exact hb1'.2.2 | exact hb1'.2.2.2 | exact hb1'.2.2.2.2 | exact hb1'.2.2.2.2.2 | exact hb1'.2.2.2.2.2.2
 have hb1_m : b1 ≠ m := (Hp.ne_of hm hb1_n).symm
 have hb1_bx : b1 ≠ bx := (Hp.ne_of hbx hb1_n).symm
 clear hb1'
 try simp only [nfa, Nat.reduceAdd, he]
 refine hops_cons rfl (hop_alloc (zl := [.bool false, .int .i64 0, .int .i64 0, .bool false, .int .i64 0, .slice none 0 0, .int .u64 0, .int .u64 0, .int .u64 0, .int .u64 0, .int .u64 0, .int .u64 0, .int .u64 0, .int .u64 0, .int .u64 0, .int .u64 0, .int .u64 0, .int .u64 0]) rfl ?_)
 intro b2 hb2
 have hb2' := hb2
 try simp only [Hp.set_none, Hp.del_none] at hb2'
 have hb2_n : H b2 = none := by first | exact hb2' | exact hb2'.2 | exact hb2'.2.2 | exact hb2'.2.2.2 | exact hb2'.2.2.2.2 | exact hb2'.2.2.2.2.2 | exact hb2'.2.2.2.2.2.2
 have hb2_b1 : b2 ≠ b1 := by first | exact hb2'.1 | exact hb2'.2.1 | exact hb2'.2.2.1 | exact hb2'.2.2.2.1 | exact hb2'.2.2.2.2.1 | exact hb2'.2.2.2.2.2.1
 have hb2_m : b2 ≠ m := (Hp.ne_of hm hb2_n).symm
 have hb2_bx : b2 ≠ bx := (Hp.ne_of hbx hb2_n).symm
 clear hb2'
 try simp only [nfa, Nat.reduceAdd, he]
 refine hops_nil ?_
 try simp only [nfa, Nat.reduceAdd, he]
 refine hc_seq ?_
 refine hc_drawP follows (by intros; simp [hng, hthen, hblock, hend]) ?_
 refine dT 0 rfl (by decide +kernel) rfl (by first | exact flt_sub _ | exact PFr.flt (by assumption) | exact Sub.trans (flt_sub _) (by first | ((repeat' first | assumption | exact Sub.refl _ | refine Sub.over ?_ ‹_› _); done) | (intro _ _ h; simp only [Hp.set] at h ⊢; grind))) (hop_load rfl (by refine hFl (by (repeat' first | assumption | exact hS | exact Hp.one_get _ _ | refine hT (by first | assumption | exact Ne.symm ‹_›) ?_)) ?_; exact npOf) (by first | rfl | assumption | exact mid_get0 rfl | exact mid_get rfl | (simp; done)) ?_)
 try simp only [nfa, Nat.reduceAdd, he]
 refine dT 1 rfl (by decide +kernel) rfl (by first | exact flt_sub _ | exact PFr.flt (by assumption) | exact Sub.trans (flt_sub _) (by first | ((repeat' first | assumption | exact Sub.refl _ | refine Sub.over ?_ ‹_› _); done) | (intro _ _ h; simp only [Hp.set] at h ⊢; grind))) (hop_nilCheck rfl ?_)
 try simp only [nfa, Nat.reduceAdd, he]
 refine dT 2 rfl (by decide +kernel) rfl (by first | exact flt_sub _ | exact PFr.flt (by assumption) | exact Sub.trans (flt_sub _) (by first | ((repeat' first | assumption | exact Sub.refl _ | refine Sub.over ?_ ‹_› _); done) | (intro _ _ h; simp only [Hp.set] at h ⊢; grind))) (hop_fieldAddr rfl ?_)
 try simp only [nfa, Nat.reduceAdd, he]
 refine dT 3 rfl (by decide +kernel) rfl (by first | exact flt_sub _ | exact PFr.flt (by assumption) | exact Sub.trans (flt_sub _) (by first | ((repeat' first | assumption | exact Sub.refl _ | refine Sub.over ?_ ‹_› _); done) | (intro _ _ h; simp only [Hp.set] at h ⊢; grind))) (hop_load rfl (by refine hFl (by (repeat' first | assumption | exact hS | exact Hp.one_get _ _ | refine hT (by first | assumption | exact Ne.symm ‹_›) ?_)) ?_; exact npOf) (by first | rfl | assumption | exact mid_get0 rfl | exact mid_get rfl | (simp; done)) ?_)
 try simp only [nfa, Nat.reduceAdd, he]
 refine dT 4 rfl (by decide +kernel) rfl (by first | exact flt_sub _ | exact PFr.flt (by assumption) | exact Sub.trans (flt_sub _) (by first | ((repeat' first | assumption | exact Sub.refl _ | refine Sub.over ?_ ‹_› _); done) | (intro _ _ h; simp only [Hp.set] at h ⊢; grind))) (hop_fieldAddr rfl ?_)
 try simp only [nfa, Nat.reduceAdd, he]
 refine dT 5 rfl (by decide +kernel) rfl (by first | exact flt_sub _ | exact PFr.flt (by assumption) | exact Sub.trans (flt_sub _) (by first | ((repeat' first | assumption | exact Sub.refl _ | refine Sub.over ?_ ‹_› _); done) | (intro _ _ h; simp only [Hp.set] at h ⊢; grind))) (hop_load rfl (by refine hFl (by (repeat' first | assumption | exact hS | exact Hp.one_get _ _ | refine hT (by first | assumption | exact Ne.symm ‹_›) ?_)) ?_; exact npOf) (by first | rfl | assumption | exact mid_get0 rfl | exact mid_get rfl | (simp; done)) ?_)
 try simp only [nfa, Nat.reduceAdd, he]
 refine dT 6 rfl (by decide +kernel) rfl (by first | exact flt_sub _ | exact PFr.flt (by assumption) | exact Sub.trans (flt_sub _) (by first | ((repeat' first | assumption | exact Sub.refl _ | refine Sub.over ?_ ‹_› _); done) | (intro _ _ h; simp only [Hp.set] at h ⊢; grind))) (hop_fieldAddr rfl ?_)
 try simp only [nfa, Nat.reduceAdd, he]
 refine dT 7 rfl (by decide +kernel) rfl (by first | exact flt_sub _ | exact PFr.flt (by assumption) | exact Sub.trans (flt_sub _) (by first | ((repeat' first | assumption | exact Sub.refl _ | refine Sub.over ?_ ‹_› _); done) | (intro _ _ h; simp only [Hp.set] at h ⊢; grind))) (hop_load rfl (by refine hFl (by (repeat' first | assumption | exact hS | exact Hp.one_get _ _ | refine hT (by first | assumption | exact Ne.symm ‹_›) ?_)) ?_; exact npOf) (by first | rfl | assumption | exact mid_get0 rfl | exact mid_get rfl | (simp; done)) ?_)
 try simp only [nfa, Nat.reduceAdd, he]
 refine dT 8 rfl (by decide +kernel) rfl (by first | exact flt_sub _ | exact PFr.flt (by assumption) | exact Sub.trans (flt_sub _) (by first | ((repeat' first | assumption | exact Sub.refl _ | refine Sub.over ?_ ‹_› _); done) | (intro _ _ h; simp only [Hp.set] at h ⊢; grind))) (hop_fieldAddr rfl ?_)
 try simp only [nfa, Nat.reduceAdd, he]
 refine dT 9 rfl (by decide +kernel) rfl (by first | exact flt_sub _ | exact PFr.flt (by assumption) | exact Sub.trans (flt_sub _) (by first | ((repeat' first | assumption | exact Sub.refl _ | refine Sub.over ?_ ‹_› _); done) | (intro _ _ h; simp only [Hp.set] at h ⊢; grind))) (hop_load rfl (by refine hFl (by (repeat' first | assumption | exact hS | exact Hp.one_get _ _ | refine hT (by first | assumption | exact Ne.symm ‹_›) ?_)) ?_; exact npOf) (by first | rfl | assumption | exact mid_get0 rfl | exact mid_get rfl | (simp; done)) ?_)
 try simp only [nfa, Nat.reduceAdd, he]
 refine dT 11 rfl (by decide +kernel) rfl (by first | exact flt_sub _ | exact PFr.flt (by assumption) | exact Sub.trans (flt_sub _) (by first | ((repeat' first | assumption | exact Sub.refl _ | refine Sub.over ?_ ‹_› _); done) | (intro _ _ h; simp only [Hp.set] at h ⊢; grind))) (hop_build (by simp only [fillL, wr, Value.cells, List.map_cons, List.map_nil, nf, nf2]; rfl) ?_)
 try simp only [nfa, Nat.reduceAdd, he]
 refine hD_do 10 rfl (by decide +kernel) rfl (hop_call ?_)
 simp only [nfa, Nat.reduceAdd, he]
 refine HT.mono (ph_Put (s := s) (by (repeat' first | assumption | refine PartH.upd ?_ (by (repeat' first | assumption | exact hS | exact Hp.one_get _ _ | refine hT (by first | assumption | exact Ne.symm ‹_›) ?_)) (by exact npOf) | refine PartH.new ?_ (by assumption))) (dOkU.d (by (repeat' first | exact hd | refine rdS.upd ?_ (by (repeat' first | assumption | exact hS | exact Hp.one_get _ _ | refine hT (by first | assumption | exact Ne.symm ‹_›) ?_)) (by decide) | refine rdS.new ?_ (by assumption)))) hfit) ?_
 rintro _ H1 ⟨rfl, hP1, f1⟩
 try simp only [nf, nf2]
 have H1_b1 := f1.keep' (b := b1) (by (repeat' first | assumption | exact hS | exact Hp.one_get _ _ | refine hT (by first | assumption | exact Ne.symm ‹_›) ?_)) (by exact npOf)
 have H1_b2 := f1.keep' (b := b2) (by (repeat' first | assumption | exact hS | exact Hp.one_get _ _ | refine hT (by first | assumption | exact Ne.symm ‹_›) ?_)) (by exact npOf)
 have H1_m := f1.keep' (b := m) (by (repeat' first | assumption | exact hS | exact Hp.one_get _ _ | refine hT (by first | assumption | exact Ne.symm ‹_›) ?_)) (by exact npOf)
 have H1_bx := f1.keep' (b := bx) (by (repeat' first | assumption | exact hS | exact Hp.one_get _ _ | refine hT (by first | assumption | exact Ne.symm ‹_›) ?_)) (by exact npOf)
 refine ⟨.inr (by first | exact flt_sub _ | exact PFr.flt (by assumption) | exact Sub.trans (flt_sub _) (by first | ((repeat' first | assumption | exact Sub.refl _ | refine Sub.over ?_ ‹_› _); done) | (intro _ _ h; simp only [Hp.set] at h ⊢; grind))), ?_⟩
 try simp only [nfa, Nat.reduceAdd, he]
 refine hD_do 12 rfl (by decide +kernel) rfl (hop_call ?_)
 simp only [nfa, Nat.reduceAdd, he]
 refine HT.mono (machine_counted_ok ⟨_, _, _, rfl⟩) ?_
 rintro _ _ ⟨rfl, rfl⟩
 try simp only [nfa, Nat.reduceAdd, he]
 refine ⟨.inr (by first | exact flt_sub _ | exact PFr.flt (by assumption) | exact Sub.trans (flt_sub _) (by first | ((repeat' first | assumption | exact Sub.refl _ | refine Sub.over ?_ ‹_› _); done) | (intro _ _ h; simp only [Hp.set] at h ⊢; grind))), ?_⟩
 try simp only [nfa, Nat.reduceAdd, he]
 refine hD_do 13 rfl (by decide +kernel) rfl (hop_storeA rfl rfl (by rfl) (by first | assumption | (repeat' first | (intro _ h; cases h; done) | refine List.forall_mem_cons.2 ⟨by first | rfl | assumption, ?_⟩) | (simp [Value.oneCell']; done) | (simp [Value.oneCell', *]; done)) (by (repeat' first | assumption | exact hS | exact Hp.one_get _ _ | refine hT (by first | assumption | exact Ne.symm ‹_›) ?_)) (by first | assumption | omega | (simp; done) | (simp; omega) | (simp [frc] <;> omega)) (by decide) ?_)
 try simp only [nfa, Nat.reduceAdd, he]
 refine ⟨.inl (by decide +kernel), ?_⟩
 try simp only [nfa, Nat.reduceAdd, he]
 refine hD_done (by decide +kernel) ?_
 try simp only [nfa, Nat.reduceAdd, he]
 refine hc_ret ?_
 try simp only [hng, hthen, hblock]
 apply hend_1 rfl ?es (RV.cellW rfl (by (repeat' first | assumption | exact hS | exact Hp.one_get _ _ | refine hT (by first | assumption | exact Ne.symm ‹_›) ?_)) (by simp)) ?eR
 case es => exact Sub.refl _
 case eR =>
  exact ⟨rfl, by (repeat' first | assumption | refine PartH.upd ?_ (by (repeat' first | assumption | exact hS | exact Hp.one_get _ _ | refine hT (by first | assumption | exact Ne.symm ‹_›) ?_)) (by exact npOf) | refine PartH.new ?_ (by assumption)), by (repeat' first | exact f1.of (by first | ((repeat' first | assumption | exact Sub.refl _ | refine Sub.over ?_ ‹_› _); done) | (intro _ _ h; simp only [Hp.set] at h ⊢; grind)) | refine PFr.upd ?_ (by assumption))⟩
theorem ops_unpin {H : Hp} {m p : Nat} {op pg to : Int} {tv : Value} {s : Pt} (hm : H m = some (row [.pointer (some ⟨p, 0, none⟩), .int .i64 op, .int .i64 pg, tv, .int .i64 to, .slice none 0 0] 86)) (hP : PartH H p s) {bx : Nat} (hbx : H bx = some (row [.pointer (some ⟨m, 0, none⟩)] 57)) {rop rpg roff rlen : Int} {da : Option Addr} {dn dc : Nat} :
    HT prog 69 #[.agg #[.int .i64 rop, .int .i64 rpg, .int .i64 roff, .int .i64 rlen, .slice da dn dc], .pointer (some ⟨bx, 0, none⟩)] H (fun v H' => v = .agg #[.bool true, .int .i64 0, .int .i64 (s.unpin rpg).1, .bool false, .int .i64 0, .slice none 0 0, .int .u64 0, .int .u64 0, .int .u64 0, .int .u64 0, .int .u64 0, .int .u64 0, .int .u64 0, .int .u64 0, .int .u64 0, .int .u64 0, .int .u64 0, .int .u64 0] ∧ PartH H' p (s.unpin rpg).2 ∧ PFr H H') := by
 have hmb := ne_row hm hbx (by decide)
 refine ht_of_body (args := [.agg #[.int .i64 rop, .int .i64 rpg, .int .i64 roff, .int .i64 rlen, .slice da dn dc], .pointer (some ⟨bx, 0, none⟩)]) func69 rfl ?_
 simp only [ntmps69, List.length_cons, List.length_nil, Nat.reduceAdd, Nat.reduceSub, List.replicate_succ, List.replicate_zero, List.cons_append, List.nil_append]
 refine sR ?_
 refine hops_cons rfl (hop_box rfl rfl ?_)
 intro b1 hb1
 have hb1' := hb1
 try simp only [Hp.set_none, Hp.del_none] at hb1'
 have hb1_n : H b1 = none := by first | exact hb1' | exact hb1'.2 | exact hb1'.2.2 | exact hb1'.2.2.2 | exact hb1'.2.2.2.2 | exact hb1'.2.2.2.2.2 | exact hb1'.2.2.2.2.2.2
 have hb1_m : b1 ≠ m := (Hp.ne_of hm hb1_n).symm
 have hb1_bx : b1 ≠ bx := (Hp.ne_of hbx hb1_n).symm
 clear hb1'
 try simp only [nfa, Nat.reduceAdd]
 refine hops_cons rfl (hop_alloc (zl := [.bool false, .int .i64 0, .int .i64 0, .bool false, .int .i64 0, .slice none 0 0, .int .u64 0, .int .u64 0, .int .u64 0, .int .u64 0, .int .u64 0, .int .u64 0, .int .u64 0, .int .u64 0, .int .u64 0, .int .u64 0, .int .u64 0, .int .u64 0]) rfl ?_)
 intro b2 hb2
 have hb2' := hb2
 try simp only [Hp.set_none, Hp.del_none] at hb2'
 have hb2_n : H b2 = none := by first | exact hb2' | exact hb2'.2 | exact hb2'.2.2 | exact hb2'.2.2.2 | exact hb2'.2.2.2.2 | exact hb2'.2.2.2.2.2 | exact hb2'.2.2.2.2.2.2
 have hb2_b1 : b2 ≠ b1 := by first | exact hb2'.1 | exact hb2'.2.1 | exact hb2'.2.2.1 | exact hb2'.2.2.2.1 | exact hb2'.2.2.2.2.1 | exact hb2'.2.2.2.2.2.1
 have hb2_m : b2 ≠ m := (Hp.ne_of hm hb2_n).symm
 have hb2_bx : b2 ≠ bx := (Hp.ne_of hbx hb2_n).symm
 clear hb2'
 try simp only [nfa, Nat.reduceAdd]
 refine hops_nil ?_
 try simp only [nfa, Nat.reduceAdd]
 refine hc_seq ?_
 refine hc_drawP follows (by intros; simp [hng, hthen, hblock, hend]) ?_
 refine dT 0 rfl (by decide +kernel) rfl (by first | exact flt_sub _ | exact PFr.flt (by assumption) | exact Sub.trans (flt_sub _) (by first | ((repeat' first | assumption | exact Sub.refl _ | refine Sub.over ?_ ‹_› _); done) | (intro _ _ h; simp only [Hp.set] at h ⊢; grind))) (hop_load rfl (by refine hFl (by (repeat' first | assumption | exact hS | exact Hp.one_get _ _ | refine hT (by first | assumption | exact Ne.symm ‹_›) ?_)) ?_; exact npOf) (by first | rfl | assumption | exact mid_get0 rfl | exact mid_get rfl | (simp; done)) ?_)
 try simp only [nfa, Nat.reduceAdd]
 refine dT 1 rfl (by decide +kernel) rfl (by first | exact flt_sub _ | exact PFr.flt (by assumption) | exact Sub.trans (flt_sub _) (by first | ((repeat' first | assumption | exact Sub.refl _ | refine Sub.over ?_ ‹_› _); done) | (intro _ _ h; simp only [Hp.set] at h ⊢; grind))) (hop_nilCheck rfl ?_)
 try simp only [nfa, Nat.reduceAdd]
 refine dT 2 rfl (by decide +kernel) rfl (by first | exact flt_sub _ | exact PFr.flt (by assumption) | exact Sub.trans (flt_sub _) (by first | ((repeat' first | assumption | exact Sub.refl _ | refine Sub.over ?_ ‹_› _); done) | (intro _ _ h; simp only [Hp.set] at h ⊢; grind))) (hop_fieldAddr rfl ?_)
 try simp only [nfa, Nat.reduceAdd]
 refine dT 3 rfl (by decide +kernel) rfl (by first | exact flt_sub _ | exact PFr.flt (by assumption) | exact Sub.trans (flt_sub _) (by first | ((repeat' first | assumption | exact Sub.refl _ | refine Sub.over ?_ ‹_› _); done) | (intro _ _ h; simp only [Hp.set] at h ⊢; grind))) (hop_load rfl (by refine hFl (by (repeat' first | assumption | exact hS | exact Hp.one_get _ _ | refine hT (by first | assumption | exact Ne.symm ‹_›) ?_)) ?_; exact npOf) (by first | rfl | assumption | exact mid_get0 rfl | exact mid_get rfl | (simp; done)) ?_)
 try simp only [nfa, Nat.reduceAdd]
 refine dT 4 rfl (by decide +kernel) rfl (by first | exact flt_sub _ | exact PFr.flt (by assumption) | exact Sub.trans (flt_sub _) (by first | ((repeat' first | assumption | exact Sub.refl _ | refine Sub.over ?_ ‹_› _); done) | (intro _ _ h; simp only [Hp.set] at h ⊢; grind))) (hop_fieldAddr rfl ?_)
 try simp only [nfa, Nat.reduceAdd]
 refine dT 5 rfl (by decide +kernel) rfl (by first | exact flt_sub _ | exact PFr.flt (by assumption) | exact Sub.trans (flt_sub _) (by first | ((repeat' first | assumption | exact Sub.refl _ | refine Sub.over ?_ ‹_› _); done) | (intro _ _ h; simp only [Hp.set] at h ⊢; grind))) (hop_load rfl (by refine hFl (by (repeat' first | assumption | exact hS | exact Hp.one_get _ _ | refine hT (by first | assumption | exact Ne.symm ‹_›) ?_)) ?_; exact npOf) (by first | rfl | assumption | exact mid_get0 rfl | exact mid_get rfl | (simp; done)) ?_)
 try simp only [nfa, Nat.reduceAdd]
 refine hD_do 6 rfl (by decide +kernel) rfl (hop_call ?_)
 simp only [nfa, Nat.reduceAdd]
 refine HT.mono (ph_Unpin (s := s) (by (repeat' first | assumption | refine PartH.upd ?_ (by (repeat' first | assumption | exact hS | exact Hp.one_get _ _ | refine hT (by first | assumption | exact Ne.symm ‹_›) ?_)) (by exact npOf) | refine PartH.new ?_ (by assumption)))) ?_
 rintro _ H1 ⟨rfl, hP1, f1⟩
 try simp only [nf, nf2]
 have H1_b1 := f1.keep' (b := b1) (by (repeat' first | assumption | exact hS | exact Hp.one_get _ _ | refine hT (by first | assumption | exact Ne.symm ‹_›) ?_)) (by exact npOf)
 have H1_b2 := f1.keep' (b := b2) (by (repeat' first | assumption | exact hS | exact Hp.one_get _ _ | refine hT (by first | assumption | exact Ne.symm ‹_›) ?_)) (by exact npOf)
 have H1_m := f1.keep' (b := m) (by (repeat' first | assumption | exact hS | exact Hp.one_get _ _ | refine hT (by first | assumption | exact Ne.symm ‹_›) ?_)) (by exact npOf)
 have H1_bx := f1.keep' (b := bx) (by (repeat' first | assumption | exact hS | exact Hp.one_get _ _ | refine hT (by first | assumption | exact Ne.symm ‹_›) ?_)) (by exact npOf)
 refine ⟨.inr (by first | exact flt_sub _ | exact PFr.flt (by assumption) | exact Sub.trans (flt_sub _) (by first | ((repeat' first | assumption | exact Sub.refl _ | refine Sub.over ?_ ‹_› _); done) | (intro _ _ h; simp only [Hp.set] at h ⊢; grind))), ?_⟩
 try simp only [nfa, Nat.reduceAdd]
 refine hD_do 7 rfl (by decide +kernel) rfl (hop_call ?_)
 simp only [nfa, Nat.reduceAdd]
 refine HT.mono (machine_done) ?_
 rintro _ _ ⟨rfl, rfl⟩
 try simp only [nfa, Nat.reduceAdd]
 refine ⟨.inr (by first | exact flt_sub _ | exact PFr.flt (by assumption) | exact Sub.trans (flt_sub _) (by first | ((repeat' first | assumption | exact Sub.refl _ | refine Sub.over ?_ ‹_› _); done) | (intro _ _ h; simp only [Hp.set] at h ⊢; grind))), ?_⟩
 try simp only [nfa, Nat.reduceAdd]
 refine hD_do 8 rfl (by decide +kernel) rfl (hop_storeA rfl rfl (by rfl) (by first | assumption | (repeat' first | (intro _ h; cases h; done) | refine List.forall_mem_cons.2 ⟨by first | rfl | assumption, ?_⟩) | (simp [Value.oneCell']; done) | (simp [Value.oneCell', *]; done)) (by (repeat' first | assumption | exact hS | exact Hp.one_get _ _ | refine hT (by first | assumption | exact Ne.symm ‹_›) ?_)) (by first | assumption | omega | (simp; done) | (simp; omega) | (simp [frc] <;> omega)) (by decide) ?_)
 try simp only [nfa, Nat.reduceAdd]
 refine ⟨.inl (by decide +kernel), ?_⟩
 try simp only [nfa, Nat.reduceAdd]
 refine hD_done (by decide +kernel) ?_
 try simp only [nfa, Nat.reduceAdd]
 refine hc_ret ?_
 try simp only [hng, hthen, hblock]
 apply hend_1 rfl ?es (RV.cellW rfl (by (repeat' first | assumption | exact hS | exact Hp.one_get _ _ | refine hT (by first | assumption | exact Ne.symm ‹_›) ?_)) (by simp)) ?eR
 case es => exact Sub.refl _
 case eR =>
  exact ⟨rfl, by (repeat' first | assumption | refine PartH.upd ?_ (by (repeat' first | assumption | exact hS | exact Hp.one_get _ _ | refine hT (by first | assumption | exact Ne.symm ‹_›) ?_)) (by exact npOf) | refine PartH.new ?_ (by assumption)), by (repeat' first | exact f1.of (by first | ((repeat' first | assumption | exact Sub.refl _ | refine Sub.over ?_ ‹_› _); done) | (intro _ _ h; simp only [Hp.set] at h ⊢; grind)) | refine PFr.upd ?_ (by assumption))⟩
theorem ops_flush {H : Hp} {m p : Nat} {op pg to : Int} {tv : Value} {s : Pt} (hm : H m = some (row [.pointer (some ⟨p, 0, none⟩), .int .i64 op, .int .i64 pg, tv, .int .i64 to, .slice none 0 0] 86)) (hP : PartH H p s) {bx : Nat} (hbx : H bx = some (row [.pointer (some ⟨m, 0, none⟩)] 57)) {rop rpg roff rlen : Int} {da : Option Addr} {dn dc : Nat} :
    HT prog 71 #[.agg #[.int .i64 rop, .int .i64 rpg, .int .i64 roff, .int .i64 rlen, .slice da dn dc], .pointer (some ⟨bx, 0, none⟩)] H (fun v H' => v = .agg #[.bool false, .int .i64 0, .int .i64 0, .bool false, .int .i64 0, .slice none 0 0, .int .u64 0, .int .u64 0, .int .u64 0, .int .u64 0, .int .u64 0, .int .u64 0, .int .u64 0, .int .u64 0, .int .u64 0, .int .u64 0, .int .u64 0, .int .u64 0] ∧ ∃ tv', H' m = some (row [.pointer (some ⟨p, 0, none⟩), .int .i64 op, .int .i64 pg, tv', .int .i64 to, .slice none 0 0] 86) ∧ rdS H' tv' (flushOf (dirtyPg s.fr rpg)).length (flat ioc (flushOf (dirtyPg s.fr rpg))) 106 3 ∧ PartH H' p s) := by
 have hmb := ne_row hm hbx (by decide)
 refine ht_of_body (args := [.agg #[.int .i64 rop, .int .i64 rpg, .int .i64 roff, .int .i64 rlen, .slice da dn dc], .pointer (some ⟨bx, 0, none⟩)]) func71 rfl ?_
 simp only [ntmps71, List.length_cons, List.length_nil, Nat.reduceAdd, Nat.reduceSub, List.replicate_succ, List.replicate_zero, List.cons_append, List.nil_append]
 refine sR ?_
 refine hops_cons rfl (hop_box rfl rfl ?_)
 intro b1 hb1
 have hb1' := hb1
 try simp only [Hp.set_none, Hp.del_none] at hb1'
 have hb1_n : H b1 = none := by first | exact hb1' | exact hb1'.2 | exact hb1'.2.2 | exact hb1'.2.2.2 | exact hb1'.2.2.2.2 | exact hb1'.2.2.2.2.2 | exact hb1'.2.2.2.2.2.2
 have hb1_m : b1 ≠ m := (Hp.ne_of hm hb1_n).symm
 have hb1_bx : b1 ≠ bx := (Hp.ne_of hbx hb1_n).symm
 clear hb1'
 try simp only [nfa, Nat.reduceAdd]
 refine hops_cons rfl (hop_alloc (zl := [.bool false, .int .i64 0, .int .i64 0, .bool false, .int .i64 0, .slice none 0 0, .int .u64 0, .int .u64 0, .int .u64 0, .int .u64 0, .int .u64 0, .int .u64 0, .int .u64 0, .int .u64 0, .int .u64 0, .int .u64 0, .int .u64 0, .int .u64 0]) rfl ?_)
 intro b2 hb2
 have hb2' := hb2
 try simp only [Hp.set_none, Hp.del_none] at hb2'
 have hb2_n : H b2 = none := by first | exact hb2' | exact hb2'.2 | exact hb2'.2.2 | exact hb2'.2.2.2 | exact hb2'.2.2.2.2 | exact hb2'.2.2.2.2.2 | exact hb2'.2.2.2.2.2.2
 have hb2_b1 : b2 ≠ b1 := by first | exact hb2'.1 | exact hb2'.2.1 | exact hb2'.2.2.1 | exact hb2'.2.2.2.1 | exact hb2'.2.2.2.2.1 | exact hb2'.2.2.2.2.2.1
 have hb2_m : b2 ≠ m := (Hp.ne_of hm hb2_n).symm
 have hb2_bx : b2 ≠ bx := (Hp.ne_of hbx hb2_n).symm
 clear hb2'
 try simp only [nfa, Nat.reduceAdd]
 refine hops_nil ?_
 try simp only [nfa, Nat.reduceAdd]
 refine sR ?_
 refine hops_cons rfl (hop_load rfl (by (repeat' first | assumption | exact hS | exact Hp.one_get _ _ | refine hT (by first | assumption | exact Ne.symm ‹_›) ?_)) (by first | rfl | assumption | exact mid_get0 rfl | exact mid_get rfl | (simp; done)) ?_)
 try simp only [nfa, Nat.reduceAdd]
 refine oF rfl ?_
 refine hops_cons rfl (hop_load rfl (by (repeat' first | assumption | exact hS | exact Hp.one_get _ _ | refine hT (by first | assumption | exact Ne.symm ‹_›) ?_)) (by first | rfl | assumption | exact mid_get0 rfl | exact mid_get rfl | (simp; done)) ?_)
 try simp only [nfa, Nat.reduceAdd]
 refine hops_cons rfl (hop_call ?_)
 simp only [nfa, Nat.reduceAdd]
 refine HT.mono (HT.frame (H := H) (by first | ((repeat' first | assumption | exact Sub.refl _ | refine Sub.over ?_ ‹_› _); done) | (intro _ _ h; simp only [Hp.set] at h ⊢; grind)) (machine_flush hm hP)) ?_
 rintro _ H1 ⟨Hx, ⟨rfl, v1, hm1, hr1, hP1⟩, sx, fx⟩
 try simp only [nf, nf2]
 have H1_b1 := (fx b1 _ hb1_n (by (repeat' first | assumption | exact hS | exact Hp.one_get _ _ | refine hT (by first | assumption | exact Ne.symm ‹_›) ?_))).2
 have H1_b2 := (fx b2 _ hb2_n (by (repeat' first | assumption | exact hS | exact Hp.one_get _ _ | refine hT (by first | assumption | exact Ne.symm ‹_›) ?_))).2
 have hm2 := sx _ _ hm1
 have hP2 := hP1.sub sx
 have hr2 := hr1.sub sx
 refine hops_cons rfl (hop_storeA rfl rfl (by rfl) (by first | assumption | (repeat' first | (intro _ h; cases h; done) | refine List.forall_mem_cons.2 ⟨by first | rfl | assumption, ?_⟩) | (simp [Value.oneCell']; done) | (simp [Value.oneCell', *]; done)) (by (repeat' first | assumption | exact hS | exact Hp.one_get _ _ | refine hT (by first | assumption | exact Ne.symm ‹_›) ?_)) (by first | assumption | omega | (simp; done) | (simp; omega) | (simp [frc] <;> omega)) (by decide) ?_)
 try simp only [nfa, Nat.reduceAdd]
 refine hops_nil ?_
 try simp only [nfa, Nat.reduceAdd]
 refine hc_ret ?_
 try simp only [hng, hthen, hblock]
 apply hend_1 rfl ?es (RV.cellW rfl (by (repeat' first | assumption | exact hS | exact Hp.one_get _ _ | refine hT (by first | assumption | exact Ne.symm ‹_›) ?_)) (by simp)) ?eR
 case es => exact Sub.refl _
 case eR =>
  exact ⟨rfl, v1, by (repeat' first | assumption | exact hS | exact Hp.one_get _ _ | refine hT (by first | assumption | exact Ne.symm ‹_›) ?_), by (repeat' first | exact hr2 | refine rdS.upd ?_ (by (repeat' first | assumption | exact hS | exact Hp.one_get _ _ | refine hT (by first | assumption | exact Ne.symm ‹_›) ?_)) (by decide) | refine rdS.new ?_ (by assumption)), by (repeat' first | assumption | refine PartH.upd ?_ (by (repeat' first | assumption | exact hS | exact Hp.one_get _ _ | refine hT (by first | assumption | exact Ne.symm ‹_›) ?_)) (by exact npOf) | refine PartH.new ?_ (by assumption))⟩
theorem ops_flushall {H : Hp} {m p : Nat} {op pg to : Int} {tv : Value} {s : Pt} (hm : H m = some (row [.pointer (some ⟨p, 0, none⟩), .int .i64 op, .int .i64 pg, tv, .int .i64 to, .slice none 0 0] 86)) (hP : PartH H p s) {bx : Nat} (hbx : H bx = some (row [.pointer (some ⟨m, 0, none⟩)] 57)) {rop rpg roff rlen : Int} {da : Option Addr} {dn dc : Nat} :
    HT prog 73 #[.agg #[.int .i64 rop, .int .i64 rpg, .int .i64 roff, .int .i64 rlen, .slice da dn dc], .pointer (some ⟨bx, 0, none⟩)] H (fun v H' => v = .agg #[.bool false, .int .i64 0, .int .i64 0, .bool false, .int .i64 0, .slice none 0 0, .int .u64 0, .int .u64 0, .int .u64 0, .int .u64 0, .int .u64 0, .int .u64 0, .int .u64 0, .int .u64 0, .int .u64 0, .int .u64 0, .int .u64 0, .int .u64 0] ∧ ∃ tv', H' m = some (row [.pointer (some ⟨p, 0, none⟩), .int .i64 op, .int .i64 pg, tv', .int .i64 to, .slice none 0 0] 86) ∧ rdS H' tv' (flushOf (dirtyPg s.fr (-1))).length (flat ioc (flushOf (dirtyPg s.fr (-1)))) 106 3 ∧ PartH H' p s) := by
 have hmb := ne_row hm hbx (by decide)
 refine ht_of_body (args := [.agg #[.int .i64 rop, .int .i64 rpg, .int .i64 roff, .int .i64 rlen, .slice da dn dc], .pointer (some ⟨bx, 0, none⟩)]) func73 rfl ?_
 simp only [ntmps73, List.length_cons, List.length_nil, Nat.reduceAdd, Nat.reduceSub, List.replicate_succ, List.replicate_zero, List.cons_append, List.nil_append]
 refine sR ?_
 refine hops_cons rfl (hop_box rfl rfl ?_)
 intro b1 hb1
 have hb1' := hb1
 try simp only [Hp.set_none, Hp.del_none] at hb1'
 have hb1_n : H b1 = none := by first | exact hb1' | exact hb1'.2 | exact hb1'.2.2 | exact hb1'.2.2.2 | exact hb1'.2.2.2.2 | exact hb1'.2.2.2.2.2 | exact hb1'.2.2.2.2.2.2
 have hb1_m : b1 ≠ m := (Hp.ne_of hm hb1_n).symm
 have hb1_bx : b1 ≠ bx := (Hp.ne_of hbx hb1_n).symm
 clear hb1'
 try simp only [nfa, Nat.reduceAdd]
 refine hops_cons rfl (hop_alloc (zl := [.bool false, .int .i64 0, .int .i64 0, .bool false, .int .i64 0, .slice none 0 0, .int .u64 0, .int .u64 0, .int .u64 0, .int .u64 0, .int .u64 0, .int .u64 0, .int .u64 0, .int .u64 0, .int .u64 0, .int .u64 0, .int .u64 0, .int .u64 0]) rfl ?_)
 intro b2 hb2
 have hb2' := hb2
 try simp only [Hp.set_none, Hp.del_none] at hb2'
 have hb2_n : H b2 = none := by first | exact hb2' | exact hb2'.2 | exact hb2'.2.2 | exact hb2'.2.2.2 | exact hb2'.2.2.2.2 | exact hb2'.2.2.2.2.2 | exact hb2'.2.2.2.2.2.2
 have hb2_b1 : b2 ≠ b1 := by first | exact hb2'.1 | exact hb2'.2.1 | exact hb2'.2.2.1 | exact hb2'.2.2.2.1 | exact hb2'.2.2.2.2.1 | exact hb2'.2.2.2.2.2.1
 have hb2_m : b2 ≠ m := (Hp.ne_of hm hb2_n).symm
 have hb2_bx : b2 ≠ bx := (Hp.ne_of hbx hb2_n).symm
 clear hb2'
 try simp only [nfa, Nat.reduceAdd]
 refine hops_nil ?_
 try simp only [nfa, Nat.reduceAdd]
 refine sR ?_
 refine hops_cons rfl (hop_load rfl (by (repeat' first | assumption | exact hS | exact Hp.one_get _ _ | refine hT (by first | assumption | exact Ne.symm ‹_›) ?_)) (by first | rfl | assumption | exact mid_get0 rfl | exact mid_get rfl | (simp; done)) ?_)
 try simp only [nfa, Nat.reduceAdd]
 refine hops_cons rfl (hop_call ?_)
 simp only [nfa, Nat.reduceAdd]
 refine HT.mono (HT.frame (H := H) (by first | ((repeat' first | assumption | exact Sub.refl _ | refine Sub.over ?_ ‹_› _); done) | (intro _ _ h; simp only [Hp.set] at h ⊢; grind)) (machine_flush hm hP)) ?_
 rintro _ H1 ⟨Hx, ⟨rfl, v1, hm1, hr1, hP1⟩, sx, fx⟩
 try simp only [nf, nf2]
 have H1_b1 := (fx b1 _ hb1_n (by (repeat' first | assumption | exact hS | exact Hp.one_get _ _ | refine hT (by first | assumption | exact Ne.symm ‹_›) ?_))).2
 have H1_b2 := (fx b2 _ hb2_n (by (repeat' first | assumption | exact hS | exact Hp.one_get _ _ | refine hT (by first | assumption | exact Ne.symm ‹_›) ?_))).2
 have hm2 := sx _ _ hm1
 have hP2 := hP1.sub sx
 have hr2 := hr1.sub sx
 refine hops_cons rfl (hop_storeA rfl rfl (by rfl) (by first | assumption | (repeat' first | (intro _ h; cases h; done) | refine List.forall_mem_cons.2 ⟨by first | rfl | assumption, ?_⟩) | (simp [Value.oneCell']; done) | (simp [Value.oneCell', *]; done)) (by (repeat' first | assumption | exact hS | exact Hp.one_get _ _ | refine hT (by first | assumption | exact Ne.symm ‹_›) ?_)) (by first | assumption | omega | (simp; done) | (simp; omega) | (simp [frc] <;> omega)) (by decide) ?_)
 try simp only [nfa, Nat.reduceAdd]
 refine hops_nil ?_
 try simp only [nfa, Nat.reduceAdd]
 refine hc_ret ?_
 try simp only [hng, hthen, hblock]
 apply hend_1 rfl ?es (RV.cellW rfl (by (repeat' first | assumption | exact hS | exact Hp.one_get _ _ | refine hT (by first | assumption | exact Ne.symm ‹_›) ?_)) (by simp)) ?eR
 case es => exact Sub.refl _
 case eR =>
  exact ⟨rfl, v1, by (repeat' first | assumption | exact hS | exact Hp.one_get _ _ | refine hT (by first | assumption | exact Ne.symm ‹_›) ?_), by (repeat' first | exact hr2 | refine rdS.upd ?_ (by (repeat' first | assumption | exact hS | exact Hp.one_get _ _ | refine hT (by first | assumption | exact Ne.symm ‹_›) ?_)) (by decide) | refine rdS.new ?_ (by assumption)), by (repeat' first | assumption | refine PartH.upd ?_ (by (repeat' first | assumption | exact hS | exact Hp.one_get _ _ | refine hT (by first | assumption | exact Ne.symm ‹_›) ?_)) (by exact npOf) | refine PartH.new ?_ (by assumption))⟩
theorem ops_stats {H : Hp} {rop rpg roff rlen : Int} {da : Option Addr} {dn dc : Nat} :
    HT prog 75 #[.agg #[.int .i64 rop, .int .i64 rpg, .int .i64 roff, .int .i64 rlen, .slice da dn dc]] H (fun v H' => v = .agg #[.bool true, .int .i64 0, .int .i64 0, .bool false, .int .i64 0, .slice none 0 0, .int .u64 0, .int .u64 0, .int .u64 0, .int .u64 0, .int .u64 0, .int .u64 0, .int .u64 0, .int .u64 0, .int .u64 0, .int .u64 0, .int .u64 0, .int .u64 0] ∧ H = H') := by
 refine ht_of_body (args := [.agg #[.int .i64 rop, .int .i64 rpg, .int .i64 roff, .int .i64 rlen, .slice da dn dc]]) func75 rfl ?_
 simp only [ntmps75, List.length_cons, List.length_nil, Nat.reduceAdd, Nat.reduceSub, List.replicate_succ, List.replicate_zero, List.cons_append, List.nil_append]
 refine sR ?_
 refine hops_cons rfl (hop_box rfl rfl ?_)
 intro b1 hb1
 have hb1' := hb1
 try simp only [Hp.set_none, Hp.del_none] at hb1'
 have hb1_n : H b1 = none := by first | exact hb1' | exact hb1'.2 | exact hb1'.2.2 | exact hb1'.2.2.2 | exact hb1'.2.2.2.2 | exact hb1'.2.2.2.2.2 | exact hb1'.2.2.2.2.2.2
 clear hb1'
 try simp only [nfa, Nat.reduceAdd]
 refine hops_cons rfl (hop_alloc (zl := [.bool false, .int .i64 0, .int .i64 0, .bool false, .int .i64 0, .slice none 0 0, .int .u64 0, .int .u64 0, .int .u64 0, .int .u64 0, .int .u64 0, .int .u64 0, .int .u64 0, .int .u64 0, .int .u64 0, .int .u64 0, .int .u64 0, .int .u64 0]) rfl ?_)
 intro b2 hb2
 have hb2' := hb2
 try simp only [Hp.set_none, Hp.del_none] at hb2'
 have hb2_n : H b2 = none := by first | exact hb2' | exact hb2'.2 | exact hb2'.2.2 | exact hb2'.2.2.2 | exact hb2'.2.2.2.2 | exact hb2'.2.2.2.2.2 | exact hb2'.2.2.2.2.2.2
 have hb2_b1 : b2 ≠ b1 := by first | exact hb2'.1 | exact hb2'.2.1 | exact hb2'.2.2.1 | exact hb2'.2.2.2.1 | exact hb2'.2.2.2.2.1 | exact hb2'.2.2.2.2.2.1
 clear hb2'
 try simp only [nfa, Nat.reduceAdd]
 refine hops_nil ?_
 try simp only [nfa, Nat.reduceAdd]
 refine sR ?_
 refine hops_cons rfl (hop_call ?_)
 simp only [nfa, Nat.reduceAdd]
 refine HT.mono (machine_done) ?_
 rintro _ _ ⟨rfl, rfl⟩
 try simp only [nfa, Nat.reduceAdd]
 refine hops_cons rfl (hop_storeA rfl rfl (by rfl) (by first | assumption | (repeat' first | (intro _ h; cases h; done) | refine List.forall_mem_cons.2 ⟨by first | rfl | assumption, ?_⟩) | (simp [Value.oneCell']; done) | (simp [Value.oneCell', *]; done)) (by (repeat' first | assumption | exact hS | exact Hp.one_get _ _ | refine hT (by first | assumption | exact Ne.symm ‹_›) ?_)) (by first | assumption | omega | (simp; done) | (simp; omega) | (simp [frc] <;> omega)) (by decide) ?_)
 try simp only [nfa, Nat.reduceAdd]
 refine hops_nil ?_
 try simp only [nfa, Nat.reduceAdd]
 refine hc_ret ?_
 try simp only [hng, hthen, hblock]
 apply hend_1 rfl ?es (RV.cellW rfl (by (repeat' first | assumption | exact hS | exact Hp.one_get _ _ | refine hT (by first | assumption | exact Ne.symm ‹_›) ?_)) (by simp)) ?eR
 case eR =>
  first | exact ⟨rfl, rfl⟩ | (refine ⟨?_, rfl⟩; simp)
 case es => first | ((repeat' first | assumption | exact Sub.refl _ | refine Sub.over ?_ ‹_› _); done) | (intro _ _ h; simp only [Hp.set] at h ⊢; grind)
end Go.Proofs.Try
