/- A part of the proofs over the tenants of a page cache: lemmas on what is known of the memory, and contracts of the Go functions. -/
import Derived.Test.YtckokpmljhhhcaaR2
set_option linter.unusedVariables false
set_option linter.unusedSimpArgs false
namespace Go.Proofs.Try
open Go Go.H
set_option linter.unusedSimpArgs false
set_option linter.unusedVariables false
set_option maxRecDepth 100000
set_option maxHeartbeats 2000000
def opT : List Int := [1, 1, 1, 2, 2, 3, 3, 3, 4, 4, 5, 6, 7, 8]
def goodOp (n : Int) : Int := opT.getD (arN n % 14) 0
theorem goodOp_get (n : Int) : ([.int .i64 1, .int .i64 1, .int .i64 1, .int .i64 2, .int .i64 2, .int .i64 3, .int .i64 3, .int .i64 3, .int .i64 4, .int .i64 4, .int .i64 5, .int .i64 6, .int .i64 7, .int .i64 8] : List Value)[arN n % 14]? = some (.int .i64 (goodOp n)) := by
  unfold goodOp
  generalize h : arN n % 14 = k
  have hk : k < 14 := by rw [← h]; exact Nat.mod_lt _ (by decide)
  clear h
  rcases k with _ | _ | _ | _ | _ | _ | _ | _ | _ | _ | _ | _ | _ | _ | k
  all_goals first | rfl | omega
theorem goodOp_cases (n : Int) : goodOp n = 1 ∨ goodOp n = 2 ∨ goodOp n = 3 ∨ goodOp n = 4 ∨ goodOp n = 5 ∨ goodOp n = 6 ∨ goodOp n = 7 ∨ goodOp n = 8 := by
  unfold goodOp
  generalize h : arN n % 14 = k
  have hk : k < 14 := by rw [← h]; exact Nat.mod_lt _ (by decide)
  clear h
  rcases k with _ | _ | _ | _ | _ | _ | _ | _ | _ | _ | _ | _ | _ | _ | k
  all_goals first | decide | omega
theorem Good_a {H : Hp} {op page off len o : Int} {pages : Nat} {da : Option Addr} {dc : Nat} {bs : List UInt8} (hd : dOk H (.slice da bs.length dc) bs) (ho : goodOp op = o) (f1 : fitsI op) (f2 : fitsI page) (f3 : fitsI off) (f4 : fitsI len) (hp : 0 < pages) (h6 : o ≠ 6) (h8 : o ≠ 8) (h2 : o ≠ 2) (h3 : o ≠ 3) :
    HT prog 11 #[.agg #[.int .i64 op, .int .i64 page, .int .i64 off, .int .i64 len, .slice da bs.length dc], .int .i64 (pages : Int)] H (fun v H' => v = .agg #[.int .i64 o, .int .i64 ((arN page % pages : Nat) : Int), .int .i64 0, .int .i64 0, .slice none 0 0] ∧ H = H') := by
 have hb : (o != 6 && o != 8) = true := by simp [h6, h8]
 have hb2 : (o == 2 || o == 3) = false := by simp [h2, h3]
 refine ht_of_body (args := [.agg #[.int .i64 op, .int .i64 page, .int .i64 off, .int .i64 len, .slice da bs.length dc], .int .i64 (pages : Int)]) func11 rfl ?_
 simp only [ntmps11, List.length_cons, List.length_nil, Nat.reduceAdd, Nat.reduceSub, List.replicate_succ, List.replicate_zero, List.cons_append, List.nil_append]
 refine sR ?_
 refine hops_cons rfl (hop_box rfl rfl ?_)
 intro b1 hb1
 have hb1' := hb1
 try simp only [Hp.set_none, Hp.del_none] at hb1'
 have hb1_n : H b1 = none := by first | exact hb1' | exact hb1'.2 | exact hb1'.2.2 | exact hb1'.2.2.2 | exact hb1'.2.2.2.2 | exact hb1'.2.2.2.2.2 | exact hb1'.2.2.2.2.2.2
 clear hb1'
 try simp only [nfa, Nat.reduceAdd]
 refine hops_cons rfl (hop_alloc (zl := [.int .i64 0, .int .i64 0, .int .i64 0, .int .i64 0, .slice none 0 0]) rfl ?_)
 intro b2 hb2
 have hb2' := hb2
 try simp only [Hp.set_none, Hp.del_none] at hb2'
 have hb2_n : H b2 = none := by first | exact hb2' | exact hb2'.2 | exact hb2'.2.2 | exact hb2'.2.2.2 | exact hb2'.2.2.2.2 | exact hb2'.2.2.2.2.2 | exact hb2'.2.2.2.2.2.2
 have hb2_b1 : b2 ≠ b1 := by first | exact hb2'.1 | exact hb2'.2.1 | exact hb2'.2.2.1 | exact hb2'.2.2.2.1 | exact hb2'.2.2.2.2.1 | exact hb2'.2.2.2.2.2.1
 clear hb2'
 try simp only [nfa, Nat.reduceAdd]
 refine hops_nil ?_
 try simp only [nfa, Nat.reduceAdd]
 refine sR ?_
 refine hops_cons rfl (hop_buildSlice (L := [.int .i64 1, .int .i64 1, .int .i64 1, .int .i64 2, .int .i64 2, .int .i64 3, .int .i64 3, .int .i64 3, .int .i64 4, .int .i64 4, .int .i64 5, .int .i64 6, .int .i64 7, .int .i64 8]) rfl (by decide) (by decide) rfl ?_)
 intro bs0 hbs0
 have hbs0' := hbs0
 try simp only [Hp.set_none, Hp.del_none] at hbs0'
 have hbs0_n : H bs0 = none := by first | exact hbs0' | exact hbs0'.2 | exact hbs0'.2.2 | exact hbs0'.2.2.2 | exact hbs0'.2.2.2.2 | exact hbs0'.2.2.2.2.2 | exact hbs0'.2.2.2.2.2.2
 have hbs0_b1 : bs0 ≠ b1 := by first | exact hbs0'.1 | exact hbs0'.2.1 | exact hbs0'.2.2.1 | exact hbs0'.2.2.2.1 | exact hbs0'.2.2.2.2.1 | exact hbs0'.2.2.2.2.2.1
 have hbs0_b2 : bs0 ≠ b2 := by first | exact hbs0'.1 | exact hbs0'.2.1 | exact hbs0'.2.2.1 | exact hbs0'.2.2.2.1 | exact hbs0'.2.2.2.2.1 | exact hbs0'.2.2.2.2.2.1
 clear hbs0'
 try simp only [nf, nf2]
 refine oF rfl ?_
 refine hops_cons rfl (hop_load rfl (by (repeat' first | assumption | exact hS | exact Hp.one_get _ _ | refine hT (by first | assumption | exact Ne.symm ‹_›) ?_)) (by first | rfl | assumption | exact mid_get0 rfl | exact mid_get rfl | (simp; done)) ?_)
 try simp only [nfa, Nat.reduceAdd]
 refine hops_cons rfl (hop_call ?_)
 simp only [nfa, Nat.reduceAdd]
 refine HT.mono (ref_Around (k := 14) f1 (by decide)) ?_
 rintro _ _ ⟨rfl, rfl⟩
 try simp only [nf, nf2]
 have hlt14 : arN op % 14 < 14 := Nat.mod_lt _ (by decide)
 refine hops_cons rfl (hop_indexAddr (i := ((arN op % 14 : Nat) : Int)) rfl rfl (by omega) (by omega) ?_)
 simp only [Int.toNat_natCast, Nat.mul_one, Nat.zero_add]
 try simp only [nf, nf2]
 refine hops_cons rfl (hop_load rfl (by (repeat' first | assumption | exact hS | exact Hp.one_get _ _ | refine hT (by first | assumption | exact Ne.symm ‹_›) ?_)) (by rw [goodOp_get, ho]) ?_)
 try simp only [nf, nf2]
 refine oA ?_
 try simp only [nfa, Nat.reduceAdd]
 refine hops_nil ?_
 try simp only [nfa, Nat.reduceAdd]
 refine sR ?_
 refine oM ?_
 try simp only [nfa, Nat.reduceAdd]
 refine hops_cons rfl (hop_build (by simp only [fillL, wr, Value.cells, List.map_cons, List.map_nil, nf, nf2]; rfl) ?_)
 try simp only [nfa, Nat.reduceAdd]
 refine hops_cons rfl (hop_alloc (zl := [.int .i64 0, .int .i64 0, .int .i64 0, .int .i64 0, .slice none 0 0]) rfl ?_)
 intro b3 hb3
 have hb3' := hb3
 try simp only [Hp.set_none, Hp.del_none] at hb3'
 have hb3_n : H b3 = none := by first | exact hb3' | exact hb3'.2 | exact hb3'.2.2 | exact hb3'.2.2.2 | exact hb3'.2.2.2.2 | exact hb3'.2.2.2.2.2 | exact hb3'.2.2.2.2.2.2
 have hb3_b1 : b3 ≠ b1 := by first | exact hb3'.1 | exact hb3'.2.1 | exact hb3'.2.2.1 | exact hb3'.2.2.2.1 | exact hb3'.2.2.2.2.1 | exact hb3'.2.2.2.2.2.1
 have hb3_b2 : b3 ≠ b2 := by first | exact hb3'.1 | exact hb3'.2.1 | exact hb3'.2.2.1 | exact hb3'.2.2.2.1 | exact hb3'.2.2.2.2.1 | exact hb3'.2.2.2.2.2.1
 have hb3_bs0 : b3 ≠ bs0 := by first | exact hb3'.1 | exact hb3'.2.1 | exact hb3'.2.2.1 | exact hb3'.2.2.2.1 | exact hb3'.2.2.2.2.1 | exact hb3'.2.2.2.2.2.1
 clear hb3'
 try simp only [nfa, Nat.reduceAdd]
 refine hops_cons rfl (hop_storeA rfl rfl (by rfl) (by first | assumption | (repeat' first | (intro _ h; cases h; done) | refine List.forall_mem_cons.2 ⟨by first | rfl | assumption, ?_⟩) | (simp [Value.oneCell']; done) | (simp [Value.oneCell', *]; done)) (by (repeat' first | assumption | exact hS | exact Hp.one_get _ _ | refine hT (by first | assumption | exact Ne.symm ‹_›) ?_)) (by first | assumption | omega | (simp; done) | (simp; omega) | (simp [frc] <;> omega)) (by decide) ?_)
 try simp only [nfa, Nat.reduceAdd]
 refine hops_nil ?_
 try simp only [nfa, Nat.reduceAdd]
 refine hc_seq ?_
 refine sR ?_
 refine oM ?_
 try simp only [nfa, Nat.reduceAdd]
 refine hops_cons rfl (hop_bin rfl rfl rfl ?_)
 try simp only [nfa, Nat.reduceAdd]
 refine oM ?_
 try simp only [nfa, Nat.reduceAdd]
 first
  | refine hops_off' rfl rfl (by rfl) ?_
  | refine hops_un rfl rfl ?_
  | (refine hops_on' rfl rfl (by rfl) (hop_move ?_))
  | (refine hops_gp (v := ?vg4) rfl rfl (fun hgp => ?hv4) ?hh4; case hv4 => ((try simp only [hgp, if_true, ev, List.getD_cons_zero, List.getD_cons_succ]); refine hop_move ?_; rfl))
 try simp only [nfa, Nat.reduceAdd]
 first
  | refine hops_off' rfl rfl (by rfl) ?_
  | refine hops_un rfl rfl ?_
  | (refine hops_on' rfl rfl (by rfl) (hop_bin rfl rfl rfl ?_))
  | (refine hops_gp (v := ?vg5) rfl rfl (fun hgp => ?hv5) ?hh5; case hv5 => ((try simp only [hgp, if_true, ev, List.getD_cons_zero, List.getD_cons_succ]); refine hop_bin rfl rfl rfl ?_; rfl))
 try simp only [nfa, Nat.reduceAdd]
 refine hops_cons rfl (hop_pick rfl ?_)
 try simp only [nfa, Nat.reduceAdd]
 refine hops_nil ?_
 try simp only [nfa, Nat.reduceAdd]
 refine hc_T rfl (by first | rfl | assumption | (simp; done) | (simp; omega) | (simp [*]; done)) ?_
 refine hc_region ?_
 refine oF rfl ?_
 refine hops_cons rfl (hop_load rfl (by (repeat' first | assumption | exact hS | exact Hp.one_get _ _ | refine hT (by first | assumption | exact Ne.symm ‹_›) ?_)) (by first | rfl | assumption | exact mid_get0 rfl | exact mid_get rfl | (simp; done)) ?_)
 try simp only [nfa, Nat.reduceAdd]
 refine oM ?_
 refine hops_cons rfl (hop_call ?_)
 simp only [nfa, Nat.reduceAdd]
 refine HT.mono (ref_Around (k := pages) f2 hp) ?_
 rintro _ _ ⟨rfl, rfl⟩
 try simp only [nf, nf2]
 refine oF rfl ?_
 refine hops_cons rfl (hop_store rfl rfl (by first | rfl | assumption) (by (repeat' first | assumption | exact hS | exact Hp.one_get _ _ | refine hT (by first | assumption | exact Ne.symm ‹_›) ?_)) (by first | assumption | omega | (simp; done) | (simp; omega) | (simp [frc] <;> omega)) ?_)
 try simp only [nfa, Nat.reduceAdd]
 refine hops_nil ?_
 try simp only [nfa, Nat.reduceAdd]
 refine hc_seq ?_
 refine sR ?_
 refine oM ?_
 try simp only [nfa, Nat.reduceAdd]
 refine hops_cons rfl (hop_bin rfl rfl rfl ?_)
 try simp only [nfa, Nat.reduceAdd]
 refine oM ?_
 try simp only [nfa, Nat.reduceAdd]
 first
  | refine hops_off' rfl rfl (by rfl) ?_
  | refine hops_un rfl rfl ?_
  | (refine hops_on' rfl rfl (by rfl) (hop_move ?_))
  | (refine hops_gp (v := ?vg6) rfl rfl (fun hgp => ?hv6) ?hh6; case hv6 => ((try simp only [hgp, if_true, ev, List.getD_cons_zero, List.getD_cons_succ]); refine hop_move ?_; rfl))
 try simp only [nfa, Nat.reduceAdd]
 first
  | refine hops_off' rfl rfl (by rfl) ?_
  | refine hops_un rfl rfl ?_
  | (refine hops_on' rfl rfl (by rfl) (hop_bin rfl rfl rfl ?_))
  | (refine hops_gp (v := ?vg7) rfl rfl (fun hgp => ?hv7) ?hh7; case hv7 => ((try simp only [hgp, if_true, ev, List.getD_cons_zero, List.getD_cons_succ]); refine hop_bin rfl rfl rfl ?_; rfl))
 try simp only [nfa, Nat.reduceAdd]
 refine hops_cons rfl (hop_pick rfl ?_)
 try simp only [nfa, Nat.reduceAdd]
 refine hops_nil ?_
 try simp only [nfa, Nat.reduceAdd]
 refine hc_F rfl (by first | rfl | assumption | (simp; done) | (simp; omega) | (simp [*]; done)) ?_
 refine hc_skip ?_
 try simp only [nfa, Nat.reduceAdd]
 refine hc_seq ?_
 refine sR ?_
 refine oM ?_
 try simp only [nfa, Nat.reduceAdd]
 refine hops_cons rfl (hop_bin rfl rfl rfl ?_)
 try simp only [nfa, Nat.reduceAdd]
 refine hops_nil ?_
 try simp only [nfa, Nat.reduceAdd]
 refine hc_F rfl (by first | rfl | assumption | (simp; done) | (simp; omega) | (simp [*]; done)) ?_
 refine hc_skip ?_
 try simp only [nfa, Nat.reduceAdd]
 refine hc_seq ?_
 refine sR ?_
 refine oM ?_
 try simp only [nfa, Nat.reduceAdd]
 refine hops_cons rfl (hop_bin rfl rfl rfl ?_)
 try simp only [nfa, Nat.reduceAdd]
 refine hops_nil ?_
 try simp only [nfa, Nat.reduceAdd]
 refine hc_F rfl (by first | rfl | assumption | (simp; done) | (simp; omega) | (simp [*]; done)) ?_
 refine hc_skip ?_
 try simp only [nfa, Nat.reduceAdd]
 refine sR ?_
 refine hops_cons rfl (hop_loadA rfl (by (repeat' first | assumption | exact hS | exact Hp.one_get _ _ | refine hT (by first | assumption | exact Ne.symm ‹_›) ?_)) (by first | assumption | omega | (simp; done) | (simp; omega) | (simp [frc] <;> omega)) ?_)
 try simp only [nfa, Nat.reduceAdd]
 refine hops_cons rfl (hop_storeA rfl rfl (by rfl) (by first | assumption | (repeat' first | (intro _ h; cases h; done) | refine List.forall_mem_cons.2 ⟨by first | rfl | assumption, ?_⟩) | (simp [Value.oneCell']; done) | (simp [Value.oneCell', *]; done)) (by (repeat' first | assumption | exact hS | exact Hp.one_get _ _ | refine hT (by first | assumption | exact Ne.symm ‹_›) ?_)) (by first | assumption | omega | (simp; done) | (simp; omega) | (simp [frc] <;> omega)) (by decide) ?_)
 try simp only [nfa, Nat.reduceAdd]
 refine hops_nil ?_
 try simp only [nfa, Nat.reduceAdd]
 refine hc_ret ?_
 try simp only [hng, hthen, hblock]
 apply hend_1 rfl ?es (RV.cellW rfl (by (repeat' first | assumption | exact hS | exact Hp.one_get _ _ | refine hT (by first | assumption | exact Ne.symm ‹_›) ?_)) (by simp)) ?eR
 case eR =>
  first | exact ⟨rfl, rfl⟩ | (refine ⟨?_, rfl⟩; simp)
 case es => first | ((repeat' first | assumption | exact Sub.refl _ | refine Sub.over ?_ ‹_› _); done) | (intro _ _ h; simp only [Hp.set] at h ⊢; grind)
theorem Good_b {H : Hp} {op page off len o : Int} {pages : Nat} {da : Option Addr} {dc : Nat} {bs : List UInt8} (hd : dOk H (.slice da bs.length dc) bs) (ho : goodOp op = o) (f1 : fitsI op) (f2 : fitsI page) (f3 : fitsI off) (f4 : fitsI len) (hp : 0 < pages) (h6 : o = 6 ∨ o = 8) :
    HT prog 11 #[.agg #[.int .i64 op, .int .i64 page, .int .i64 off, .int .i64 len, .slice da bs.length dc], .int .i64 (pages : Int)] H (fun v H' => v = .agg #[.int .i64 o, .int .i64 0, .int .i64 0, .int .i64 0, .slice none 0 0] ∧ H = H') := by
 have hb : (o != 6 && o != 8) = false := by simp; omega
 have hb2 : (o == 2 || o == 3) = false := by simp; omega
 have h2 : o ≠ 2 := by omega
 have h3 : o ≠ 3 := by omega
 refine ht_of_body (args := [.agg #[.int .i64 op, .int .i64 page, .int .i64 off, .int .i64 len, .slice da bs.length dc], .int .i64 (pages : Int)]) func11 rfl ?_
 simp only [ntmps11, List.length_cons, List.length_nil, Nat.reduceAdd, Nat.reduceSub, List.replicate_succ, List.replicate_zero, List.cons_append, List.nil_append]
 refine sR ?_
 refine hops_cons rfl (hop_box rfl rfl ?_)
 intro b1 hb1
 have hb1' := hb1
 try simp only [Hp.set_none, Hp.del_none] at hb1'
 have hb1_n : H b1 = none := by first | exact hb1' | exact hb1'.2 | exact hb1'.2.2 | exact hb1'.2.2.2 | exact hb1'.2.2.2.2 | exact hb1'.2.2.2.2.2 | exact hb1'.2.2.2.2.2.2
 clear hb1'
 try simp only [nfa, Nat.reduceAdd]
 refine hops_cons rfl (hop_alloc (zl := [.int .i64 0, .int .i64 0, .int .i64 0, .int .i64 0, .slice none 0 0]) rfl ?_)
 intro b2 hb2
 have hb2' := hb2
 try simp only [Hp.set_none, Hp.del_none] at hb2'
 have hb2_n : H b2 = none := by first | exact hb2' | exact hb2'.2 | exact hb2'.2.2 | exact hb2'.2.2.2 | exact hb2'.2.2.2.2 | exact hb2'.2.2.2.2.2 | exact hb2'.2.2.2.2.2.2
 have hb2_b1 : b2 ≠ b1 := by first | exact hb2'.1 | exact hb2'.2.1 | exact hb2'.2.2.1 | exact hb2'.2.2.2.1 | exact hb2'.2.2.2.2.1 | exact hb2'.2.2.2.2.2.1
 clear hb2'
 try simp only [nfa, Nat.reduceAdd]
 refine hops_nil ?_
 try simp only [nfa, Nat.reduceAdd]
 refine sR ?_
 refine hops_cons rfl (hop_buildSlice (L := [.int .i64 1, .int .i64 1, .int .i64 1, .int .i64 2, .int .i64 2, .int .i64 3, .int .i64 3, .int .i64 3, .int .i64 4, .int .i64 4, .int .i64 5, .int .i64 6, .int .i64 7, .int .i64 8]) rfl (by decide) (by decide) rfl ?_)
 intro bs0 hbs0
 have hbs0' := hbs0
 try simp only [Hp.set_none, Hp.del_none] at hbs0'
 have hbs0_n : H bs0 = none := by first | exact hbs0' | exact hbs0'.2 | exact hbs0'.2.2 | exact hbs0'.2.2.2 | exact hbs0'.2.2.2.2 | exact hbs0'.2.2.2.2.2 | exact hbs0'.2.2.2.2.2.2
 have hbs0_b1 : bs0 ≠ b1 := by first | exact hbs0'.1 | exact hbs0'.2.1 | exact hbs0'.2.2.1 | exact hbs0'.2.2.2.1 | exact hbs0'.2.2.2.2.1 | exact hbs0'.2.2.2.2.2.1
 have hbs0_b2 : bs0 ≠ b2 := by first | exact hbs0'.1 | exact hbs0'.2.1 | exact hbs0'.2.2.1 | exact hbs0'.2.2.2.1 | exact hbs0'.2.2.2.2.1 | exact hbs0'.2.2.2.2.2.1
 clear hbs0'
 try simp only [nf, nf2]
 refine oF rfl ?_
 refine hops_cons rfl (hop_load rfl (by (repeat' first | assumption | exact hS | exact Hp.one_get _ _ | refine hT (by first | assumption | exact Ne.symm ‹_›) ?_)) (by first | rfl | assumption | exact mid_get0 rfl | exact mid_get rfl | (simp; done)) ?_)
 try simp only [nfa, Nat.reduceAdd]
 refine hops_cons rfl (hop_call ?_)
 simp only [nfa, Nat.reduceAdd]
 refine HT.mono (ref_Around (k := 14) f1 (by decide)) ?_
 rintro _ _ ⟨rfl, rfl⟩
 try simp only [nf, nf2]
 have hlt14 : arN op % 14 < 14 := Nat.mod_lt _ (by decide)
 refine hops_cons rfl (hop_indexAddr (i := ((arN op % 14 : Nat) : Int)) rfl rfl (by omega) (by omega) ?_)
 simp only [Int.toNat_natCast, Nat.mul_one, Nat.zero_add]
 try simp only [nf, nf2]
 refine hops_cons rfl (hop_load rfl (by (repeat' first | assumption | exact hS | exact Hp.one_get _ _ | refine hT (by first | assumption | exact Ne.symm ‹_›) ?_)) (by rw [goodOp_get, ho]) ?_)
 try simp only [nf, nf2]
 refine oA ?_
 try simp only [nfa, Nat.reduceAdd]
 refine hops_nil ?_
 try simp only [nfa, Nat.reduceAdd]
 refine sR ?_
 refine oM ?_
 try simp only [nfa, Nat.reduceAdd]
 refine hops_cons rfl (hop_build (by simp only [fillL, wr, Value.cells, List.map_cons, List.map_nil, nf, nf2]; rfl) ?_)
 try simp only [nfa, Nat.reduceAdd]
 refine hops_cons rfl (hop_alloc (zl := [.int .i64 0, .int .i64 0, .int .i64 0, .int .i64 0, .slice none 0 0]) rfl ?_)
 intro b3 hb3
 have hb3' := hb3
 try simp only [Hp.set_none, Hp.del_none] at hb3'
 have hb3_n : H b3 = none := by first | exact hb3' | exact hb3'.2 | exact hb3'.2.2 | exact hb3'.2.2.2 | exact hb3'.2.2.2.2 | exact hb3'.2.2.2.2.2 | exact hb3'.2.2.2.2.2.2
 have hb3_b1 : b3 ≠ b1 := by first | exact hb3'.1 | exact hb3'.2.1 | exact hb3'.2.2.1 | exact hb3'.2.2.2.1 | exact hb3'.2.2.2.2.1 | exact hb3'.2.2.2.2.2.1
 have hb3_b2 : b3 ≠ b2 := by first | exact hb3'.1 | exact hb3'.2.1 | exact hb3'.2.2.1 | exact hb3'.2.2.2.1 | exact hb3'.2.2.2.2.1 | exact hb3'.2.2.2.2.2.1
 have hb3_bs0 : b3 ≠ bs0 := by first | exact hb3'.1 | exact hb3'.2.1 | exact hb3'.2.2.1 | exact hb3'.2.2.2.1 | exact hb3'.2.2.2.2.1 | exact hb3'.2.2.2.2.2.1
 clear hb3'
 try simp only [nfa, Nat.reduceAdd]
 refine hops_cons rfl (hop_storeA rfl rfl (by rfl) (by first | assumption | (repeat' first | (intro _ h; cases h; done) | refine List.forall_mem_cons.2 ⟨by first | rfl | assumption, ?_⟩) | (simp [Value.oneCell']; done) | (simp [Value.oneCell', *]; done)) (by (repeat' first | assumption | exact hS | exact Hp.one_get _ _ | refine hT (by first | assumption | exact Ne.symm ‹_›) ?_)) (by first | assumption | omega | (simp; done) | (simp; omega) | (simp [frc] <;> omega)) (by decide) ?_)
 try simp only [nfa, Nat.reduceAdd]
 refine hops_nil ?_
 try simp only [nfa, Nat.reduceAdd]
 refine hc_seq ?_
 refine sR ?_
 refine oM ?_
 try simp only [nfa, Nat.reduceAdd]
 refine hops_cons rfl (hop_bin rfl rfl rfl ?_)
 try simp only [nfa, Nat.reduceAdd]
 refine oM ?_
 try simp only [nfa, Nat.reduceAdd]
 first
  | refine hops_off' rfl rfl (by rfl) ?_
  | refine hops_un rfl rfl ?_
  | (refine hops_on' rfl rfl (by rfl) (hop_move ?_))
  | (refine hops_gp (v := ?vg4) rfl rfl (fun hgp => ?hv4) ?hh4; case hv4 => ((try simp only [hgp, if_true, ev, List.getD_cons_zero, List.getD_cons_succ]); refine hop_move ?_; rfl))
 try simp only [nfa, Nat.reduceAdd]
 first
  | refine hops_off' rfl rfl (by rfl) ?_
  | refine hops_un rfl rfl ?_
  | (refine hops_on' rfl rfl (by rfl) (hop_bin rfl rfl rfl ?_))
  | (refine hops_gp (v := ?vg5) rfl rfl (fun hgp => ?hv5) ?hh5; case hv5 => ((try simp only [hgp, if_true, ev, List.getD_cons_zero, List.getD_cons_succ]); refine hop_bin rfl rfl rfl ?_; rfl))
 try simp only [nfa, Nat.reduceAdd]
 refine hops_cons rfl (hop_pick rfl ?_)
 try simp only [nfa, Nat.reduceAdd]
 refine hops_nil ?_
 try simp only [nfa, Nat.reduceAdd]
 refine hc_F rfl (by first | rfl | assumption | (simp; done) | (simp; omega) | (simp [*]; done)) ?_
 refine hc_skip ?_
 try simp only [nfa, Nat.reduceAdd]
 refine hc_seq ?_
 refine sR ?_
 refine oM ?_
 try simp only [nfa, Nat.reduceAdd]
 refine hops_cons rfl (hop_bin rfl rfl rfl ?_)
 try simp only [nfa, Nat.reduceAdd]
 refine oM ?_
 try simp only [nfa, Nat.reduceAdd]
 first
  | refine hops_off' rfl rfl (by rfl) ?_
  | refine hops_un rfl rfl ?_
  | (refine hops_on' rfl rfl (by rfl) (hop_move ?_))
  | (refine hops_gp (v := ?vg6) rfl rfl (fun hgp => ?hv6) ?hh6; case hv6 => ((try simp only [hgp, if_true, ev, List.getD_cons_zero, List.getD_cons_succ]); refine hop_move ?_; rfl))
 try simp only [nfa, Nat.reduceAdd]
 first
  | refine hops_off' rfl rfl (by rfl) ?_
  | refine hops_un rfl rfl ?_
  | (refine hops_on' rfl rfl (by rfl) (hop_bin rfl rfl rfl ?_))
  | (refine hops_gp (v := ?vg7) rfl rfl (fun hgp => ?hv7) ?hh7; case hv7 => ((try simp only [hgp, if_true, ev, List.getD_cons_zero, List.getD_cons_succ]); refine hop_bin rfl rfl rfl ?_; rfl))
 try simp only [nfa, Nat.reduceAdd]
 refine hops_cons rfl (hop_pick rfl ?_)
 try simp only [nfa, Nat.reduceAdd]
 refine hops_nil ?_
 try simp only [nfa, Nat.reduceAdd]
 refine hc_F rfl (by first | rfl | assumption | (simp; done) | (simp; omega) | (simp [*]; done)) ?_
 refine hc_skip ?_
 try simp only [nfa, Nat.reduceAdd]
 refine hc_seq ?_
 refine sR ?_
 refine oM ?_
 try simp only [nfa, Nat.reduceAdd]
 refine hops_cons rfl (hop_bin rfl rfl rfl ?_)
 try simp only [nfa, Nat.reduceAdd]
 refine hops_nil ?_
 try simp only [nfa, Nat.reduceAdd]
 refine hc_F rfl (by first | rfl | assumption | (simp; done) | (simp; omega) | (simp [*]; done)) ?_
 refine hc_skip ?_
 try simp only [nfa, Nat.reduceAdd]
 refine hc_seq ?_
 refine sR ?_
 refine oM ?_
 try simp only [nfa, Nat.reduceAdd]
 refine hops_cons rfl (hop_bin rfl rfl rfl ?_)
 try simp only [nfa, Nat.reduceAdd]
 refine hops_nil ?_
 try simp only [nfa, Nat.reduceAdd]
 refine hc_F rfl (by first | rfl | assumption | (simp; done) | (simp; omega) | (simp [*]; done)) ?_
 refine hc_skip ?_
 try simp only [nfa, Nat.reduceAdd]
 refine sR ?_
 refine hops_cons rfl (hop_loadA rfl (by (repeat' first | assumption | exact hS | exact Hp.one_get _ _ | refine hT (by first | assumption | exact Ne.symm ‹_›) ?_)) (by first | assumption | omega | (simp; done) | (simp; omega) | (simp [frc] <;> omega)) ?_)
 try simp only [nfa, Nat.reduceAdd]
 refine hops_cons rfl (hop_storeA rfl rfl (by rfl) (by first | assumption | (repeat' first | (intro _ h; cases h; done) | refine List.forall_mem_cons.2 ⟨by first | rfl | assumption, ?_⟩) | (simp [Value.oneCell']; done) | (simp [Value.oneCell', *]; done)) (by (repeat' first | assumption | exact hS | exact Hp.one_get _ _ | refine hT (by first | assumption | exact Ne.symm ‹_›) ?_)) (by first | assumption | omega | (simp; done) | (simp; omega) | (simp [frc] <;> omega)) (by decide) ?_)
 try simp only [nfa, Nat.reduceAdd]
 refine hops_nil ?_
 try simp only [nfa, Nat.reduceAdd]
 refine hc_ret ?_
 try simp only [hng, hthen, hblock]
 apply hend_1 rfl ?es (RV.cellW rfl (by (repeat' first | assumption | exact hS | exact Hp.one_get _ _ | refine hT (by first | assumption | exact Ne.symm ‹_›) ?_)) (by simp)) ?eR
 case eR =>
  first | exact ⟨rfl, rfl⟩ | (refine ⟨?_, rfl⟩; simp)
 case es => first | ((repeat' first | assumption | exact Sub.refl _ | refine Sub.over ?_ ‹_› _); done) | (intro _ _ h; simp only [Hp.set] at h ⊢; grind)
theorem Good_2 {H : Hp} {op page off len o : Int} {pages : Nat} {da : Option Addr} {dc : Nat} {bs : List UInt8} (hd : dOk H (.slice da bs.length dc) bs) (ho : goodOp op = o) (f1 : fitsI op) (f2 : fitsI page) (f3 : fitsI off) (f4 : fitsI len) (hp : 0 < pages) (h2 : o = 2) :
    HT prog 11 #[.agg #[.int .i64 op, .int .i64 page, .int .i64 off, .int .i64 len, .slice da bs.length dc], .int .i64 (pages : Int)] H (fun v H' => v = .agg #[.int .i64 o, .int .i64 ((arN page % pages : Nat) : Int), .int .i64 ((arN off % 33 : Nat) : Int), .int .i64 ((arN len % (33 - arN off % 33) : Nat) : Int), .slice none 0 0] ∧ H = H') := by
 have hb : (o != 6 && o != 8) = true := by simp [h2]
 have hb2 : (o == 2 || o == 3) = true := by simp [h2]
 have h33 : arN off % 33 < 33 := Nat.mod_lt _ (by decide)
 refine ht_of_body (args := [.agg #[.int .i64 op, .int .i64 page, .int .i64 off, .int .i64 len, .slice da bs.length dc], .int .i64 (pages : Int)]) func11 rfl ?_
 simp only [ntmps11, List.length_cons, List.length_nil, Nat.reduceAdd, Nat.reduceSub, List.replicate_succ, List.replicate_zero, List.cons_append, List.nil_append]
 refine sR ?_
 refine hops_cons rfl (hop_box rfl rfl ?_)
 intro b1 hb1
 have hb1' := hb1
 try simp only [Hp.set_none, Hp.del_none] at hb1'
 have hb1_n : H b1 = none := by first | exact hb1' | exact hb1'.2 | exact hb1'.2.2 | exact hb1'.2.2.2 | exact hb1'.2.2.2.2 | exact hb1'.2.2.2.2.2 | exact hb1'.2.2.2.2.2.2
 clear hb1'
 try simp only [nfa, Nat.reduceAdd]
 refine hops_cons rfl (hop_alloc (zl := [.int .i64 0, .int .i64 0, .int .i64 0, .int .i64 0, .slice none 0 0]) rfl ?_)
 intro b2 hb2
 have hb2' := hb2
 try simp only [Hp.set_none, Hp.del_none] at hb2'
 have hb2_n : H b2 = none := by first | exact hb2' | exact hb2'.2 | exact hb2'.2.2 | exact hb2'.2.2.2 | exact hb2'.2.2.2.2 | exact hb2'.2.2.2.2.2 | exact hb2'.2.2.2.2.2.2
 have hb2_b1 : b2 ≠ b1 := by first | exact hb2'.1 | exact hb2'.2.1 | exact hb2'.2.2.1 | exact hb2'.2.2.2.1 | exact hb2'.2.2.2.2.1 | exact hb2'.2.2.2.2.2.1
 clear hb2'
 try simp only [nfa, Nat.reduceAdd]
 refine hops_nil ?_
 try simp only [nfa, Nat.reduceAdd]
 refine sR ?_
 refine hops_cons rfl (hop_buildSlice (L := [.int .i64 1, .int .i64 1, .int .i64 1, .int .i64 2, .int .i64 2, .int .i64 3, .int .i64 3, .int .i64 3, .int .i64 4, .int .i64 4, .int .i64 5, .int .i64 6, .int .i64 7, .int .i64 8]) rfl (by decide) (by decide) rfl ?_)
 intro bs0 hbs0
 have hbs0' := hbs0
 try simp only [Hp.set_none, Hp.del_none] at hbs0'
 have hbs0_n : H bs0 = none := by first | exact hbs0' | exact hbs0'.2 | exact hbs0'.2.2 | exact hbs0'.2.2.2 | exact hbs0'.2.2.2.2 | exact hbs0'.2.2.2.2.2 | exact hbs0'.2.2.2.2.2.2
 have hbs0_b1 : bs0 ≠ b1 := by first | exact hbs0'.1 | exact hbs0'.2.1 | exact hbs0'.2.2.1 | exact hbs0'.2.2.2.1 | exact hbs0'.2.2.2.2.1 | exact hbs0'.2.2.2.2.2.1
 have hbs0_b2 : bs0 ≠ b2 := by first | exact hbs0'.1 | exact hbs0'.2.1 | exact hbs0'.2.2.1 | exact hbs0'.2.2.2.1 | exact hbs0'.2.2.2.2.1 | exact hbs0'.2.2.2.2.2.1
 clear hbs0'
 try simp only [nf, nf2]
 refine oF rfl ?_
 refine hops_cons rfl (hop_load rfl (by (repeat' first | assumption | exact hS | exact Hp.one_get _ _ | refine hT (by first | assumption | exact Ne.symm ‹_›) ?_)) (by first | rfl | assumption | exact mid_get0 rfl | exact mid_get rfl | (simp; done)) ?_)
 try simp only [nfa, Nat.reduceAdd]
 refine hops_cons rfl (hop_call ?_)
 simp only [nfa, Nat.reduceAdd]
 refine HT.mono (ref_Around (k := 14) f1 (by decide)) ?_
 rintro _ _ ⟨rfl, rfl⟩
 try simp only [nf, nf2]
 have hlt14 : arN op % 14 < 14 := Nat.mod_lt _ (by decide)
 refine hops_cons rfl (hop_indexAddr (i := ((arN op % 14 : Nat) : Int)) rfl rfl (by omega) (by omega) ?_)
 simp only [Int.toNat_natCast, Nat.mul_one, Nat.zero_add]
 try simp only [nf, nf2]
 refine hops_cons rfl (hop_load rfl (by (repeat' first | assumption | exact hS | exact Hp.one_get _ _ | refine hT (by first | assumption | exact Ne.symm ‹_›) ?_)) (by rw [goodOp_get, ho]) ?_)
 try simp only [nf, nf2]
 refine oA ?_
 try simp only [nfa, Nat.reduceAdd]
 refine hops_nil ?_
 try simp only [nfa, Nat.reduceAdd]
 refine sR ?_
 refine oM ?_
 try simp only [nfa, Nat.reduceAdd]
 refine hops_cons rfl (hop_build (by simp only [fillL, wr, Value.cells, List.map_cons, List.map_nil, nf, nf2]; rfl) ?_)
 try simp only [nfa, Nat.reduceAdd]
 refine hops_cons rfl (hop_alloc (zl := [.int .i64 0, .int .i64 0, .int .i64 0, .int .i64 0, .slice none 0 0]) rfl ?_)
 intro b3 hb3
 have hb3' := hb3
 try simp only [Hp.set_none, Hp.del_none] at hb3'
 have hb3_n : H b3 = none := by first | exact hb3' | exact hb3'.2 | exact hb3'.2.2 | exact hb3'.2.2.2 | exact hb3'.2.2.2.2 | exact hb3'.2.2.2.2.2 | exact hb3'.2.2.2.2.2.2
 have hb3_b1 : b3 ≠ b1 := by first | exact hb3'.1 | exact hb3'.2.1 | exact hb3'.2.2.1 | exact hb3'.2.2.2.1 | exact hb3'.2.2.2.2.1 | exact hb3'.2.2.2.2.2.1
 have hb3_b2 : b3 ≠ b2 := by first | exact hb3'.1 | exact hb3'.2.1 | exact hb3'.2.2.1 | exact hb3'.2.2.2.1 | exact hb3'.2.2.2.2.1 | exact hb3'.2.2.2.2.2.1
 have hb3_bs0 : b3 ≠ bs0 := by first | exact hb3'.1 | exact hb3'.2.1 | exact hb3'.2.2.1 | exact hb3'.2.2.2.1 | exact hb3'.2.2.2.2.1 | exact hb3'.2.2.2.2.2.1
 clear hb3'
 try simp only [nfa, Nat.reduceAdd]
 refine hops_cons rfl (hop_storeA rfl rfl (by rfl) (by first | assumption | (repeat' first | (intro _ h; cases h; done) | refine List.forall_mem_cons.2 ⟨by first | rfl | assumption, ?_⟩) | (simp [Value.oneCell']; done) | (simp [Value.oneCell', *]; done)) (by (repeat' first | assumption | exact hS | exact Hp.one_get _ _ | refine hT (by first | assumption | exact Ne.symm ‹_›) ?_)) (by first | assumption | omega | (simp; done) | (simp; omega) | (simp [frc] <;> omega)) (by decide) ?_)
 try simp only [nfa, Nat.reduceAdd]
 refine hops_nil ?_
 try simp only [nfa, Nat.reduceAdd]
 refine hc_seq ?_
 refine sR ?_
 refine oM ?_
 try simp only [nfa, Nat.reduceAdd]
 refine hops_cons rfl (hop_bin rfl rfl rfl ?_)
 try simp only [nfa, Nat.reduceAdd]
 refine oM ?_
 try simp only [nfa, Nat.reduceAdd]
 first
  | refine hops_off' rfl rfl (by rfl) ?_
  | refine hops_un rfl rfl ?_
  | (refine hops_on' rfl rfl (by rfl) (hop_move ?_))
  | (refine hops_gp (v := ?vg4) rfl rfl (fun hgp => ?hv4) ?hh4; case hv4 => ((try simp only [hgp, if_true, ev, List.getD_cons_zero, List.getD_cons_succ]); refine hop_move ?_; rfl))
 try simp only [nfa, Nat.reduceAdd]
 first
  | refine hops_off' rfl rfl (by rfl) ?_
  | refine hops_un rfl rfl ?_
  | (refine hops_on' rfl rfl (by rfl) (hop_bin rfl rfl rfl ?_))
  | (refine hops_gp (v := ?vg5) rfl rfl (fun hgp => ?hv5) ?hh5; case hv5 => ((try simp only [hgp, if_true, ev, List.getD_cons_zero, List.getD_cons_succ]); refine hop_bin rfl rfl rfl ?_; rfl))
 try simp only [nfa, Nat.reduceAdd]
 refine hops_cons rfl (hop_pick rfl ?_)
 try simp only [nfa, Nat.reduceAdd]
 refine hops_nil ?_
 try simp only [nfa, Nat.reduceAdd]
 refine hc_T rfl (by first | rfl | assumption | (simp; done) | (simp; omega) | (simp [*]; done)) ?_
 refine hc_region ?_
 refine oF rfl ?_
 refine hops_cons rfl (hop_load rfl (by (repeat' first | assumption | exact hS | exact Hp.one_get _ _ | refine hT (by first | assumption | exact Ne.symm ‹_›) ?_)) (by first | rfl | assumption | exact mid_get0 rfl | exact mid_get rfl | (simp; done)) ?_)
 try simp only [nfa, Nat.reduceAdd]
 refine oM ?_
 refine hops_cons rfl (hop_call ?_)
 simp only [nfa, Nat.reduceAdd]
 refine HT.mono (ref_Around (k := pages) f2 hp) ?_
 rintro _ _ ⟨rfl, rfl⟩
 try simp only [nf, nf2]
 refine oF rfl ?_
 refine hops_cons rfl (hop_store rfl rfl (by first | rfl | assumption) (by (repeat' first | assumption | exact hS | exact Hp.one_get _ _ | refine hT (by first | assumption | exact Ne.symm ‹_›) ?_)) (by first | assumption | omega | (simp; done) | (simp; omega) | (simp [frc] <;> omega)) ?_)
 try simp only [nfa, Nat.reduceAdd]
 refine hops_nil ?_
 try simp only [nfa, Nat.reduceAdd]
 refine hc_seq ?_
 refine sR ?_
 refine oM ?_
 try simp only [nfa, Nat.reduceAdd]
 refine hops_cons rfl (hop_bin rfl rfl rfl ?_)
 try simp only [nfa, Nat.reduceAdd]
 refine oM ?_
 try simp only [nfa, Nat.reduceAdd]
 first
  | refine hops_off' rfl rfl (by rfl) ?_
  | refine hops_un rfl rfl ?_
  | (refine hops_on' rfl rfl (by rfl) (hop_move ?_))
  | (refine hops_gp (v := ?vg6) rfl rfl (fun hgp => ?hv6) ?hh6; case hv6 => ((try simp only [hgp, if_true, ev, List.getD_cons_zero, List.getD_cons_succ]); refine hop_move ?_; rfl))
 try simp only [nfa, Nat.reduceAdd]
 first
  | refine hops_off' rfl rfl (by rfl) ?_
  | refine hops_un rfl rfl ?_
  | (refine hops_on' rfl rfl (by rfl) (hop_bin rfl rfl rfl ?_))
  | (refine hops_gp (v := ?vg7) rfl rfl (fun hgp => ?hv7) ?hh7; case hv7 => ((try simp only [hgp, if_true, ev, List.getD_cons_zero, List.getD_cons_succ]); refine hop_bin rfl rfl rfl ?_; rfl))
 try simp only [nfa, Nat.reduceAdd]
 refine hops_cons rfl (hop_pick rfl ?_)
 try simp only [nfa, Nat.reduceAdd]
 refine hops_nil ?_
 try simp only [nfa, Nat.reduceAdd]
 refine hc_T rfl (by first | rfl | assumption | (simp; done) | (simp; omega) | (simp [*]; done)) ?_
 refine hc_region ?_
 refine oF rfl ?_
 refine hops_cons rfl (hop_load rfl (by (repeat' first | assumption | exact hS | exact Hp.one_get _ _ | refine hT (by first | assumption | exact Ne.symm ‹_›) ?_)) (by first | rfl | assumption | exact mid_get0 rfl | exact mid_get rfl | (simp; done)) ?_)
 try simp only [nfa, Nat.reduceAdd]
 refine hops_cons rfl (hop_call ?_)
 simp only [nfa, Nat.reduceAdd]
 refine HT.mono (ref_Around (k := 33) f3 (by decide)) ?_
 rintro _ _ ⟨rfl, rfl⟩
 try simp only [nf, nf2]
 refine oF rfl ?_
 refine hops_cons rfl (hop_store rfl rfl (by first | rfl | assumption) (by (repeat' first | assumption | exact hS | exact Hp.one_get _ _ | refine hT (by first | assumption | exact Ne.symm ‹_›) ?_)) (by first | assumption | omega | (simp; done) | (simp; omega) | (simp [frc] <;> omega)) ?_)
 try simp only [nfa, Nat.reduceAdd]
 refine hops_nil ?_
 try simp only [nfa, Nat.reduceAdd]
 refine hc_seq ?_
 refine sR ?_
 refine oM ?_
 try simp only [nfa, Nat.reduceAdd]
 refine hops_cons rfl (hop_bin rfl rfl rfl ?_)
 try simp only [nfa, Nat.reduceAdd]
 refine hops_nil ?_
 try simp only [nfa, Nat.reduceAdd]
 refine hc_T rfl (by first | rfl | assumption | (simp; done) | (simp; omega) | (simp [*]; done)) ?_
 refine hc_region ?_
 refine oF rfl ?_
 refine hops_cons rfl (hop_load rfl (by (repeat' first | assumption | exact hS | exact Hp.one_get _ _ | refine hT (by first | assumption | exact Ne.symm ‹_›) ?_)) (by first | rfl | assumption | exact mid_get0 rfl | exact mid_get rfl | (simp; done)) ?_)
 try simp only [nfa, Nat.reduceAdd]
 refine oF rfl ?_
 refine hops_cons rfl (hop_load rfl (by (repeat' first | assumption | exact hS | exact Hp.one_get _ _ | refine hT (by first | assumption | exact Ne.symm ‹_›) ?_)) (by first | rfl | assumption | exact mid_get0 rfl | exact mid_get rfl | (simp; done)) ?_)
 try simp only [nfa, Nat.reduceAdd]
 refine hops_cons rfl (hop_sub rfl rfl (by omega) ?_)
 try simp only [nfa, Nat.reduceAdd]
 refine hops_cons rfl (hop_call ?_)
 simp only [nfa, Nat.reduceAdd]
 have h33 : arN off % 33 < 33 := Nat.mod_lt _ (by decide)
 rw [show (33 : Int) - ((arN off % 33 : Nat) : Int) = ((33 - arN off % 33 : Nat) : Int) by omega]
 refine HT.mono (ref_Around (k := 33 - arN off % 33) f4 (by omega)) ?_
 rintro _ _ ⟨rfl, rfl⟩
 try simp only [nf, nf2]
 refine oF rfl ?_
 refine hops_cons rfl (hop_store rfl rfl (by first | rfl | assumption) (by (repeat' first | assumption | exact hS | exact Hp.one_get _ _ | refine hT (by first | assumption | exact Ne.symm ‹_›) ?_)) (by first | assumption | omega | (simp; done) | (simp; omega) | (simp [frc] <;> omega)) ?_)
 try simp only [nfa, Nat.reduceAdd]
 refine hops_nil ?_
 try simp only [nfa, Nat.reduceAdd]
 refine hc_seq ?_
 refine sR ?_
 refine oM ?_
 try simp only [nfa, Nat.reduceAdd]
 refine hops_cons rfl (hop_bin rfl rfl rfl ?_)
 try simp only [nfa, Nat.reduceAdd]
 refine hops_nil ?_
 try simp only [nfa, Nat.reduceAdd]
 refine hc_F rfl (by first | rfl | assumption | (simp; done) | (simp; omega) | (simp [*]; done)) ?_
 refine hc_skip ?_
 try simp only [nfa, Nat.reduceAdd]
 refine sR ?_
 refine hops_cons rfl (hop_loadA rfl (by (repeat' first | assumption | exact hS | exact Hp.one_get _ _ | refine hT (by first | assumption | exact Ne.symm ‹_›) ?_)) (by first | assumption | omega | (simp; done) | (simp; omega) | (simp [frc] <;> omega)) ?_)
 try simp only [nfa, Nat.reduceAdd]
 refine hops_cons rfl (hop_storeA rfl rfl (by rfl) (by first | assumption | (repeat' first | (intro _ h; cases h; done) | refine List.forall_mem_cons.2 ⟨by first | rfl | assumption, ?_⟩) | (simp [Value.oneCell']; done) | (simp [Value.oneCell', *]; done)) (by (repeat' first | assumption | exact hS | exact Hp.one_get _ _ | refine hT (by first | assumption | exact Ne.symm ‹_›) ?_)) (by first | assumption | omega | (simp; done) | (simp; omega) | (simp [frc] <;> omega)) (by decide) ?_)
 try simp only [nfa, Nat.reduceAdd]
 refine hops_nil ?_
 try simp only [nfa, Nat.reduceAdd]
 refine hc_ret ?_
 try simp only [hng, hthen, hblock]
 apply hend_1 rfl ?es (RV.cellW rfl (by (repeat' first | assumption | exact hS | exact Hp.one_get _ _ | refine hT (by first | assumption | exact Ne.symm ‹_›) ?_)) (by simp)) ?eR
 case eR =>
  first | exact ⟨rfl, rfl⟩ | (refine ⟨?_, rfl⟩; simp)
 case es => first | ((repeat' first | assumption | exact Sub.refl _ | refine Sub.over ?_ ‹_› _); done) | (intro _ _ h; simp only [Hp.set] at h ⊢; grind)
theorem Good_3 {H : Hp} {op page off len o : Int} {pages : Nat} {da : Option Addr} {dc : Nat} {bs : List UInt8} (hd : dOk H (.slice da bs.length dc) bs) (ho : goodOp op = o) (f1 : fitsI op) (f2 : fitsI page) (f3 : fitsI off) (f4 : fitsI len) (hp : 0 < pages) (h3 : o = 3) :
    HT prog 11 #[.agg #[.int .i64 op, .int .i64 page, .int .i64 off, .int .i64 len, .slice da bs.length dc], .int .i64 (pages : Int)] H (fun v H' => ∃ dv Hn, v = .agg #[.int .i64 o, .int .i64 ((arN page % pages : Nat) : Int), .int .i64 ((arN off % 33 : Nat) : Int), .int .i64 0, dv] ∧ dOkU Hn dv ((fillB bs (arN len % 33)).take (32 - arN off % 33)) ∧ Sub Hn H' ∧ Disj Hn H ∧ Sub H H') := by
 have hb : (o != 6 && o != 8) = true := by simp [h3]
 have hb2 : (o == 2 || o == 3) = true := by simp [h3]
 have h33 : arN off % 33 < 33 := Nat.mod_lt _ (by decide)
 have h2 : o ≠ 2 := by omega
 refine ht_of_body (args := [.agg #[.int .i64 op, .int .i64 page, .int .i64 off, .int .i64 len, .slice da bs.length dc], .int .i64 (pages : Int)]) func11 rfl ?_
 simp only [ntmps11, List.length_cons, List.length_nil, Nat.reduceAdd, Nat.reduceSub, List.replicate_succ, List.replicate_zero, List.cons_append, List.nil_append]
 refine sR ?_
 refine hops_cons rfl (hop_box rfl rfl ?_)
 intro b1 hb1
 have hb1' := hb1
 try simp only [Hp.set_none, Hp.del_none] at hb1'
 have hb1_n : H b1 = none := by first | exact hb1' | exact hb1'.2 | exact hb1'.2.2 | exact hb1'.2.2.2 | exact hb1'.2.2.2.2 | exact hb1'.2.2.2.2.2 | exact hb1'.2.2.2.2.2.2
 clear hb1'
 try simp only [nfa, Nat.reduceAdd]
 refine hops_cons rfl (hop_alloc (zl := [.int .i64 0, .int .i64 0, .int .i64 0, .int .i64 0, .slice none 0 0]) rfl ?_)
 intro b2 hb2
 have hb2' := hb2
 try simp only [Hp.set_none, Hp.del_none] at hb2'
 have hb2_n : H b2 = none := by first | exact hb2' | exact hb2'.2 | exact hb2'.2.2 | exact hb2'.2.2.2 | exact hb2'.2.2.2.2 | exact hb2'.2.2.2.2.2 | exact hb2'.2.2.2.2.2.2
 have hb2_b1 : b2 ≠ b1 := by first | exact hb2'.1 | exact hb2'.2.1 | exact hb2'.2.2.1 | exact hb2'.2.2.2.1 | exact hb2'.2.2.2.2.1 | exact hb2'.2.2.2.2.2.1
 clear hb2'
 try simp only [nfa, Nat.reduceAdd]
 refine hops_nil ?_
 try simp only [nfa, Nat.reduceAdd]
 refine sR ?_
 refine hops_cons rfl (hop_buildSlice (L := [.int .i64 1, .int .i64 1, .int .i64 1, .int .i64 2, .int .i64 2, .int .i64 3, .int .i64 3, .int .i64 3, .int .i64 4, .int .i64 4, .int .i64 5, .int .i64 6, .int .i64 7, .int .i64 8]) rfl (by decide) (by decide) rfl ?_)
 intro bs0 hbs0
 have hbs0' := hbs0
 try simp only [Hp.set_none, Hp.del_none] at hbs0'
 have hbs0_n : H bs0 = none := by first | exact hbs0' | exact hbs0'.2 | exact hbs0'.2.2 | exact hbs0'.2.2.2 | exact hbs0'.2.2.2.2 | exact hbs0'.2.2.2.2.2 | exact hbs0'.2.2.2.2.2.2
 have hbs0_b1 : bs0 ≠ b1 := by first | exact hbs0'.1 | exact hbs0'.2.1 | exact hbs0'.2.2.1 | exact hbs0'.2.2.2.1 | exact hbs0'.2.2.2.2.1 | exact hbs0'.2.2.2.2.2.1
 have hbs0_b2 : bs0 ≠ b2 := by first | exact hbs0'.1 | exact hbs0'.2.1 | exact hbs0'.2.2.1 | exact hbs0'.2.2.2.1 | exact hbs0'.2.2.2.2.1 | exact hbs0'.2.2.2.2.2.1
 clear hbs0'
 try simp only [nf, nf2]
 refine oF rfl ?_
 refine hops_cons rfl (hop_load rfl (by (repeat' first | assumption | exact hS | exact Hp.one_get _ _ | refine hT (by first | assumption | exact Ne.symm ‹_›) ?_)) (by first | rfl | assumption | exact mid_get0 rfl | exact mid_get rfl | (simp; done)) ?_)
 try simp only [nfa, Nat.reduceAdd]
 refine hops_cons rfl (hop_call ?_)
 simp only [nfa, Nat.reduceAdd]
 refine HT.mono (ref_Around (k := 14) f1 (by decide)) ?_
 rintro _ _ ⟨rfl, rfl⟩
 try simp only [nf, nf2]
 have hlt14 : arN op % 14 < 14 := Nat.mod_lt _ (by decide)
 refine hops_cons rfl (hop_indexAddr (i := ((arN op % 14 : Nat) : Int)) rfl rfl (by omega) (by omega) ?_)
 simp only [Int.toNat_natCast, Nat.mul_one, Nat.zero_add]
 try simp only [nf, nf2]
 refine hops_cons rfl (hop_load rfl (by (repeat' first | assumption | exact hS | exact Hp.one_get _ _ | refine hT (by first | assumption | exact Ne.symm ‹_›) ?_)) (by rw [goodOp_get, ho]) ?_)
 try simp only [nf, nf2]
 refine oA ?_
 try simp only [nfa, Nat.reduceAdd]
 refine hops_nil ?_
 try simp only [nfa, Nat.reduceAdd]
 refine sR ?_
 refine oM ?_
 try simp only [nfa, Nat.reduceAdd]
 refine hops_cons rfl (hop_build (by simp only [fillL, wr, Value.cells, List.map_cons, List.map_nil, nf, nf2]; rfl) ?_)
 try simp only [nfa, Nat.reduceAdd]
 refine hops_cons rfl (hop_alloc (zl := [.int .i64 0, .int .i64 0, .int .i64 0, .int .i64 0, .slice none 0 0]) rfl ?_)
 intro b3 hb3
 have hb3' := hb3
 try simp only [Hp.set_none, Hp.del_none] at hb3'
 have hb3_n : H b3 = none := by first | exact hb3' | exact hb3'.2 | exact hb3'.2.2 | exact hb3'.2.2.2 | exact hb3'.2.2.2.2 | exact hb3'.2.2.2.2.2 | exact hb3'.2.2.2.2.2.2
 have hb3_b1 : b3 ≠ b1 := by first | exact hb3'.1 | exact hb3'.2.1 | exact hb3'.2.2.1 | exact hb3'.2.2.2.1 | exact hb3'.2.2.2.2.1 | exact hb3'.2.2.2.2.2.1
 have hb3_b2 : b3 ≠ b2 := by first | exact hb3'.1 | exact hb3'.2.1 | exact hb3'.2.2.1 | exact hb3'.2.2.2.1 | exact hb3'.2.2.2.2.1 | exact hb3'.2.2.2.2.2.1
 have hb3_bs0 : b3 ≠ bs0 := by first | exact hb3'.1 | exact hb3'.2.1 | exact hb3'.2.2.1 | exact hb3'.2.2.2.1 | exact hb3'.2.2.2.2.1 | exact hb3'.2.2.2.2.2.1
 clear hb3'
 try simp only [nfa, Nat.reduceAdd]
 refine hops_cons rfl (hop_storeA rfl rfl (by rfl) (by first | assumption | (repeat' first | (intro _ h; cases h; done) | refine List.forall_mem_cons.2 ⟨by first | rfl | assumption, ?_⟩) | (simp [Value.oneCell']; done) | (simp [Value.oneCell', *]; done)) (by (repeat' first | assumption | exact hS | exact Hp.one_get _ _ | refine hT (by first | assumption | exact Ne.symm ‹_›) ?_)) (by first | assumption | omega | (simp; done) | (simp; omega) | (simp [frc] <;> omega)) (by decide) ?_)
 try simp only [nfa, Nat.reduceAdd]
 refine hops_nil ?_
 try simp only [nfa, Nat.reduceAdd]
 refine hc_seq ?_
 refine sR ?_
 refine oM ?_
 try simp only [nfa, Nat.reduceAdd]
 refine hops_cons rfl (hop_bin rfl rfl rfl ?_)
 try simp only [nfa, Nat.reduceAdd]
 refine oM ?_
 try simp only [nfa, Nat.reduceAdd]
 first
  | refine hops_off' rfl rfl (by rfl) ?_
  | refine hops_un rfl rfl ?_
  | (refine hops_on' rfl rfl (by rfl) (hop_move ?_))
  | (refine hops_gp (v := ?vg4) rfl rfl (fun hgp => ?hv4) ?hh4; case hv4 => ((try simp only [hgp, if_true, ev, List.getD_cons_zero, List.getD_cons_succ]); refine hop_move ?_; rfl))
 try simp only [nfa, Nat.reduceAdd]
 first
  | refine hops_off' rfl rfl (by rfl) ?_
  | refine hops_un rfl rfl ?_
  | (refine hops_on' rfl rfl (by rfl) (hop_bin rfl rfl rfl ?_))
  | (refine hops_gp (v := ?vg5) rfl rfl (fun hgp => ?hv5) ?hh5; case hv5 => ((try simp only [hgp, if_true, ev, List.getD_cons_zero, List.getD_cons_succ]); refine hop_bin rfl rfl rfl ?_; rfl))
 try simp only [nfa, Nat.reduceAdd]
 refine hops_cons rfl (hop_pick rfl ?_)
 try simp only [nfa, Nat.reduceAdd]
 refine hops_nil ?_
 try simp only [nfa, Nat.reduceAdd]
 refine hc_T rfl (by first | rfl | assumption | (simp; done) | (simp; omega) | (simp [*]; done)) ?_
 refine hc_region ?_
 refine oF rfl ?_
 refine hops_cons rfl (hop_load rfl (by (repeat' first | assumption | exact hS | exact Hp.one_get _ _ | refine hT (by first | assumption | exact Ne.symm ‹_›) ?_)) (by first | rfl | assumption | exact mid_get0 rfl | exact mid_get rfl | (simp; done)) ?_)
 try simp only [nfa, Nat.reduceAdd]
 refine oM ?_
 refine hops_cons rfl (hop_call ?_)
 simp only [nfa, Nat.reduceAdd]
 refine HT.mono (ref_Around (k := pages) f2 hp) ?_
 rintro _ _ ⟨rfl, rfl⟩
 try simp only [nf, nf2]
 refine oF rfl ?_
 refine hops_cons rfl (hop_store rfl rfl (by first | rfl | assumption) (by (repeat' first | assumption | exact hS | exact Hp.one_get _ _ | refine hT (by first | assumption | exact Ne.symm ‹_›) ?_)) (by first | assumption | omega | (simp; done) | (simp; omega) | (simp [frc] <;> omega)) ?_)
 try simp only [nfa, Nat.reduceAdd]
 refine hops_nil ?_
 try simp only [nfa, Nat.reduceAdd]
 refine hc_seq ?_
 refine sR ?_
 refine oM ?_
 try simp only [nfa, Nat.reduceAdd]
 refine hops_cons rfl (hop_bin rfl rfl rfl ?_)
 try simp only [nfa, Nat.reduceAdd]
 refine oM ?_
 try simp only [nfa, Nat.reduceAdd]
 first
  | refine hops_off' rfl rfl (by rfl) ?_
  | refine hops_un rfl rfl ?_
  | (refine hops_on' rfl rfl (by rfl) (hop_move ?_))
  | (refine hops_gp (v := ?vg6) rfl rfl (fun hgp => ?hv6) ?hh6; case hv6 => ((try simp only [hgp, if_true, ev, List.getD_cons_zero, List.getD_cons_succ]); refine hop_move ?_; rfl))
 try simp only [nfa, Nat.reduceAdd]
 first
  | refine hops_off' rfl rfl (by rfl) ?_
  | refine hops_un rfl rfl ?_
  | (refine hops_on' rfl rfl (by rfl) (hop_bin rfl rfl rfl ?_))
  | (refine hops_gp (v := ?vg7) rfl rfl (fun hgp => ?hv7) ?hh7; case hv7 => ((try simp only [hgp, if_true, ev, List.getD_cons_zero, List.getD_cons_succ]); refine hop_bin rfl rfl rfl ?_; rfl))
 try simp only [nfa, Nat.reduceAdd]
 refine hops_cons rfl (hop_pick rfl ?_)
 try simp only [nfa, Nat.reduceAdd]
 refine hops_nil ?_
 try simp only [nfa, Nat.reduceAdd]
 refine hc_T rfl (by first | rfl | assumption | (simp; done) | (simp; omega) | (simp [*]; done)) ?_
 refine hc_region ?_
 refine oF rfl ?_
 refine hops_cons rfl (hop_load rfl (by (repeat' first | assumption | exact hS | exact Hp.one_get _ _ | refine hT (by first | assumption | exact Ne.symm ‹_›) ?_)) (by first | rfl | assumption | exact mid_get0 rfl | exact mid_get rfl | (simp; done)) ?_)
 try simp only [nfa, Nat.reduceAdd]
 refine hops_cons rfl (hop_call ?_)
 simp only [nfa, Nat.reduceAdd]
 refine HT.mono (ref_Around (k := 33) f3 (by decide)) ?_
 rintro _ _ ⟨rfl, rfl⟩
 try simp only [nf, nf2]
 refine oF rfl ?_
 refine hops_cons rfl (hop_store rfl rfl (by first | rfl | assumption) (by (repeat' first | assumption | exact hS | exact Hp.one_get _ _ | refine hT (by first | assumption | exact Ne.symm ‹_›) ?_)) (by first | assumption | omega | (simp; done) | (simp; omega) | (simp [frc] <;> omega)) ?_)
 try simp only [nfa, Nat.reduceAdd]
 refine hops_nil ?_
 try simp only [nfa, Nat.reduceAdd]
 refine hc_seq ?_
 refine sR ?_
 refine oM ?_
 try simp only [nfa, Nat.reduceAdd]
 refine hops_cons rfl (hop_bin rfl rfl rfl ?_)
 try simp only [nfa, Nat.reduceAdd]
 refine hops_nil ?_
 try simp only [nfa, Nat.reduceAdd]
 refine hc_F rfl (by first | rfl | assumption | (simp; done) | (simp; omega) | (simp [*]; done)) ?_
 refine hc_skip ?_
 try simp only [nfa, Nat.reduceAdd]
 refine hc_seq ?_
 refine sR ?_
 refine oM ?_
 try simp only [nfa, Nat.reduceAdd]
 refine hops_cons rfl (hop_bin rfl rfl rfl ?_)
 try simp only [nfa, Nat.reduceAdd]
 refine hops_nil ?_
 try simp only [nfa, Nat.reduceAdd]
 refine hc_T rfl (by first | rfl | assumption | (simp; done) | (simp; omega) | (simp [*]; done)) ?_
 refine hc_draw0 follows (by intros; simp [hng, hthen, hblock, hend]) ?_
 refine dT 0 rfl (by decide +kernel) rfl (by first | exact Sub.refl _ | assumption | exact Sub.trans sN1 sN2) (hop_fieldAddr rfl ?_)
 try simp only [nfa, Nat.reduceAdd]
 refine dT 1 rfl (by decide +kernel) rfl (by first | exact Sub.refl _ | assumption | exact Sub.trans sN1 sN2) (hop_load rfl (by (repeat' first | assumption | exact hS | exact Hp.one_get _ _ | refine hT (by first | assumption | exact Ne.symm ‹_›) ?_)) (by first | rfl | assumption | exact mid_get0 rfl | exact mid_get rfl | (simp; done)) ?_)
 try simp only [nfa, Nat.reduceAdd]
 refine dT 2 rfl (by decide +kernel) rfl (by first | exact Sub.refl _ | assumption | exact Sub.trans sN1 sN2) (hop_fieldAddr rfl ?_)
 try simp only [nfa, Nat.reduceAdd]
 refine dT 3 rfl (by decide +kernel) rfl (by first | exact Sub.refl _ | assumption | exact Sub.trans sN1 sN2) (hop_load rfl (by (repeat' first | assumption | exact hS | exact Hp.one_get _ _ | refine hT (by first | assumption | exact Ne.symm ‹_›) ?_)) (by first | rfl | assumption | exact mid_get0 rfl | exact mid_get rfl | (simp; done)) ?_)
 try simp only [nfa, Nat.reduceAdd]
 refine dT 6 rfl (by decide +kernel) rfl (by first | exact Sub.refl _ | assumption | exact Sub.trans sN1 sN2) (hop_fieldAddr rfl ?_)
 try simp only [nfa, Nat.reduceAdd]
 refine dT 7 rfl (by decide +kernel) rfl (by first | exact Sub.refl _ | assumption | exact Sub.trans sN1 sN2) (hop_load rfl (by (repeat' first | assumption | exact hS | exact Hp.one_get _ _ | refine hT (by first | assumption | exact Ne.symm ‹_›) ?_)) (by first | rfl | assumption | exact mid_get0 rfl | exact mid_get rfl | (simp; done)) ?_)
 try simp only [nfa, Nat.reduceAdd]
 refine dT 8 rfl (by decide +kernel) rfl (by first | exact Sub.refl _ | assumption | exact Sub.trans sN1 sN2) (hop_sub rfl rfl (by omega) ?_)
 try simp only [nfa, Nat.reduceAdd]
 refine hD_do 4 rfl (by decide +kernel) rfl (hop_call ?_)
 simp only [nfa, Nat.reduceAdd]
 refine HT.mono (ref_Around (k := 33) f4 (by decide)) ?_
 rintro _ _ ⟨rfl, rfl⟩
 try simp only [nf, nf2]
 refine ⟨.inr (by first | ((repeat' first | assumption | exact Sub.refl _ | refine Sub.over ?_ ‹_› _); done) | (intro _ _ h; simp only [Hp.set] at h ⊢; grind)), ?_⟩
 try simp only [nfa, Nat.reduceAdd]
 refine hD_do 5 rfl (by decide +kernel) rfl (hop_call ?_)
 simp only [nfa, Nat.reduceAdd]
 have h33l : arN len % 33 < 33 := Nat.mod_lt _ (by decide)
 refine HT.mono (ref_Fill (hd.sub (by first | ((repeat' first | assumption | exact Sub.refl _ | refine Sub.over ?_ ‹_› _); done) | (intro _ _ h; simp only [Hp.set] at h ⊢; grind))) (by omega)) ?_
 rintro v1 H1 hN1
 have sN1 := hN1.le
 have how1 := hN1.own
 obtain ⟨va, vc, rfl⟩ := how1.slice
 try simp only [nf, nf2]
 have H1_b1 := sN1 b1 _ (by (repeat' first | assumption | exact hS | exact Hp.one_get _ _ | refine hT (by first | assumption | exact Ne.symm ‹_›) ?_))
 have H1_b2 := sN1 b2 _ (by (repeat' first | assumption | exact hS | exact Hp.one_get _ _ | refine hT (by first | assumption | exact Ne.symm ‹_›) ?_))
 have H1_bs0 := sN1 bs0 _ (by (repeat' first | assumption | exact hS | exact Hp.one_get _ _ | refine hT (by first | assumption | exact Ne.symm ‹_›) ?_))
 have H1_b3 := sN1 b3 _ (by (repeat' first | assumption | exact hS | exact Hp.one_get _ _ | refine hT (by first | assumption | exact Ne.symm ‹_›) ?_))
 refine ⟨.inr (by first | ((repeat' first | assumption | exact Sub.refl _ | refine Sub.over ?_ ‹_› _); done) | (intro _ _ h; simp only [Hp.set] at h ⊢; grind)), ?_⟩
 try simp only [nfa, Nat.reduceAdd]
 refine hD_do 9 rfl (by decide +kernel) rfl (hop_call ?_)
 simp only [nfa, Nat.reduceAdd]
 rw [show (32 : Int) - ((arN off % 33 : Nat) : Int) = ((32 - arN off % 33 : Nat) : Int) by omega]
 have hdF : dOkU H1 (.slice va (arN len % 33) vc) (fillB bs (arN len % 33)) := by
   have h := how1.rd
   unfold dOkU; rw [fillB_len]; exact h
 refine HT.mono (ref_Few (k := 32 - arN off % 33) hdF (by omega)) ?_
 rintro v2 H2 hN2
 have sN2 := hN2.le
 have how2 := hN2.own
 have hone2 := how2.one
 try simp only [nf, nf2]
 have H2_b1 := sN2 b1 _ (by (repeat' first | assumption | exact hS | exact Hp.one_get _ _ | refine hT (by first | assumption | exact Ne.symm ‹_›) ?_))
 have H2_b2 := sN2 b2 _ (by (repeat' first | assumption | exact hS | exact Hp.one_get _ _ | refine hT (by first | assumption | exact Ne.symm ‹_›) ?_))
 have H2_bs0 := sN2 bs0 _ (by (repeat' first | assumption | exact hS | exact Hp.one_get _ _ | refine hT (by first | assumption | exact Ne.symm ‹_›) ?_))
 have H2_b3 := sN2 b3 _ (by (repeat' first | assumption | exact hS | exact Hp.one_get _ _ | refine hT (by first | assumption | exact Ne.symm ‹_›) ?_))
 refine ⟨.inr (Sub.trans sN1 sN2), ?_⟩
 try simp only [nfa, Nat.reduceAdd]
 refine dT 10 rfl (by decide +kernel) rfl (by first | exact Sub.refl _ | assumption | exact Sub.trans sN1 sN2) (hop_fieldAddr rfl ?_)
 try simp only [nfa, Nat.reduceAdd]
 refine hD_do 11 rfl (by decide +kernel) rfl (hop_store rfl rfl (by first | rfl | assumption) (by (repeat' first | assumption | exact hS | exact Hp.one_get _ _ | refine hT (by first | assumption | exact Ne.symm ‹_›) ?_)) (by first | assumption | omega | (simp; done) | (simp; omega) | (simp [frc] <;> omega)) ?_)
 try simp only [nfa, Nat.reduceAdd]
 refine ⟨.inl (by decide +kernel), ?_⟩
 try simp only [nfa, Nat.reduceAdd]
 refine hD_done (by decide +kernel) ?_
 try simp only [nfa, Nat.reduceAdd]
 refine sR ?_
 refine hops_cons rfl (hop_loadA rfl (by (repeat' first | assumption | exact hS | exact Hp.one_get _ _ | refine hT (by first | assumption | exact Ne.symm ‹_›) ?_)) (by first | assumption | omega | (simp; done) | (simp; omega) | (simp [frc] <;> omega)) ?_)
 try simp only [nfa, Nat.reduceAdd]
 refine hops_cons rfl (hop_storeA rfl rfl (by rfl) (by first | assumption | (repeat' first | (intro _ h; cases h; done) | refine List.forall_mem_cons.2 ⟨by first | rfl | assumption, ?_⟩) | (simp [Value.oneCell']; done) | (simp [Value.oneCell', *]; done)) (by (repeat' first | assumption | exact hS | exact Hp.one_get _ _ | refine hT (by first | assumption | exact Ne.symm ‹_›) ?_)) (by first | assumption | omega | (simp; done) | (simp; omega) | (simp [frc] <;> omega)) (by decide) ?_)
 try simp only [nfa, Nat.reduceAdd]
 refine hops_nil ?_
 try simp only [nfa, Nat.reduceAdd]
 refine hc_ret ?_
 try simp only [hng, hthen, hblock]
 apply hend_1 rfl ?es (RV.cellW rfl (by (repeat' first | assumption | exact hS | exact Hp.one_get _ _ | refine hT (by first | assumption | exact Ne.symm ‹_›) ?_)) (by simp)) ?eR
 case es => exact Sub.refl _
 case eR =>
  obtain ⟨Hn, e1, e2, e3, e4⟩ := hN2
  have n1 : Hn b1 = none := e3.get H1_b1
  have n2 : Hn b2 = none := e3.get H1_b2
  have n3 : Hn b3 = none := e3.get H1_b3
  have dn : Disj Hn H := e3.sub (.refl _) (Sub.trans (by first | ((repeat' first | assumption | exact Sub.refl _ | refine Sub.over ?_ ‹_› _); done) | (intro _ _ h; simp only [Hp.set] at h ⊢; grind)) sN1)
  refine ⟨v2, Hn, rfl, e1.rd, ?_, dn, ?_⟩
  · exact Sub.over (Sub.over e2 n3 _) n2 _
  · exact Sub.over (Sub.over (Sub.trans (Sub.trans (by first | ((repeat' first | assumption | exact Sub.refl _ | refine Sub.over ?_ ‹_› _); done) | (intro _ _ h; simp only [Hp.set] at h ⊢; grind)) sN1) e4) hb3_n _) hb2_n _
/-- a request that may be, made of any -/
def goodV (op page off len : Int) (bs : List UInt8) (pages : Nat) : Rv :=
  ⟨goodOp op, if goodOp op ≠ 6 ∧ goodOp op ≠ 8 then ((arN page % pages : Nat) : Int) else 0, if goodOp op = 2 ∨ goodOp op = 3 then arN off % 33 else 0, if goodOp op = 2 then arN len % (33 - arN off % 33) else 0,
    if goodOp op = 3 then (fillB bs (arN len % 33)).take (32 - arN off % 33) else []⟩
theorem ref_Good {H : Hp} {op page off len : Int} {pages : Nat} {dv : Value} {bs : List UInt8} (hd : dOk H dv bs) (f1 : fitsI op) (f2 : fitsI page) (f3 : fitsI off) (f4 : fitsI len) (hp : 0 < pages) :
    HT prog 11 #[.agg #[.int .i64 op, .int .i64 page, .int .i64 off, .int .i64 len, dv], .int .i64 (pages : Int)] H (fun v H' => ∃ dv Hn, v = .agg (rvc (goodV op page off len bs pages) dv).toArray ∧ dOkU Hn dv (goodV op page off len bs pages).data ∧ Sub Hn H' ∧ Disj Hn H ∧ Sub H H') := by
  obtain ⟨da, dc, rfl⟩ := hd.len
  have hc := goodOp_cases op
  by_cases h3 : goodOp op = 3
  · refine (Good_3 hd rfl f1 f2 f3 f4 hp h3).mono ?_
    rintro v H' ⟨dv, Hn, rfl, e1, e2, e3, e4⟩
    refine ⟨dv, Hn, ?_, ?_, e2, e3, e4⟩
    · simp [rvc, goodV, h3]
    · simpa [goodV, h3] using e1
  · by_cases h2 : goodOp op = 2
    · refine (Good_2 hd rfl f1 f2 f3 f4 hp h2).mono ?_
      rintro v H' ⟨rfl, rfl⟩
      exact ⟨.slice none 0 0, Hp.emp, by simp [rvc, goodV, h2], by simp [goodV, h2]; exact dOkU.nil, Sub.emp _, Disj.emp _, Sub.refl _⟩
    · by_cases h6 : goodOp op = 6 ∨ goodOp op = 8
      · refine (Good_b hd rfl f1 f2 f3 f4 hp h6).mono ?_
        rintro v H' ⟨rfl, rfl⟩
        refine ⟨.slice none 0 0, Hp.emp, ?_, by simp [goodV, h3]; exact dOkU.nil, Sub.emp _, Disj.emp _, Sub.refl _⟩
        rcases h6 with h | h <;> simp [rvc, goodV, h]
      · have h61 : goodOp op ≠ 6 := fun h => h6 (.inl h)
        have h81 : goodOp op ≠ 8 := fun h => h6 (.inr h)
        refine (Good_a hd rfl f1 f2 f3 f4 hp h61 h81 h2 h3).mono ?_
        rintro v H' ⟨rfl, rfl⟩
        exact ⟨.slice none 0 0, Hp.emp, by simp [rvc, goodV, h61, h81, h2, h3], by simp [goodV, h3]; exact dOkU.nil, Sub.emp _, Disj.emp _, Sub.refl _⟩
end Go.Proofs.Try
