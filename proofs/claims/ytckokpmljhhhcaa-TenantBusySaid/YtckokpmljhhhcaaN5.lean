/- A part of the proofs over the tenants of a page cache: lemmas on what is known of the memory, and contracts of the Go functions. -/
import Derived.Test.YtckokpmljhhhcaaN4
set_option linter.unusedVariables false
set_option linter.unusedSimpArgs false
namespace Go.Proofs.Try
open Go Go.H
set_option linter.unusedSimpArgs false
set_option linter.unusedVariables false
set_option maxRecDepth 100000
set_option maxHeartbeats 2000000
def opsF (m bx : Nat) : Int → Option Value := (upd (upd (upd (upd (upd (upd (upd (upd (fun _ => none) 1 (some (.func (.func 63) #[.pointer (some ⟨m, 0, none⟩)] #[]))) 2 (some (.func (.func 64) #[] #[.pointer (some ⟨bx, 0, none⟩)]))) 3 (some (.func (.func 67) #[] #[.pointer (some ⟨bx, 0, none⟩)]))) 4 (some (.func (.func 69) #[] #[.pointer (some ⟨bx, 0, none⟩)]))) 5 (some (.func (.func 71) #[] #[.pointer (some ⟨bx, 0, none⟩)]))) 6 (some (.func (.func 73) #[] #[.pointer (some ⟨bx, 0, none⟩)]))) 7 (some (.func (.func 74) #[.pointer (some ⟨m, 0, none⟩)] #[]))) 8 (some (.func (.func 75) #[] #[])))
theorem opsF_1 (m bx : Nat) : opsF m bx 1 = some (.func (.func 63) #[.pointer (some ⟨m, 0, none⟩)] #[]) := by simp [opsF, upd]
theorem opsF_2 (m bx : Nat) : opsF m bx 2 = some (.func (.func 64) #[] #[.pointer (some ⟨bx, 0, none⟩)]) := by simp [opsF, upd]
theorem opsF_3 (m bx : Nat) : opsF m bx 3 = some (.func (.func 67) #[] #[.pointer (some ⟨bx, 0, none⟩)]) := by simp [opsF, upd]
theorem opsF_4 (m bx : Nat) : opsF m bx 4 = some (.func (.func 69) #[] #[.pointer (some ⟨bx, 0, none⟩)]) := by simp [opsF, upd]
theorem opsF_5 (m bx : Nat) : opsF m bx 5 = some (.func (.func 71) #[] #[.pointer (some ⟨bx, 0, none⟩)]) := by simp [opsF, upd]
theorem opsF_6 (m bx : Nat) : opsF m bx 6 = some (.func (.func 73) #[] #[.pointer (some ⟨bx, 0, none⟩)]) := by simp [opsF, upd]
theorem opsF_7 (m bx : Nat) : opsF m bx 7 = some (.func (.func 74) #[.pointer (some ⟨m, 0, none⟩)] #[]) := by simp [opsF, upd]
theorem opsF_8 (m bx : Nat) : opsF m bx 8 = some (.func (.func 75) #[] #[]) := by simp [opsF, upd]
theorem machine_ops {H : Hp} {m : Nat} :
    HT prog 52 #[.pointer (some ⟨m, 0, none⟩)] H (fun v H' => ∃ mb bx o, v = .map (some mb) ∧ H' mb = some o ∧ MapI o (opsF m bx) ∧ H' bx = some (row [.pointer (some ⟨m, 0, none⟩)] 57) ∧ Sub H H') := by
 refine ht_of_body (args := [.pointer (some ⟨m, 0, none⟩)]) func52 rfl ?_
 simp only [ntmps52, List.length_cons, List.length_nil, Nat.reduceAdd, Nat.reduceSub, List.replicate_succ, List.replicate_zero, List.cons_append, List.nil_append]
 refine sR ?_
 refine hops_cons rfl (hop_box rfl rfl ?_)
 intro b1 hb1
 have hb1' := hb1
 try simp only [Hp.set_none, Hp.del_none] at hb1'
 have hb1_n : H b1 = none := by first | exact hb1' | exact hb1'.2 | exact hb1'.2.2 | exact hb1'.2.2.2 | exact hb1'.2.2.2.2 | exact hb1'.2.2.2.2.2 | exact hb1'.2.2.2.2.2.2
 clear hb1'
 try simp only [nfa, Nat.reduceAdd]
 refine oA ?_
 try simp only [nfa, Nat.reduceAdd]
 refine hops_nil ?_
 try simp only [nfa, Nat.reduceAdd]
 refine sR ?_
 refine hops_cons rfl (hop_makeMap ?_)
 intro mb o0 hmb ho0
 have hmb' := hmb
 try simp only [Hp.set_none, Hp.del_none] at hmb'
 have hmb_n : H mb = none := by first | exact hmb' | exact hmb'.2 | exact hmb'.2.2 | exact hmb'.2.2.2 | exact hmb'.2.2.2.2 | exact hmb'.2.2.2.2.2 | exact hmb'.2.2.2.2.2.2
 have hmb_b1 : mb ≠ b1 := by first | exact hmb'.1 | exact hmb'.2.1 | exact hmb'.2.2.1 | exact hmb'.2.2.2.1 | exact hmb'.2.2.2.2.1 | exact hmb'.2.2.2.2.2.1
 clear hmb'
 try simp only [nf, nf2]
 refine hops_cons rfl (hop_load rfl (by (repeat' first | assumption | exact hS | exact Hp.one_get _ _ | refine hT (by first | assumption | exact Ne.symm ‹_›) ?_)) (by first | rfl | assumption | exact mid_get0 rfl | exact mid_get rfl | (simp; done)) ?_)
 try simp only [nfa, Nat.reduceAdd]
 refine hops_cons rfl (hop_makeFunc ?_)
 try simp only [nfa, Nat.reduceAdd]
 refine hops_cons rfl (hop_insert rfl rfl rfl (by (repeat' first | assumption | exact hS | exact Hp.one_get _ _ | refine hT (by first | assumption | exact Ne.symm ‹_›) ?_)) ho0 ?_)
 intro o1 ho1
 try simp only [nf, nf2]
 refine hops_cons rfl (hop_makeFunc ?_)
 try simp only [nfa, Nat.reduceAdd]
 refine hops_cons rfl (hop_insert rfl rfl rfl (by (repeat' first | assumption | exact hS | exact Hp.one_get _ _ | refine hT (by first | assumption | exact Ne.symm ‹_›) ?_)) ho1 ?_)
 intro o2 ho2
 try simp only [nf, nf2]
 refine hops_cons rfl (hop_makeFunc ?_)
 try simp only [nfa, Nat.reduceAdd]
 refine hops_cons rfl (hop_insert rfl rfl rfl (by (repeat' first | assumption | exact hS | exact Hp.one_get _ _ | refine hT (by first | assumption | exact Ne.symm ‹_›) ?_)) ho2 ?_)
 intro o3 ho3
 try simp only [nf, nf2]
 refine hops_cons rfl (hop_makeFunc ?_)
 try simp only [nfa, Nat.reduceAdd]
 refine hops_cons rfl (hop_insert rfl rfl rfl (by (repeat' first | assumption | exact hS | exact Hp.one_get _ _ | refine hT (by first | assumption | exact Ne.symm ‹_›) ?_)) ho3 ?_)
 intro o4 ho4
 try simp only [nf, nf2]
 refine hops_cons rfl (hop_makeFunc ?_)
 try simp only [nfa, Nat.reduceAdd]
 refine hops_cons rfl (hop_insert rfl rfl rfl (by (repeat' first | assumption | exact hS | exact Hp.one_get _ _ | refine hT (by first | assumption | exact Ne.symm ‹_›) ?_)) ho4 ?_)
 intro o5 ho5
 try simp only [nf, nf2]
 refine hops_cons rfl (hop_makeFunc ?_)
 try simp only [nfa, Nat.reduceAdd]
 refine hops_cons rfl (hop_insert rfl rfl rfl (by (repeat' first | assumption | exact hS | exact Hp.one_get _ _ | refine hT (by first | assumption | exact Ne.symm ‹_›) ?_)) ho5 ?_)
 intro o6 ho6
 try simp only [nf, nf2]
 refine hops_cons rfl (hop_load rfl (by (repeat' first | assumption | exact hS | exact Hp.one_get _ _ | refine hT (by first | assumption | exact Ne.symm ‹_›) ?_)) (by first | rfl | assumption | exact mid_get0 rfl | exact mid_get rfl | (simp; done)) ?_)
 try simp only [nfa, Nat.reduceAdd]
 refine hops_cons rfl (hop_makeFunc ?_)
 try simp only [nfa, Nat.reduceAdd]
 refine hops_cons rfl (hop_insert rfl rfl rfl (by (repeat' first | assumption | exact hS | exact Hp.one_get _ _ | refine hT (by first | assumption | exact Ne.symm ‹_›) ?_)) ho6 ?_)
 intro o7 ho7
 try simp only [nf, nf2]
 refine hops_cons rfl (hop_insert rfl rfl rfl (by (repeat' first | assumption | exact hS | exact Hp.one_get _ _ | refine hT (by first | assumption | exact Ne.symm ‹_›) ?_)) ho7 ?_)
 intro o8 ho8
 try simp only [nf, nf2]
 refine oM ?_
 refine oA ?_
 try simp only [nfa, Nat.reduceAdd]
 refine hops_nil ?_
 try simp only [nfa, Nat.reduceAdd]
 refine hc_ret ?_
 try simp only [hng, hthen, hblock]
 apply hend_1 rfl ?es RV.tmp ?eR
 case es => exact Sub.refl _
 case eR =>
  exact ⟨mb, b1, _, rfl, by (repeat' first | assumption | exact hS | exact Hp.one_get _ _ | refine hT (by first | assumption | exact Ne.symm ‹_›) ?_), ho8, by (repeat' first | assumption | exact hS | exact Hp.one_get _ _ | refine hT (by first | assumption | exact Ne.symm ‹_›) ?_), by first | ((repeat' first | assumption | exact Sub.refl _ | refine Sub.over ?_ ‹_› _); done) | (intro _ _ h; simp only [Hp.set] at h ⊢; grind)⟩
theorem Begin_q {H : Hp} {m p : Nat} {op pg to : Int} {tv gv : Value} (hm : H m = some (row [.pointer (some ⟨p, 0, none⟩), .int .i64 op, .int .i64 pg, tv, .int .i64 to, gv] 86)) {rop rpg roff rlen : Int} {da : Option Addr} {dn dc : Nat} {g : FuncId} {fs : Array Value} {cs : Nat → Array Value} [Ent prog g] {Q : Value → Hp → Prop} (hfv : ∀ bx, opsF m bx rop = some (.func (.func g) fs (cs bx)))
    (hq : ∀ bx H2, Sub (H.set m (row [.pointer (some ⟨p, 0, none⟩), .int .i64 rop, .int .i64 rpg, tv, .int .i64 to, gv] 86)) H2 → H2 bx = some (row [.pointer (some ⟨m, 0, none⟩)] 57) → HT prog g (fs ++ #[.agg #[.int .i64 rop, .int .i64 rpg, .int .i64 roff, .int .i64 rlen, .slice da dn dc]] ++ cs bx) H2 Q) (hQ : ∀ v H', Q v H' → ∃ vs : List Value, v = .agg vs.toArray ∧ vs.length = 18 ∧ ∀ x ∈ vs, x.oneCell' = true) :
    HT prog 37 #[.pointer (some ⟨m, 0, none⟩), .agg #[.int .i64 rop, .int .i64 rpg, .int .i64 roff, .int .i64 rlen, .slice da dn dc]] H Q := by
 refine ht_of_body (args := [.pointer (some ⟨m, 0, none⟩), .agg #[.int .i64 rop, .int .i64 rpg, .int .i64 roff, .int .i64 rlen, .slice da dn dc]]) func37 rfl ?_
 simp only [ntmps37, List.length_cons, List.length_nil, Nat.reduceAdd, Nat.reduceSub, List.replicate_succ, List.replicate_zero, List.cons_append, List.nil_append]
 refine sR ?_
 refine hops_cons rfl (hop_box rfl rfl ?_)
 intro b1 hb1
 have hb1' := hb1
 try simp only [Hp.set_none, Hp.del_none] at hb1'
 have hb1_n : H b1 = none := by first | exact hb1' | exact hb1'.2 | exact hb1'.2.2 | exact hb1'.2.2.2 | exact hb1'.2.2.2.2 | exact hb1'.2.2.2.2.2 | exact hb1'.2.2.2.2.2.2
 have hb1_m : b1 ≠ m := (Hp.ne_of hm hb1_n).symm
 clear hb1'
 try simp only [nfa, Nat.reduceAdd]
 refine hops_cons rfl (hop_alloc (zl := [.bool false, .int .i64 0, .int .i64 0, .bool false, .int .i64 0, .slice none 0 0, .int .u64 0, .int .u64 0, .int .u64 0, .int .u64 0, .int .u64 0, .int .u64 0, .int .u64 0, .int .u64 0, .int .u64 0, .int .u64 0, .int .u64 0, .int .u64 0]) rfl ?_)
 intro b2 hb2
 have hb2' := hb2
 try simp only [Hp.set_none, Hp.del_none] at hb2'
 have hb2_n : H b2 = none := by first | exact hb2' | exact hb2'.2 | exact hb2'.2.2 | exact hb2'.2.2.2 | exact hb2'.2.2.2.2 | exact hb2'.2.2.2.2.2 | exact hb2'.2.2.2.2.2.2
 have hb2_b1 : b2 ≠ b1 := by first | exact hb2'.1 | exact hb2'.2.1 | exact hb2'.2.2.1 | exact hb2'.2.2.2.1 | exact hb2'.2.2.2.2.1 | exact hb2'.2.2.2.2.2.1
 have hb2_m : b2 ≠ m := (Hp.ne_of hm hb2_n).symm
 clear hb2'
 try simp only [nfa, Nat.reduceAdd]
 refine hops_nil ?_
 try simp only [nfa, Nat.reduceAdd]
 refine hc_seq ?_
 refine hc_draw (Hp.one b1 (row [.int .i64 rop, .int .i64 rpg, .int .i64 roff, .int .i64 rlen, .slice da dn dc] 41)) follows (by intros; simp [hng, hthen, hblock, hend]) ?_
 refine dT 0 rfl (by decide +kernel) rfl (Sub.one (by (repeat' first | assumption | exact hS | exact Hp.one_get _ _ | refine hT (by first | assumption | exact Ne.symm ‹_›) ?_))) (hop_move ?_)
 try simp only [nfa, Nat.reduceAdd]
 refine dT 1 rfl (by decide +kernel) rfl (Sub.one (by (repeat' first | assumption | exact hS | exact Hp.one_get _ _ | refine hT (by first | assumption | exact Ne.symm ‹_›) ?_))) (hop_move ?_)
 try simp only [nfa, Nat.reduceAdd]
 refine dT 2 rfl (by decide +kernel) rfl (Sub.one (by (repeat' first | assumption | exact hS | exact Hp.one_get _ _ | refine hT (by first | assumption | exact Ne.symm ‹_›) ?_))) (hop_fieldAddr rfl ?_)
 try simp only [nfa, Nat.reduceAdd]
 refine dT 3 rfl (by decide +kernel) rfl (Sub.one (by (repeat' first | assumption | exact hS | exact Hp.one_get _ _ | refine hT (by first | assumption | exact Ne.symm ‹_›) ?_))) (hop_load rfl (by (repeat' first | assumption | exact hS | exact Hp.one_get _ _ | refine hT (by first | assumption | exact Ne.symm ‹_›) ?_)) (by first | rfl | assumption | exact mid_get0 rfl | exact mid_get rfl | (simp; done)) ?_)
 try simp only [nfa, Nat.reduceAdd]
 refine dT 4 rfl (by decide +kernel) rfl (Sub.one (by (repeat' first | assumption | exact hS | exact Hp.one_get _ _ | refine hT (by first | assumption | exact Ne.symm ‹_›) ?_))) (hop_fieldAddr rfl ?_)
 try simp only [nfa, Nat.reduceAdd]
 refine dT 5 rfl (by decide +kernel) rfl (Sub.one (by (repeat' first | assumption | exact hS | exact Hp.one_get _ _ | refine hT (by first | assumption | exact Ne.symm ‹_›) ?_))) (hop_load rfl (by (repeat' first | assumption | exact hS | exact Hp.one_get _ _ | refine hT (by first | assumption | exact Ne.symm ‹_›) ?_)) (by first | rfl | assumption | exact mid_get0 rfl | exact mid_get rfl | (simp; done)) ?_)
 try simp only [nfa, Nat.reduceAdd]
 refine dT 6 rfl (by decide +kernel) rfl (Sub.one (by (repeat' first | assumption | exact hS | exact Hp.one_get _ _ | refine hT (by first | assumption | exact Ne.symm ‹_›) ?_))) (hop_nilCheck rfl ?_)
 try simp only [nfa, Nat.reduceAdd]
 refine dT 7 rfl (by decide +kernel) rfl (Sub.one (by (repeat' first | assumption | exact hS | exact Hp.one_get _ _ | refine hT (by first | assumption | exact Ne.symm ‹_›) ?_))) (hop_fieldAddr rfl ?_)
 try simp only [nfa, Nat.reduceAdd]
 refine hD_do 8 rfl (by decide +kernel) rfl (hop_store rfl rfl (by first | rfl | assumption) (by (repeat' first | assumption | exact hS | exact Hp.one_get _ _ | refine hT (by first | assumption | exact Ne.symm ‹_›) ?_)) (by first | assumption | omega | (simp; done) | (simp; omega) | (simp [frc] <;> omega)) ?_)
 try simp only [nfa, Nat.reduceAdd]
 refine ⟨.inr (Sub.one (by (repeat' first | assumption | exact hS | exact Hp.one_get _ _ | refine hT (by first | assumption | exact Ne.symm ‹_›) ?_))), ?_⟩
 try simp only [nfa, Nat.reduceAdd]
 refine dT 9 rfl (by decide +kernel) rfl (Sub.one (by (repeat' first | assumption | exact hS | exact Hp.one_get _ _ | refine hT (by first | assumption | exact Ne.symm ‹_›) ?_))) (hop_nilCheck rfl ?_)
 try simp only [nfa, Nat.reduceAdd]
 refine dT 10 rfl (by decide +kernel) rfl (Sub.one (by (repeat' first | assumption | exact hS | exact Hp.one_get _ _ | refine hT (by first | assumption | exact Ne.symm ‹_›) ?_))) (hop_fieldAddr rfl ?_)
 try simp only [nfa, Nat.reduceAdd]
 refine hD_do 11 rfl (by decide +kernel) rfl (hop_store rfl rfl (by first | rfl | assumption) (by (repeat' first | assumption | exact hS | exact Hp.one_get _ _ | refine hT (by first | assumption | exact Ne.symm ‹_›) ?_)) (by first | assumption | omega | (simp; done) | (simp; omega) | (simp [frc] <;> omega)) ?_)
 try simp only [nfa, Nat.reduceAdd]
 refine ⟨.inl (by decide +kernel), ?_⟩
 try simp only [nfa, Nat.reduceAdd]
 refine hD_done (by decide +kernel) ?_
 try simp only [nfa, Nat.reduceAdd]
 refine hc_seq ?_
 refine hc_draw (Hp.one b1 (row [.int .i64 rop, .int .i64 rpg, .int .i64 roff, .int .i64 rlen, .slice da dn dc] 41)) follows (by intros; simp [hng, hthen, hblock, hend]) ?_
 refine dT 0 rfl (by decide +kernel) rfl (Sub.one (by (repeat' first | assumption | exact hS | exact Hp.one_get _ _ | refine hT (by first | assumption | exact Ne.symm ‹_›) ?_))) (hop_move ?_)
 try simp only [nfa, Nat.reduceAdd]
 refine dT 2 rfl (by decide +kernel) rfl (Sub.one (by (repeat' first | assumption | exact hS | exact Hp.one_get _ _ | refine hT (by first | assumption | exact Ne.symm ‹_›) ?_))) (hop_fieldAddr rfl ?_)
 try simp only [nfa, Nat.reduceAdd]
 refine dT 3 rfl (by decide +kernel) rfl (Sub.one (by (repeat' first | assumption | exact hS | exact Hp.one_get _ _ | refine hT (by first | assumption | exact Ne.symm ‹_›) ?_))) (hop_load rfl (by (repeat' first | assumption | exact hS | exact Hp.one_get _ _ | refine hT (by first | assumption | exact Ne.symm ‹_›) ?_)) (by first | rfl | assumption | exact mid_get0 rfl | exact mid_get rfl | (simp; done)) ?_)
 try simp only [nfa, Nat.reduceAdd]
 refine dT 5 rfl (by decide +kernel) rfl (Sub.one (by (repeat' first | assumption | exact hS | exact Hp.one_get _ _ | refine hT (by first | assumption | exact Ne.symm ‹_›) ?_))) (hop_loadA rfl (by (repeat' first | assumption | exact hS | exact Hp.one_get _ _ | refine hT (by first | assumption | exact Ne.symm ‹_›) ?_)) (by first | assumption | omega | (simp; done) | (simp; omega) | (simp [frc] <;> omega)) ?_)
 try simp only [nfa, Nat.reduceAdd]
 refine hD_do 1 rfl (by decide +kernel) rfl (hop_call ?_)
 simp only [nfa, Nat.reduceAdd]
 refine HT.mono machine_ops ?_
 rintro _ H2 ⟨mb, bx, oo, rfl, hmb, hoo, hbx, s2⟩
 try simp only [nf, nf2]
 have H2_b1 := s2 b1 _ (by (repeat' first | assumption | exact hS | exact Hp.one_get _ _ | refine hT (by first | assumption | exact Ne.symm ‹_›) ?_))
 have H2_b2 := s2 b2 _ (by (repeat' first | assumption | exact hS | exact Hp.one_get _ _ | refine hT (by first | assumption | exact Ne.symm ‹_›) ?_))
 have H2_m := s2 m _ (by (repeat' first | assumption | exact hS | exact Hp.one_get _ _ | refine hT (by first | assumption | exact Ne.symm ‹_›) ?_))
 refine ⟨.inr (Sub.one (by (repeat' first | assumption | exact hS | exact Hp.one_get _ _ | refine hT (by first | assumption | exact Ne.symm ‹_›) ?_))), ?_⟩
 try simp only [nfa, Nat.reduceAdd]
 refine hD_do 4 rfl (by decide +kernel) rfl (hop_lookup rfl rfl hmb hoo (v := .func (.func g) fs (cs bx)) (by rw [hfv bx]; rfl) ?_)
 try simp only [nf, nf2]
 refine ⟨.inr (Sub.one (by (repeat' first | assumption | exact hS | exact Hp.one_get _ _ | refine hT (by first | assumption | exact Ne.symm ‹_›) ?_))), ?_⟩
 try simp only [nfa, Nat.reduceAdd]
 refine hD_do 6 rfl (by decide +kernel) rfl (hop_callv (f := g) rfl ?_)
 try simp only [nf, nf2]
 have hbx2 : bx ≠ b2 := ne_row hbx H2_b2 (by decide)
 have hbx1 : bx ≠ b1 := ne_row hbx H2_b1 (by decide)
 have hdel : Sub (H.set m (row [.pointer (some ⟨p, 0, none⟩), .int .i64 rop, .int .i64 rpg, tv, .int .i64 to, gv] 86)) ((H2.del b1).del b2) := by
       intro c o hc
       have h1 : c ≠ b2 := by
         intro e; subst e; rw [Hp.set_ne _ _ hb2_m, hb2_n] at hc; cases hc
       have h2 : c ≠ b1 := by
         intro e; subst e; rw [Hp.set_ne _ _ hb1_m, hb1_n] at hc; cases hc
       rw [Hp.del_ne _ h1, Hp.del_ne _ h2]
       refine s2 _ _ ?_
       by_cases e : c = m
       · subst e; rw [Hp.set_same] at hc; rw [← hc]; ((repeat' first | assumption | exact hS | exact Hp.one_get _ _ | refine hT (by first | assumption | exact Ne.symm ‹_›) ?_))
       · rw [Hp.set_ne _ _ e] at hc
         simp only [Hp.set_ne _ _ e, Hp.set_ne _ _ h1, Hp.set_ne _ _ h2]; exact hc
 have hn1 : ((H2.del b1).del b2) b1 = none := by rw [Hp.del_none]; right; exact Hp.del_same _ _
 have hn2 : ((H2.del b1).del b2) b2 = none := Hp.del_same _ _
 refine HT.mono (HT.frame ((Sub.del _ b2).trans (Sub.del H2 b1)) (hq bx ((H2.del b1).del b2) hdel (by rw [Hp.del_ne _ hbx2, Hp.del_ne _ hbx1]; exact hbx))) ?_
 rintro v H3 ⟨Hx, hqv, sx, fx⟩
 obtain ⟨vs, rfl, hvl, hvo⟩ := hQ v Hx hqv
 have H3_b2 := (fx b2 _ hn2 H2_b2).2
 have H3_b1 := (fx b1 _ hn1 H2_b1).2
 have Hx_b2 := (fx b2 _ hn2 H2_b2).1
 have hwv : wr [.bool false, .int .i64 0, .int .i64 0, .bool false, .int .i64 0, .slice none 0 0, .int .u64 0, .int .u64 0, .int .u64 0, .int .u64 0, .int .u64 0, .int .u64 0, .int .u64 0, .int .u64 0, .int .u64 0, .int .u64 0, .int .u64 0, .int .u64 0] 0 vs = vs := wr_all hvl
 try simp only [nf, nf2]
 refine ⟨.inr (Sub.one (by (repeat' first | assumption | exact hS | exact Hp.one_get _ _ | refine hT (by first | assumption | exact Ne.symm ‹_›) ?_))), ?_⟩
 try simp only [nfa, Nat.reduceAdd]
 refine hD_do 7 rfl (by decide +kernel) rfl (hop_storeA (vs := vs) rfl rfl hvl hvo H3_b2 (by simp) (by decide) ?_)
 rw [hwv]
 try simp only [nf, nf2]
 refine ⟨.inl (by decide +kernel), ?_⟩
 try simp only [nfa, Nat.reduceAdd]
 refine hD_done (by decide +kernel) ?_
 try simp only [nfa, Nat.reduceAdd]
 refine hc_ret ?_
 try simp only [hng, hthen, hblock]
 apply hend_1 rfl ?es (RV.cellW rfl (by (repeat' first | assumption | exact hS | exact Hp.one_get _ _ | refine hT (by first | assumption | exact Ne.symm ‹_›) ?_)) hvl) ?eR
 case eR => exact hqv
 case es => exact Sub.over sx Hx_b2 _
end Go.Proofs.Try
