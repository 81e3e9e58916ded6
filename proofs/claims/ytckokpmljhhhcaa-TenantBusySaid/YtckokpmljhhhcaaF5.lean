/- A part of the proofs over the tenants of a page cache: lemmas on what is known of the memory, and contracts of the Go functions. -/
import Derived.Test.YtckokpmljhhhcaaF3
set_option linter.unusedVariables false
set_option linter.unusedSimpArgs false
namespace Go.Proofs.Try
open Go Go.H
set_option linter.unusedSimpArgs false
set_option linter.unusedVariables false
set_option maxRecDepth 100000
set_option maxHeartbeats 2000000
theorem hop_allocJb {l : List Value} {H : Hp} {K : Value → Hp → Prop} {d : Option Tmp} {ty : TypeId} {pos : String} {aft : Array Edge} {g : Option (Nat × Bool)} (h : ∀ b, H b = none → K (.pointer (some ⟨b, 0, none⟩)) (H.set b (row (jc Jb.zero) 76))) : hop false prog ⟨d, .alloc 76, ty, pos, aft, g⟩ l H K :=
  hop_alloc (zl := jc Jb.zero) rfl h
theorem hop_clearJ {l : List Value} {H : Hp} {K : Value → Hp → Prop} {d : Option Tmp} {ty : TypeId} {pos : String} {aft : Array Edge} {g : Option (Nat × Bool)} {y : Operand} {rb a c : Nat} {ring : List Jb} {x : Jb} (hy : ev l y = .slice (some ⟨rb, a * 6, none⟩) 1 c) (hr : H rb = some (row (flat jc ring) 76)) (hx : ring[a]? = some x)
    (h : K (.tuple #[]) (H.set rb (row (flat jc (ring.set a Jb.zero)) 76))) : hop false prog ⟨d, .call ⟨.builtin .clear, #[y], #[91]⟩, ty, pos, aft, g⟩ l H K := by
  have hi : a < ring.length := (List.getElem?_eq_some_iff.1 hx).1
  have hA := flat_take_length (c := jc) (n := 6) (l := ring) (fun _ => rfl) (i := a) (by omega)
  have hclr : wr (flat jc ring) (a * 6) (reps 1 (jc Jb.zero)) = flat jc (ring.set a Jb.zero) := by
    rw [flat_split hx, flat_set hx, ← hA]; exact mid_wr rfl
  refine hop_clearS (sz := 6) (n := 1) hy hr rfl (by decide) (by omega) (by rw [jcs_len]; omega) (z := .agg (jc Jb.zero).toArray) (fun v hv => one_jc (j := Jb.zero) rfl v hv) ?_
  rw [← hclr] at h
  exact h
theorem hw_res_cell_tmp {l : List Value} {fn : Func} {H : Hp} {t u : Tmp} {ty n b : Nat} {L : List Value} {t' : TypeId} [Ag prog ty true] [Sz prog ty n] (hr : fn.results = #[.cell t ty, .tmp u]) (ht : l.getD t undef = .pointer (some ⟨b, 0, none⟩)) (hH : H b = some (row L t')) (hl : n = L.length) {v : Value} (hv : v = .tuple #[.agg L.toArray, l.getD u undef]) :
    hw true prog (results fn l.toArray) (fun v' _ => v' = v) H := by
  subst hv
  have e : results fn l.toArray = (do let v ← loadVar ty ⟨b, 0, none⟩; pure (.tuple #[v, l.getD u undef])) := by
    have ht' : l[t]?.getD undef = .pointer (some ⟨b, 0, none⟩) := by simpa using ht
    simp [results, hr, ht', asAddr]
  rw [e, hw_bind']
  simp only [loadVar, hw_bind', hw_isAgg, if_true, hw_sizeOf]
  refine hw_loadCells hH (by omega) ?_
  subst hl
  simp
theorem fifo_Full {H : Hp} {q rb dep a n : Nat} {ring : List Jb} (hq : H q = some (row (qRow rb dep a n) 93)) (hr : H rb = some (row (flat jc ring) 76)) (hl : ring.length = dep) (ha : a < dep) (hn : n ≤ dep) (hdep : dep ≤ 1000) (hok : ∀ j ∈ ring, j.r.ok) :
    HT prog 34 #[.pointer (some ⟨q, 0, none⟩)] H (fun v H' => v = .bool ((n : Int) == dep) ∧ H = H') := by
 refine ht_of_body (args := [.pointer (some ⟨q, 0, none⟩)]) func34 rfl ?_
 simp only [ntmps34, List.length_cons, List.length_nil, Nat.reduceAdd, Nat.reduceSub, List.replicate_succ, List.replicate_zero, List.cons_append, List.nil_append]
 refine sR ?_
 refine oA ?_
 try simp only [nf, Nat.reduceAdd]
 refine hops_nil ?_
 try simp only [nf, Nat.reduceAdd]
 refine hc_seq ?_
 refine hc_draw0 follows (by intros; simp [hng, hthen, hblock, hend]) ?_
 refine dT 0 rfl (by decide +kernel) rfl (by first | exact Sub.refl _ | exact Sub.del _ _ | exact Sub.del_set _ _ _) (hop_move ?_)
 try simp only [nf, Nat.reduceAdd]
 refine dT 1 rfl (by decide +kernel) rfl (by first | exact Sub.refl _ | exact Sub.del _ _ | exact Sub.del_set _ _ _) (hop_nilCheck rfl ?_)
 try simp only [nf, Nat.reduceAdd]
 refine dT 2 rfl (by decide +kernel) rfl (by first | exact Sub.refl _ | exact Sub.del _ _ | exact Sub.del_set _ _ _) (hop_fieldAddr rfl ?_)
 try simp only [nf, Nat.reduceAdd]
 refine dT 3 rfl (by decide +kernel) rfl (by first | exact Sub.refl _ | exact Sub.del _ _ | exact Sub.del_set _ _ _) (hop_load rfl (by solve_by_elim [hS, hN, hT, hT']) (by first | rfl | assumption | exact mid_get0 rfl | exact mid_get rfl | (simp; done)) ?_)
 try simp only [nf, Nat.reduceAdd]
 refine dT 4 rfl (by decide +kernel) rfl (by first | exact Sub.refl _ | exact Sub.del _ _ | exact Sub.del_set _ _ _) (hop_move ?_)
 try simp only [nf, Nat.reduceAdd]
 refine dT 5 rfl (by decide +kernel) rfl (by first | exact Sub.refl _ | exact Sub.del _ _ | exact Sub.del_set _ _ _) (hop_nilCheck rfl ?_)
 try simp only [nf, Nat.reduceAdd]
 refine dT 6 rfl (by decide +kernel) rfl (by first | exact Sub.refl _ | exact Sub.del _ _ | exact Sub.del_set _ _ _) (hop_fieldAddr rfl ?_)
 try simp only [nf, Nat.reduceAdd]
 refine dT 7 rfl (by decide +kernel) rfl (by first | exact Sub.refl _ | exact Sub.del _ _ | exact Sub.del_set _ _ _) (hop_load rfl (by solve_by_elim [hS, hN, hT, hT']) (by first | rfl | assumption | exact mid_get0 rfl | exact mid_get rfl | (simp; done)) ?_)
 try simp only [nf, Nat.reduceAdd]
 refine dT 8 rfl (by decide +kernel) rfl (by first | exact Sub.refl _ | exact Sub.del _ _ | exact Sub.del_set _ _ _) (hop_lenS rfl ?_)
 try simp only [nf, Nat.reduceAdd]
 refine dT 9 rfl (by decide +kernel) rfl (by first | exact Sub.refl _ | exact Sub.del _ _ | exact Sub.del_set _ _ _) (hop_bin rfl rfl rfl ?_)
 try simp only [nf, Nat.reduceAdd]
 refine dT 10 rfl (by decide +kernel) rfl (by first | exact Sub.refl _ | exact Sub.del _ _ | exact Sub.del_set _ _ _) (hop_assign ?_)
 try simp only [nf, Nat.reduceAdd]
 refine hD_done (by decide +kernel) ?_
 try simp only [nf, Nat.reduceAdd]
 refine hc_ret ?_
 try simp only [hng, hthen, hblock]
 refine hend_tmp rfl ?_
 exact ⟨rfl, rfl⟩
theorem fifo_Len {H : Hp} {q rb dep a n : Nat} {ring : List Jb} (hq : H q = some (row (qRow rb dep a n) 93)) (hr : H rb = some (row (flat jc ring) 76)) (hl : ring.length = dep) (ha : a < dep) (hn : n ≤ dep) (hdep : dep ≤ 1000) (hok : ∀ j ∈ ring, j.r.ok) :
    HT prog 29 #[.pointer (some ⟨q, 0, none⟩)] H (fun v H' => v = .int .i64 (n : Int) ∧ H = H') := by
 refine ht_of_body (args := [.pointer (some ⟨q, 0, none⟩)]) func29 rfl ?_
 simp only [ntmps29, List.length_cons, List.length_nil, Nat.reduceAdd, Nat.reduceSub, List.replicate_succ, List.replicate_zero, List.cons_append, List.nil_append]
 refine sR ?_
 refine oA ?_
 try simp only [nf, Nat.reduceAdd]
 refine hops_nil ?_
 try simp only [nf, Nat.reduceAdd]
 refine sR ?_
 refine oM ?_
 try simp only [nf, Nat.reduceAdd]
 refine oN rfl ?_
 try simp only [nf, Nat.reduceAdd]
 refine oF rfl ?_
 try simp only [nf, Nat.reduceAdd]
 refine hops_cons rfl (hop_load rfl (by solve_by_elim [hS, hN, hT, hT']) (by first | rfl | assumption | exact mid_get0 rfl | exact mid_get rfl | (simp; done)) ?_)
 try simp only [nf, Nat.reduceAdd]
 refine oA ?_
 try simp only [nf, Nat.reduceAdd]
 refine hops_nil ?_
 try simp only [nf, Nat.reduceAdd]
 refine hc_ret ?_
 try simp only [hng, hthen, hblock]
 refine hend_tmp rfl ?_
 exact ⟨rfl, rfl⟩
theorem fifo_Put_full {H : Hp} {q rb dep a n : Nat} {ring : List Jb} (hq : H q = some (row (qRow rb dep a n) 93)) (hr : H rb = some (row (flat jc ring) 76)) (hl : ring.length = dep) (ha : a < dep) (hn : n ≤ dep) (hdep : dep ≤ 1000) (hok : ∀ j ∈ ring, j.r.ok) (hf : n = dep) {j : Jb} :
    HT prog 24 #[.pointer (some ⟨q, 0, none⟩), .agg (jc j).toArray] H (fun v H' => v = .int .i64 8 ∧ H = H') := by
 have hb : ((n : Int) == dep) = true := by simp [hf]
 refine ht_of_body (args := [.pointer (some ⟨q, 0, none⟩), .agg (jc j).toArray]) func24 rfl ?_
 simp only [ntmps24, List.length_cons, List.length_nil, Nat.reduceAdd, Nat.reduceSub, List.replicate_succ, List.replicate_zero, List.cons_append, List.nil_append]
 refine sR ?_
 refine hops_cons rfl (hop_box (zl := jc j) rfl rfl ?_)
 intro jb hjb
 have sub := Sub.set_new (o := row (jc j) 76) hjb
 try simp only [pt, ev, List.getD_cons_zero, List.getD_cons_succ, List.set_cons_zero, List.set_cons_succ]
 refine oA ?_
 try simp only [nf, Nat.reduceAdd, hb]
 refine hops_nil ?_
 try simp only [nf, Nat.reduceAdd, hb]
 refine hc_seq ?_
 refine sR ?_
 refine oM ?_
 try simp only [nf, Nat.reduceAdd, hb]
 refine hops_cons rfl (hop_call ?_)
 simp only [nf, Nat.reduceAdd, hb]
 refine HT.mono (fifo_Full (sub _ _ hq) (sub _ _ hr) hl ha hn hdep hok) ?_
 rintro _ _ ⟨rfl, rfl⟩
 try simp only [nf, Nat.reduceAdd, hb]
 refine hops_nil ?_
 try simp only [nf, Nat.reduceAdd, hb]
 refine hc_T rfl (by first | rfl | assumption | (simp; done) | (simp; omega) | (simp [*]; done)) ?_
 refine sR ?_
 refine oA ?_
 try simp only [nf, Nat.reduceAdd, hb]
 refine hops_nil ?_
 try simp only [nf, Nat.reduceAdd, hb]
 refine hc_ret ?_
 try simp only [hng, hthen, hblock]
 exact hend_tmp_sub rfl sub ⟨rfl, rfl⟩
theorem fifo_Put_ok {H : Hp} {q rb dep a n : Nat} {ring : List Jb} (hq : H q = some (row (qRow rb dep a n) 93)) (hr : H rb = some (row (flat jc ring) 76)) (hl : ring.length = dep) (ha : a < dep) (hn : n ≤ dep) (hdep : dep ≤ 1000) (hok : ∀ j ∈ ring, j.r.ok) (hf : n < dep) {j : Jb} (hj : j.r.ok) :
    HT prog 24 #[.pointer (some ⟨q, 0, none⟩), .agg (jc j).toArray] H (fun v H' => v = .int .i64 0 ∧ H' = (H.set rb (row (flat jc (ring.set ((a + n) % dep) j)) 76)).set q (row (qRow rb dep a (n + 1)) 93)) := by
 have hqr := ne_row hq hr (by decide)
 have hrq := Ne.symm hqr
 have hb : ((n : Int) == dep) = false := by simp; omega
 have hm : (a + n) % dep < dep := Nat.mod_lt _ (by omega)
 obtain ⟨x, hx⟩ : ∃ x, ring[(a + n) % dep]? = some x := ⟨_, List.getElem?_eq_getElem (by omega)⟩
 have hA := flat_take_length (c := jc) (n := 6) (l := ring) (fun _ => rfl) (i := (a + n) % dep) (by omega)
 have hsp := flat_split (c := jc) hx
 refine ht_of_body (args := [.pointer (some ⟨q, 0, none⟩), .agg (jc j).toArray]) func24 rfl ?_
 simp only [ntmps24, List.length_cons, List.length_nil, Nat.reduceAdd, Nat.reduceSub, List.replicate_succ, List.replicate_zero, List.cons_append, List.nil_append]
 refine sR ?_
 refine hops_cons rfl (hop_box (zl := jc j) rfl rfl ?_)
 intro jb hjb
 have sub := Sub.set_new (o := row (jc j) 76) hjb
 have hq' := sub _ _ hq
 have hr' := sub _ _ hr
 try simp only [pt, ev, List.getD_cons_zero, List.getD_cons_succ, List.set_cons_zero, List.set_cons_succ]
 refine oA ?_
 try simp only [nf, Nat.reduceAdd, hb]
 refine hops_nil ?_
 try simp only [nf, Nat.reduceAdd, hb]
 refine hc_seq ?_
 refine sR ?_
 refine oM ?_
 try simp only [nf, Nat.reduceAdd, hb]
 refine hops_cons rfl (hop_call ?_)
 simp only [nf, Nat.reduceAdd, hb]
 refine HT.mono (fifo_Full hq' hr' hl ha hn hdep hok) ?_
 rintro _ _ ⟨rfl, rfl⟩
 try simp only [nf, Nat.reduceAdd, hb]
 refine hops_nil ?_
 try simp only [nf, Nat.reduceAdd, hb]
 refine hc_F rfl (by first | rfl | assumption | (simp; done) | (simp; omega) | (simp [*]; done)) ?_
 refine hc_skip ?_
 try simp only [nf, Nat.reduceAdd, hb]
 refine hc_seq ?_
 refine hc_draw ((H.set jb (row (jc j) 76)).del rb) follows (by intros; simp [hng, hthen, hblock, hend]) ?_
 refine dT 0 rfl (by decide +kernel) rfl (by first | exact Sub.refl _ | exact Sub.del _ _ | exact Sub.del_set _ _ _) (hop_move ?_)
 try simp only [nf, Nat.reduceAdd, hb]
 refine dT 1 rfl (by decide +kernel) rfl (by first | exact Sub.refl _ | exact Sub.del _ _ | exact Sub.del_set _ _ _) (hop_nilCheck rfl ?_)
 try simp only [nf, Nat.reduceAdd, hb]
 refine dT 2 rfl (by decide +kernel) rfl (by first | exact Sub.refl _ | exact Sub.del _ _ | exact Sub.del_set _ _ _) (hop_fieldAddr rfl ?_)
 try simp only [nf, Nat.reduceAdd, hb]
 refine dT 3 rfl (by decide +kernel) rfl (by first | exact Sub.refl _ | exact Sub.del _ _ | exact Sub.del_set _ _ _) (hop_load rfl (Hp.get_del hqr hq') rfl ?_)
 try simp only [nf, Nat.reduceAdd, hb]
 refine dT 4 rfl (by decide +kernel) rfl (by first | exact Sub.refl _ | exact Sub.del _ _ | exact Sub.del_set _ _ _) (hop_move ?_)
 try simp only [nf, Nat.reduceAdd, hb]
 refine dT 5 rfl (by decide +kernel) rfl (by first | exact Sub.refl _ | exact Sub.del _ _ | exact Sub.del_set _ _ _) (hop_nilCheck rfl ?_)
 try simp only [nf, Nat.reduceAdd, hb]
 refine dT 6 rfl (by decide +kernel) rfl (by first | exact Sub.refl _ | exact Sub.del _ _ | exact Sub.del_set _ _ _) (hop_fieldAddr rfl ?_)
 try simp only [nf, Nat.reduceAdd, hb]
 refine dT 7 rfl (by decide +kernel) rfl (by first | exact Sub.refl _ | exact Sub.del _ _ | exact Sub.del_set _ _ _) (hop_load rfl (Hp.get_del hqr hq') rfl ?_)
 try simp only [nf, Nat.reduceAdd, hb]
 refine dT 8 rfl (by decide +kernel) rfl (by first | exact Sub.refl _ | exact Sub.del _ _ | exact Sub.del_set _ _ _) (hop_move ?_)
 try simp only [nf, Nat.reduceAdd, hb]
 refine dT 9 rfl (by decide +kernel) rfl (by first | exact Sub.refl _ | exact Sub.del _ _ | exact Sub.del_set _ _ _) (hop_nilCheck rfl ?_)
 try simp only [nf, Nat.reduceAdd, hb]
 refine dT 10 rfl (by decide +kernel) rfl (by first | exact Sub.refl _ | exact Sub.del _ _ | exact Sub.del_set _ _ _) (hop_fieldAddr rfl ?_)
 try simp only [nf, Nat.reduceAdd, hb]
 refine dT 11 rfl (by decide +kernel) rfl (by first | exact Sub.refl _ | exact Sub.del _ _ | exact Sub.del_set _ _ _) (hop_load rfl (Hp.get_del hqr hq') rfl ?_)
 try simp only [nf, Nat.reduceAdd, hb]
 refine dT 12 rfl (by decide +kernel) rfl (by first | exact Sub.refl _ | exact Sub.del _ _ | exact Sub.del_set _ _ _) (hop_add rfl rfl (by omega) ?_)
 try simp only [nf, Nat.reduceAdd, hb]
 refine dT 13 rfl (by decide +kernel) rfl (by first | exact Sub.refl _ | exact Sub.del _ _ | exact Sub.del_set _ _ _) (hop_move ?_)
 try simp only [nf, Nat.reduceAdd, hb]
 refine dT 14 rfl (by decide +kernel) rfl (by first | exact Sub.refl _ | exact Sub.del _ _ | exact Sub.del_set _ _ _) (hop_nilCheck rfl ?_)
 try simp only [nf, Nat.reduceAdd, hb]
 refine dT 15 rfl (by decide +kernel) rfl (by first | exact Sub.refl _ | exact Sub.del _ _ | exact Sub.del_set _ _ _) (hop_fieldAddr rfl ?_)
 try simp only [nf, Nat.reduceAdd, hb]
 refine dT 16 rfl (by decide +kernel) rfl (by first | exact Sub.refl _ | exact Sub.del _ _ | exact Sub.del_set _ _ _) (hop_load rfl (Hp.get_del hqr hq') rfl ?_)
 try simp only [nf, Nat.reduceAdd, hb]
 refine dT 17 rfl (by decide +kernel) rfl (by first | exact Sub.refl _ | exact Sub.del _ _ | exact Sub.del_set _ _ _) (hop_lenS rfl ?_)
 try simp only [nf, Nat.reduceAdd, hb]
 refine dT 18 rfl (by decide +kernel) rfl (by first | exact Sub.refl _ | exact Sub.del _ _ | exact Sub.del_set _ _ _) (hop_remN (a := a + n) (b := dep) rfl rfl (by omega) ?_)
 try simp only [nf, Nat.reduceAdd, hb]
 have hjr : jb ≠ rb := (Hp.ne_of hr hjb).symm
 refine dT 19 rfl (by decide +kernel) rfl (by first | exact Sub.refl _ | exact Sub.del _ _ | exact Sub.del_set _ _ _) (hop_loadA rfl (Hp.get_del hjr (Hp.set_same _ _ _)) (by simp [jc, rqc]) ?_)
 try simp only [pt, ev, List.getD_cons_zero, List.getD_cons_succ, List.set_cons_zero, List.set_cons_succ]
 refine dT 20 rfl (by decide +kernel) rfl (by first | exact Sub.refl _ | exact Sub.del _ _ | exact Sub.del_set _ _ _) (hop_indexAddr (i := (((a + n) % dep : Nat) : Int)) (b := rb) (o := 0) (n := 6) (len := dep) (cap := dep) rfl rfl (by omega) (by omega) ?_)
 simp only [Int.toNat_natCast, Nat.zero_add, ← hA]
 try simp only [pt, ev, List.getD_cons_zero, List.getD_cons_succ, List.set_cons_zero, List.set_cons_succ]
 refine hD_do 21 rfl (by decide +kernel) rfl (hop_storeA (n := 6) (vs := jc j) rfl rfl rfl (one_jc hj) (by rw [hsp] at hr'; exact hr') (by simp [jc, rqc] <;> omega) (by decide) ?_)
 try simp only [nf, Nat.reduceAdd, hb]
 refine ⟨.inl (by decide +kernel), ?_⟩
 try simp only [nf, Nat.reduceAdd, hb]
 refine hD_done (by decide +kernel) ?_
 try simp only [nf, Nat.reduceAdd, hb]
 refine sR ?_
 refine oM ?_
 try simp only [nf, Nat.reduceAdd, hb]
 refine oN rfl ?_
 try simp only [nf, Nat.reduceAdd, hb]
 refine oF rfl ?_
 try simp only [nf, Nat.reduceAdd, hb]
 refine hops_cons rfl (hop_load rfl (Hp.get_there hqr hq') rfl ?_)
 try simp only [nf, Nat.reduceAdd, hb]
 refine hops_cons rfl (hop_add rfl rfl (by omega) ?_)
 try simp only [nf, Nat.reduceAdd, hb]
 refine oN rfl ?_
 try simp only [nf, Nat.reduceAdd, hb]
 refine oF rfl ?_
 try simp only [nf, Nat.reduceAdd, hb]
 refine hops_cons rfl (hop_store rfl rfl rfl (Hp.get_there hqr hq') (by simp [qRow]) ?_)
 try simp only [nf, Nat.reduceAdd, hb]
 refine hops_nil ?_
 try simp only [nf, Nat.reduceAdd, hb]
 refine sR ?_
 refine oA ?_
 try simp only [nf, Nat.reduceAdd, hb]
 refine hops_nil ?_
 try simp only [nf, Nat.reduceAdd, hb]
 refine hc_ret ?_
 try simp only [hng, hthen, hblock]
 refine hend_tmp_sub rfl ?_ ⟨rfl, rfl⟩
 rw [flat_set hx, mid_wr (by rfl)]
 exact (sub.set _ _).set _ _
theorem fifo_First_no {H : Hp} {q rb dep a n : Nat} {ring : List Jb} (hq : H q = some (row (qRow rb dep a n) 93)) (hr : H rb = some (row (flat jc ring) 76)) (hl : ring.length = dep) (ha : a < dep) (hn : n ≤ dep) (hdep : dep ≤ 1000) (hok : ∀ j ∈ ring, j.r.ok) (h0 : n = 0) :
    HT prog 36 #[.pointer (some ⟨q, 0, none⟩)] H (fun v H' => v = .tuple #[.agg (jc Jb.zero).toArray, .bool false] ∧ H = H') := by
 refine ht_of_body (args := [.pointer (some ⟨q, 0, none⟩)]) func36 rfl ?_
 simp only [ntmps36, List.length_cons, List.length_nil, Nat.reduceAdd, Nat.reduceSub, List.replicate_succ, List.replicate_zero, List.cons_append, List.nil_append]
 refine sR ?_
 refine hops_cons rfl (hop_allocJb ?_)
 intro r hr1
 have subr := Sub.set_new (o := row (jc Jb.zero) 76) hr1
 try simp only [pt, ev, List.getD_cons_zero, List.getD_cons_succ, List.set_cons_zero, List.set_cons_succ]
 refine oA ?_
 try simp only [nf, Nat.reduceAdd]
 refine hops_nil ?_
 try simp only [nf, Nat.reduceAdd]
 refine sR ?_
 refine hops_cons rfl (hop_allocJb ?_)
 intro r4 hr4
 have sub := subr.trans (Sub.set_new (o := row (jc Jb.zero) 76) hr4)
 obtain ⟨hr4r, hr40⟩ := Hp.set_none.1 hr4
 have hq' := sub _ _ hq
 have hr' := sub _ _ hr
 have hrr4 := Ne.symm hr4r
 try simp only [pt, ev, List.getD_cons_zero, List.getD_cons_succ, List.set_cons_zero, List.set_cons_succ]
 refine hops_nil ?_
 try simp only [nf, Nat.reduceAdd]
 refine hc_seq ?_
 refine sR ?_
 refine oM ?_
 try simp only [nf, Nat.reduceAdd]
 refine oN rfl ?_
 try simp only [nf, Nat.reduceAdd]
 refine oF rfl ?_
 try simp only [nf, Nat.reduceAdd]
 refine hops_cons rfl (hop_load (v := .int .i64 0) rfl hq' (by subst h0; rfl) ?_)
 try simp only [nf, Nat.reduceAdd]
 refine hops_cons rfl (hop_bin rfl rfl rfl ?_)
 try simp only [nf, Nat.reduceAdd]
 refine hops_nil ?_
 try simp only [nf, Nat.reduceAdd]
 refine hc_T rfl (by first | rfl | assumption | (simp; done) | (simp; omega) | (simp [*]; done)) ?_
 refine sR ?_
 refine hops_cons rfl (hop_loadA rfl (Hp.set_same _ _ _) (by decide) ?_)
 try simp only [nf, Nat.reduceAdd]
 refine hops_cons rfl (hop_storeA (n := 6) (vs := jc Jb.zero) rfl rfl rfl (one_jc rfl) (Hp.get_there hrr4 (Hp.set_same _ _ _)) (by decide) (by decide) ?_)
 try simp only [nf, Nat.reduceAdd]
 refine oA ?_
 try simp only [nf, Nat.reduceAdd]
 refine hops_nil ?_
 try simp only [nf, Nat.reduceAdd]
 refine hc_ret ?_
 try simp only [hng, hthen, hblock]
 exact hend_mem (H' := H) (sub.trans (by rw [wr_all rfl, Hp.set_eq _ (Hp.get_there hrr4 (Hp.set_same _ _ _))]; exact Sub.refl _)) (hw_res_cell_tmp rfl rfl (Hp.set_same _ _ _) rfl rfl) ⟨rfl, rfl⟩
theorem fifo_First_ok {H : Hp} {q rb dep a n : Nat} {ring : List Jb} (hq : H q = some (row (qRow rb dep a n) 93)) (hr : H rb = some (row (flat jc ring) 76)) (hl : ring.length = dep) (ha : a < dep) (hn : n ≤ dep) (hdep : dep ≤ 1000) (hok : ∀ j ∈ ring, j.r.ok) (h0 : 0 < n) {x : Jb} (hx : ring[a]? = some x) :
    HT prog 36 #[.pointer (some ⟨q, 0, none⟩)] H (fun v H' => v = .tuple #[.agg (jc x).toArray, .bool true] ∧ H = H') := by
 have hqr := ne_row hq hr (by decide)
 have hrq := Ne.symm hqr
 have hA := flat_take_length (c := jc) (n := 6) (l := ring) (fun _ => rfl) (i := a) (by omega)
 have hsp := flat_split (c := jc) hx
 have hxo := hok x (List.mem_of_getElem? hx)
 refine ht_of_body (args := [.pointer (some ⟨q, 0, none⟩)]) func36 rfl ?_
 simp only [ntmps36, List.length_cons, List.length_nil, Nat.reduceAdd, Nat.reduceSub, List.replicate_succ, List.replicate_zero, List.cons_append, List.nil_append]
 refine sR ?_
 refine hops_cons rfl (hop_allocJb ?_)
 intro r hr1
 have subr := Sub.set_new (o := row (jc Jb.zero) 76) hr1
 try simp only [pt, ev, List.getD_cons_zero, List.getD_cons_succ, List.set_cons_zero, List.set_cons_succ]
 refine oA ?_
 try simp only [nf, Nat.reduceAdd]
 refine hops_nil ?_
 try simp only [nf, Nat.reduceAdd]
 refine sR ?_
 refine hops_cons rfl (hop_allocJb ?_)
 intro r4 hr4
 have sub := subr.trans (Sub.set_new (o := row (jc Jb.zero) 76) hr4)
 obtain ⟨hr4r, hr40⟩ := Hp.set_none.1 hr4
 have hq' := sub _ _ hq
 have hr' := sub _ _ hr
 have hrr4 := Ne.symm hr4r
 try simp only [pt, ev, List.getD_cons_zero, List.getD_cons_succ, List.set_cons_zero, List.set_cons_succ]
 refine hops_nil ?_
 try simp only [nf, Nat.reduceAdd]
 refine hc_seq ?_
 refine sR ?_
 refine oM ?_
 try simp only [nf, Nat.reduceAdd]
 refine oN rfl ?_
 try simp only [nf, Nat.reduceAdd]
 refine oF rfl ?_
 try simp only [nf, Nat.reduceAdd]
 refine hops_cons rfl (hop_load rfl hq' rfl ?_)
 try simp only [nf, Nat.reduceAdd]
 refine hops_cons rfl (hop_bin rfl rfl rfl ?_)
 try simp only [nf, Nat.reduceAdd]
 refine hops_nil ?_
 try simp only [nf, Nat.reduceAdd]
 refine hc_F rfl (by first | rfl | assumption | (simp; done) | (simp; omega) | (simp [*]; done)) ?_
 refine hc_skip ?_
 try simp only [nf, Nat.reduceAdd]
 refine hc_seq ?_
 refine hc_draw (((H.set r (row (jc Jb.zero) 76)).set r4 (row (jc Jb.zero) 76)).del r) follows (by intros; simp [hng, hthen, hblock, hend]) ?_
 refine dT 0 rfl (by decide +kernel) rfl (by first | exact Sub.refl _ | exact Sub.del _ _ | exact Sub.del_set _ _ _) (hop_move ?_)
 try simp only [nf, Nat.reduceAdd]
 refine dT 1 rfl (by decide +kernel) rfl (by first | exact Sub.refl _ | exact Sub.del _ _ | exact Sub.del_set _ _ _) (hop_nilCheck rfl ?_)
 try simp only [nf, Nat.reduceAdd]
 refine dT 2 rfl (by decide +kernel) rfl (by first | exact Sub.refl _ | exact Sub.del _ _ | exact Sub.del_set _ _ _) (hop_fieldAddr rfl ?_)
 try simp only [nf, Nat.reduceAdd]
 refine dT 3 rfl (by decide +kernel) rfl (by first | exact Sub.refl _ | exact Sub.del _ _ | exact Sub.del_set _ _ _) (hop_load rfl (Hp.get_del (Hp.ne_of hq hr1) hq') rfl ?_)
 try simp only [nf, Nat.reduceAdd]
 refine dT 4 rfl (by decide +kernel) rfl (by first | exact Sub.refl _ | exact Sub.del _ _ | exact Sub.del_set _ _ _) (hop_move ?_)
 try simp only [nf, Nat.reduceAdd]
 refine dT 5 rfl (by decide +kernel) rfl (by first | exact Sub.refl _ | exact Sub.del _ _ | exact Sub.del_set _ _ _) (hop_nilCheck rfl ?_)
 try simp only [nf, Nat.reduceAdd]
 refine dT 6 rfl (by decide +kernel) rfl (by first | exact Sub.refl _ | exact Sub.del _ _ | exact Sub.del_set _ _ _) (hop_fieldAddr rfl ?_)
 try simp only [nf, Nat.reduceAdd]
 refine dT 7 rfl (by decide +kernel) rfl (by first | exact Sub.refl _ | exact Sub.del _ _ | exact Sub.del_set _ _ _) (hop_load rfl (Hp.get_del (Hp.ne_of hq hr1) hq') rfl ?_)
 try simp only [nf, Nat.reduceAdd]
 refine dT 8 rfl (by decide +kernel) rfl (by first | exact Sub.refl _ | exact Sub.del _ _ | exact Sub.del_set _ _ _) (hop_indexAddr (i := (a : Int)) (b := rb) (o := 0) (n := 6) (len := dep) (cap := dep) rfl rfl (by omega) (by omega) ?_)
 simp only [Int.toNat_natCast, Nat.zero_add, ← hA]
 try simp only [pt, ev, List.getD_cons_zero, List.getD_cons_succ, List.set_cons_zero, List.set_cons_succ]
 refine dT 9 rfl (by decide +kernel) rfl (by first | exact Sub.refl _ | exact Sub.del _ _ | exact Sub.del_set _ _ _) (hop_loadA rfl (Hp.get_del (Hp.ne_of hr hr1) hr') (by rw [hsp]; simp [jc, rqc] <;> omega) ?_)
 try simp only [nf, Nat.reduceAdd]
 refine hD_do 10 rfl (by decide +kernel) rfl (hop_storeA (n := 6) (vs := jc x) rfl (by simp only [ev, List.getD_cons_zero, List.getD_cons_succ]; rw [hsp, mid_take (n := 6) (C := jc x) rfl]) rfl (one_jc hxo) (Hp.get_there hrr4 (Hp.set_same _ _ _)) (by decide) (by decide) ?_)
 try simp only [nf, Nat.reduceAdd]
 refine ⟨.inr (Sub.del_set _ _ _), ?_⟩
 try simp only [nf, Nat.reduceAdd]
 refine dT 11 rfl (by decide +kernel) rfl (by first | exact Sub.refl _ | exact Sub.del _ _ | exact Sub.del_set _ _ _) (hop_assign ?_)
 try simp only [nf, Nat.reduceAdd]
 refine hD_done (by decide +kernel) ?_
 try simp only [nf, Nat.reduceAdd]
 refine hc_ret ?_
 try simp only [hng, hthen, hblock]
 rw [wr_all (L := jc Jb.zero) (vs := jc x) rfl]
 exact hend_mem (H' := H) (Sub.over (subr.trans (Sub.set_new hr4)) hr1 _) (hw_res_cell_tmp rfl rfl (Hp.set_same _ _ _) rfl rfl) ⟨rfl, rfl⟩
theorem fifo_Take_ok {H : Hp} {q rb dep a n : Nat} {ring : List Jb} (hq : H q = some (row (qRow rb dep a n) 93)) (hr : H rb = some (row (flat jc ring) 76)) (hl : ring.length = dep) (ha : a < dep) (hn : n ≤ dep) (hdep : dep ≤ 1000) (hok : ∀ j ∈ ring, j.r.ok) (h0 : 0 < n) {x : Jb} (hx : ring[a]? = some x) :
    HT prog 39 #[.pointer (some ⟨q, 0, none⟩)] H (fun v H' => v = .tuple #[.agg (jc x).toArray, .bool true] ∧ H' = (H.set rb (row (flat jc (ring.set a Jb.zero)) 76)).set q (row (qRow rb dep ((a + 1) % dep) (n - 1)) 93)) := by
 have hqr := ne_row hq hr (by decide)
 have hrq := Ne.symm hqr
 have hA := flat_take_length (c := jc) (n := 6) (l := ring) (fun _ => rfl) (i := a) (by omega)
 have hsp := flat_split (c := jc) hx
 have hxo := hok x (List.mem_of_getElem? hx)
 refine ht_of_body (args := [.pointer (some ⟨q, 0, none⟩)]) func39 rfl ?_
 simp only [ntmps39, List.length_cons, List.length_nil, Nat.reduceAdd, Nat.reduceSub, List.replicate_succ, List.replicate_zero, List.cons_append, List.nil_append]
 refine sR ?_
 refine hops_cons rfl (hop_allocJb ?_)
 intro r hr1
 have subr := Sub.set_new (o := row (jc Jb.zero) 76) hr1
 have hqa := subr _ _ hq
 have hra := subr _ _ hr
 try simp only [pt, ev, List.getD_cons_zero, List.getD_cons_succ, List.set_cons_zero, List.set_cons_succ]
 refine oA ?_
 try simp only [nf, Nat.reduceAdd]
 refine hops_nil ?_
 try simp only [nf, Nat.reduceAdd]
 refine sR ?_
 refine oM ?_
 try simp only [nf, Nat.reduceAdd]
 refine hops_cons rfl (hop_call ?_)
 simp only [nf, Nat.reduceAdd]
 refine HT.mono (fifo_First_ok hqa hra hl ha hn hdep hok h0 hx) ?_
 rintro _ _ ⟨rfl, rfl⟩
 try simp only [nf, Nat.reduceAdd]
 refine oM ?_
 try simp only [nf, Nat.reduceAdd]
 refine hops_cons rfl (hop_extract rfl rfl ?_)
 try simp only [nf, Nat.reduceAdd]
 refine hops_cons rfl (hop_extract rfl rfl ?_)
 try simp only [nf, Nat.reduceAdd]
 refine hops_cons rfl (hop_allocJb ?_)
 intro r4 hr4
 have sub := subr.trans (Sub.set_new (o := row (jc Jb.zero) 76) hr4)
 obtain ⟨hr4r, hr40⟩ := Hp.set_none.1 hr4
 have hrr4 := Ne.symm hr4r
 try simp only [pt, ev, List.getD_cons_zero, List.getD_cons_succ, List.set_cons_zero, List.set_cons_succ]
 refine hops_cons rfl (hop_storeA (n := 6) (vs := jc x) rfl rfl rfl (one_jc hxo) (Hp.set_same _ _ _) (by decide) (by decide) ?_)
 rw [wr_all (L := jc Jb.zero) (vs := jc x) rfl, Hp.set_set]
 have sub4 : Sub H ((H.set r (row (jc Jb.zero) 76)).set r4 (row (jc x) 76)) := Sub.over subr hr40 _
 have hq' := sub4 _ _ hq
 have hr' := sub4 _ _ hr
 have hr4v : ((H.set r (row (jc Jb.zero) 76)).set r4 (row (jc x) 76)) r4 = _ := Hp.set_same _ _ _
 have hrv : ((H.set r (row (jc Jb.zero) 76)).set r4 (row (jc x) 76)) r = _ := Hp.get_there hrr4 (Hp.set_same _ _ _)
 have nq := Hp.ne_of hq hr1
 have nq4 := Hp.ne_of hq hr40
 have nr := Hp.ne_of hr hr1
 have nr4 := Hp.ne_of hr hr40
 try simp only [pt, ev, List.getD_cons_zero, List.getD_cons_succ, List.set_cons_zero, List.set_cons_succ]
 generalize (H.set r (row (jc Jb.zero) 76)).set r4 (row (jc x) 76) = H2 at *
 refine oA ?_
 try simp only [nf, Nat.reduceAdd]
 refine hops_nil ?_
 try simp only [nf, Nat.reduceAdd]
 refine hc_seq ?_
 refine sR ?_
 refine oM ?_
 try simp only [nf, Nat.reduceAdd]
 refine hops_nil ?_
 try simp only [nf, Nat.reduceAdd]
 refine hc_T rfl (by first | rfl | assumption | (simp; done) | (simp; omega) | (simp [*]; done)) ?_
 refine hc_seq ?_
 refine hc_draw (H2.del rb) follows (by intros; simp [hng, hthen, hblock, hend]) ?_
 refine dT 0 rfl (by decide +kernel) rfl (by first | exact Sub.refl _ | exact Sub.del _ _ | exact Sub.del_set _ _ _) (hop_move ?_)
 try simp only [nf, Nat.reduceAdd]
 refine dT 1 rfl (by decide +kernel) rfl (by first | exact Sub.refl _ | exact Sub.del _ _ | exact Sub.del_set _ _ _) (hop_nilCheck rfl ?_)
 try simp only [nf, Nat.reduceAdd]
 refine dT 2 rfl (by decide +kernel) rfl (by first | exact Sub.refl _ | exact Sub.del _ _ | exact Sub.del_set _ _ _) (hop_fieldAddr rfl ?_)
 try simp only [nf, Nat.reduceAdd]
 refine dT 3 rfl (by decide +kernel) rfl (by first | exact Sub.refl _ | exact Sub.del _ _ | exact Sub.del_set _ _ _) (hop_load rfl (Hp.get_del hqr hq') rfl ?_)
 try simp only [nf, Nat.reduceAdd]
 refine dT 4 rfl (by decide +kernel) rfl (by first | exact Sub.refl _ | exact Sub.del _ _ | exact Sub.del_set _ _ _) (hop_move ?_)
 try simp only [nf, Nat.reduceAdd]
 refine dT 5 rfl (by decide +kernel) rfl (by first | exact Sub.refl _ | exact Sub.del _ _ | exact Sub.del_set _ _ _) (hop_nilCheck rfl ?_)
 try simp only [nf, Nat.reduceAdd]
 refine dT 6 rfl (by decide +kernel) rfl (by first | exact Sub.refl _ | exact Sub.del _ _ | exact Sub.del_set _ _ _) (hop_fieldAddr rfl ?_)
 try simp only [nf, Nat.reduceAdd]
 refine dT 7 rfl (by decide +kernel) rfl (by first | exact Sub.refl _ | exact Sub.del _ _ | exact Sub.del_set _ _ _) (hop_load rfl (Hp.get_del hqr hq') rfl ?_)
 try simp only [nf, Nat.reduceAdd]
 refine dT 8 rfl (by decide +kernel) rfl (by first | exact Sub.refl _ | exact Sub.del _ _ | exact Sub.del_set _ _ _) (hop_move ?_)
 try simp only [nf, Nat.reduceAdd]
 refine dT 9 rfl (by decide +kernel) rfl (by first | exact Sub.refl _ | exact Sub.del _ _ | exact Sub.del_set _ _ _) (hop_nilCheck rfl ?_)
 try simp only [nf, Nat.reduceAdd]
 refine dT 10 rfl (by decide +kernel) rfl (by first | exact Sub.refl _ | exact Sub.del _ _ | exact Sub.del_set _ _ _) (hop_fieldAddr rfl ?_)
 try simp only [nf, Nat.reduceAdd]
 refine dT 11 rfl (by decide +kernel) rfl (by first | exact Sub.refl _ | exact Sub.del _ _ | exact Sub.del_set _ _ _) (hop_load rfl (Hp.get_del hqr hq') rfl ?_)
 try simp only [nf, Nat.reduceAdd]
 refine dT 12 rfl (by decide +kernel) rfl (by first | exact Sub.refl _ | exact Sub.del _ _ | exact Sub.del_set _ _ _) (hop_add rfl rfl (by omega) ?_)
 try simp only [nf, Nat.reduceAdd]
 refine dT 13 rfl (by decide +kernel) rfl (by first | exact Sub.refl _ | exact Sub.del _ _ | exact Sub.del_set _ _ _) (hop_sliceS rfl (a := a) (c := a + 1) (by simp [bd, ev]) (by simp [bd, ev]; omega) (by omega) (by omega) ?_)
 rw [if_neg (show ¬ dep = a by omega), Nat.add_sub_cancel_left, Nat.zero_add]
 try simp only [pt, ev, List.getD_cons_zero, List.getD_cons_succ, List.set_cons_zero, List.set_cons_succ]
 refine hD_do 14 rfl (by decide +kernel) rfl (hop_clearJ rfl hr' hx ?_)
 try simp only [nf, Nat.reduceAdd]
 refine ⟨.inl (by decide +kernel), ?_⟩
 try simp only [nf, Nat.reduceAdd]
 refine hD_done (by decide +kernel) ?_
 try simp only [nf, Nat.reduceAdd]
 refine hc_seq ?_
 refine hc_draw0 follows (by intros; simp [hng, hthen, hblock, hend]) ?_
 refine dT 0 rfl (by decide +kernel) rfl (by first | exact Sub.refl _ | exact Sub.del _ _ | exact Sub.del_set _ _ _) (hop_move ?_)
 try simp only [nf, Nat.reduceAdd]
 refine dT 1 rfl (by decide +kernel) rfl (by first | exact Sub.refl _ | exact Sub.del _ _ | exact Sub.del_set _ _ _) (hop_move ?_)
 try simp only [nf, Nat.reduceAdd]
 refine dT 2 rfl (by decide +kernel) rfl (by first | exact Sub.refl _ | exact Sub.del _ _ | exact Sub.del_set _ _ _) (hop_nilCheck rfl ?_)
 try simp only [nf, Nat.reduceAdd]
 refine dT 3 rfl (by decide +kernel) rfl (by first | exact Sub.refl _ | exact Sub.del _ _ | exact Sub.del_set _ _ _) (hop_fieldAddr rfl ?_)
 try simp only [nf, Nat.reduceAdd]
 refine dT 4 rfl (by decide +kernel) rfl (by first | exact Sub.refl _ | exact Sub.del _ _ | exact Sub.del_set _ _ _) (hop_load rfl (by simp only [Hp.set_ne _ _ hqr]; exact hq') rfl ?_)
 try simp only [nf, Nat.reduceAdd]
 refine dT 5 rfl (by decide +kernel) rfl (by first | exact Sub.refl _ | exact Sub.del _ _ | exact Sub.del_set _ _ _) (hop_add rfl rfl (by omega) ?_)
 try simp only [nf, Nat.reduceAdd]
 refine dT 6 rfl (by decide +kernel) rfl (by first | exact Sub.refl _ | exact Sub.del _ _ | exact Sub.del_set _ _ _) (hop_move ?_)
 try simp only [nf, Nat.reduceAdd]
 refine dT 7 rfl (by decide +kernel) rfl (by first | exact Sub.refl _ | exact Sub.del _ _ | exact Sub.del_set _ _ _) (hop_nilCheck rfl ?_)
 try simp only [nf, Nat.reduceAdd]
 refine dT 8 rfl (by decide +kernel) rfl (by first | exact Sub.refl _ | exact Sub.del _ _ | exact Sub.del_set _ _ _) (hop_fieldAddr rfl ?_)
 try simp only [nf, Nat.reduceAdd]
 refine dT 9 rfl (by decide +kernel) rfl (by first | exact Sub.refl _ | exact Sub.del _ _ | exact Sub.del_set _ _ _) (hop_load rfl (by simp only [Hp.set_ne _ _ hqr]; exact hq') rfl ?_)
 try simp only [nf, Nat.reduceAdd]
 refine dT 10 rfl (by decide +kernel) rfl (by first | exact Sub.refl _ | exact Sub.del _ _ | exact Sub.del_set _ _ _) (hop_lenS rfl ?_)
 try simp only [nf, Nat.reduceAdd]
 refine dT 11 rfl (by decide +kernel) rfl (by first | exact Sub.refl _ | exact Sub.del _ _ | exact Sub.del_set _ _ _) (hop_remN (a := a + 1) (b := dep) rfl rfl (by omega) ?_)
 try simp only [nf, Nat.reduceAdd]
 refine dT 12 rfl (by decide +kernel) rfl (by first | exact Sub.refl _ | exact Sub.del _ _ | exact Sub.del_set _ _ _) (hop_nilCheck rfl ?_)
 try simp only [nf, Nat.reduceAdd]
 refine dT 13 rfl (by decide +kernel) rfl (by first | exact Sub.refl _ | exact Sub.del _ _ | exact Sub.del_set _ _ _) (hop_fieldAddr rfl ?_)
 try simp only [nf, Nat.reduceAdd]
 refine hD_do 14 rfl (by decide +kernel) rfl (hop_store rfl rfl rfl (by simp only [Hp.set_ne _ _ hqr]; exact hq') (by simp [qRow]) ?_)
 try simp only [nf, Nat.reduceAdd]
 refine ⟨.inl (by decide +kernel), ?_⟩
 try simp only [nf, Nat.reduceAdd]
 refine hD_done (by decide +kernel) ?_
 try simp only [nf, Nat.reduceAdd]
 refine hc_region ?_
 refine oM ?_
 try simp only [nf, Nat.reduceAdd]
 refine oN rfl ?_
 try simp only [nf, Nat.reduceAdd]
 refine oF rfl ?_
 try simp only [nf, Nat.reduceAdd]
 refine hops_cons rfl (hop_load rfl (by solve_by_elim [hS, hN, hT, hT']) (by first | rfl | assumption | exact mid_get0 rfl | exact mid_get rfl | (simp; done)) ?_)
 try simp only [nf, Nat.reduceAdd]
 refine hops_cons rfl (hop_sub rfl rfl (by omega) ?_)
 rw [show ((n : Int) - 1) = ((n - 1 : Nat) : Int) by omega]
 try simp only [pt, ev, List.getD_cons_zero, List.getD_cons_succ, List.set_cons_zero, List.set_cons_succ]
 refine oN rfl ?_
 try simp only [nf, Nat.reduceAdd]
 refine oF rfl ?_
 try simp only [nf, Nat.reduceAdd]
 refine hops_cons rfl (hop_store rfl rfl rfl (by solve_by_elim [hS, hN, hT, hT']) (by simp [qRow]) ?_)
 try simp only [nf, Nat.reduceAdd]
 refine hops_nil ?_
 try simp only [nf, Nat.reduceAdd]
 refine sR ?_
 refine hops_cons rfl (hop_loadA rfl (by solve_by_elim [hS, hN, hT, hT']) (by simp [jc, rqc]) ?_)
 try simp only [nf, Nat.reduceAdd]
 refine oM ?_
 try simp only [nf, Nat.reduceAdd]
 refine hops_cons rfl (hop_storeA (n := 6) (vs := jc x) rfl rfl rfl (one_jc hxo) (by solve_by_elim [hS, hN, hT, hT']) (by decide) (by decide) ?_)
 try simp only [nf, Nat.reduceAdd]
 refine oA ?_
 try simp only [nf, Nat.reduceAdd]
 refine hops_nil ?_
 try simp only [nf, Nat.reduceAdd]
 refine hc_ret ?_
 try simp only [hng, hthen, hblock]
 rw [wr_all (L := jc Jb.zero) (vs := jc x) rfl]
 exact hend_mem (Sub.over ((sub4.set _ _).set _ _) (Hp.set_none.2 ⟨nq.symm, Hp.set_none.2 ⟨nr.symm, hr1⟩⟩) _) (hw_res_cell_tmp rfl rfl (Hp.set_same _ _ _) rfl rfl) ⟨rfl, rfl⟩
end Go.Proofs.Try
