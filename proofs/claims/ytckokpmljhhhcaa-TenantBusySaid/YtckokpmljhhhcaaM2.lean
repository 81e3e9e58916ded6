/- A part of the proofs over the tenants of a page cache: lemmas on what is known of the memory, and contracts of the Go functions. -/
import Derived.Test.YtckokpmljhhhcaaN8
import Derived.Test.YtckokpmljhhhcaaM1
import Derived.Test.YtckokpmljhhhcaaF5
set_option linter.unusedVariables false
set_option linter.unusedSimpArgs false
namespace Go.Proofs.Try
open Go Go.H
set_option linter.unusedSimpArgs false
set_option linter.unusedVariables false
set_option maxRecDepth 100000
set_option maxHeartbeats 2000000
theorem RetS.piece {H0 H' : Hp} {A : List Value} {n sz : Nat} {t : TypeId} {v : Value} (h : RetS H0 A n t sz v H') : ∃ Hn, OwnS Hn v n A t sz ∧ Sub Hn H' ∧ Disj Hn H0 := by
  obtain ⟨h1, h2⟩ := h
  rcases h1 with ⟨rfl, rfl, rfl⟩ | ⟨b, cap, B, rfl, hb, h3⟩
  · exact ⟨Hp.emp, OwnS.nil _ _ _, Sub.emp _, Disj.emp _⟩
  · refine ⟨Hp.one b (row (A ++ B) t), .inr ⟨b, cap, B, rfl, Hp.one_get _ _, h3⟩, Sub.one hb, ?_⟩
    have hn : H0 b = none := by rw [← h2]; exact Hp.del_same _ _
    exact (Disj.one hn).symm
theorem mod_two {x d : Nat} (h : x < 2 * d) : x % d = if x < d then x else x - d := by
  split
  · exact Nat.mod_eq_of_lt (by assumption)
  · rw [Nat.mod_eq_sub_mod (by omega), Nat.mod_eq_of_lt (by omega)]
structure Jm where
  id : Int
  r : Rv
def jbv (j : Jm) (dv : Value) : Jb := ⟨j.id, ⟨j.r.op, j.r.page, (j.r.off : Int), (j.r.len : Int), dv⟩⟩
def QueueH (R : Hp) (q dep : Nat) (l : List Jm) : Prop := ∃ rb a ring, R q = some (row (qRow rb dep a l.length) 93) ∧ R rb = some (row (flat jc ring) 76) ∧ ring.length = dep ∧ a < dep ∧ l.length ≤ dep ∧ dep ≤ 1000 ∧ (∀ j ∈ ring, j.r.ok) ∧
  ∀ i, i < l.length → ∃ j dv, l[i]? = some j ∧ ring[(a + i) % dep]? = some (jbv j dv) ∧ dOkU R dv j.r.data
theorem QueueH.sub {H H' : Hp} {q dep : Nat} {l : List Jm} (h : QueueH H q dep l) (k : Sub H H') : QueueH H' q dep l := by
  obtain ⟨rb, a, ring, h1, h2, h3, h4, h5, h6, h7, h8⟩ := h
  refine ⟨rb, a, ring, k _ _ h1, k _ _ h2, h3, h4, h5, h6, h7, fun i hi => ?_⟩
  obtain ⟨j, dv, e1, e2, e3⟩ := h8 i hi
  exact ⟨j, dv, e1, e2, e3.sub k⟩
def QFr (H H' : Hp) : Prop := ∀ b L T, T ≠ 93 → T ≠ 76 → H b = some (row L T) → H' b = some (row L T)
theorem QFr.refl (H : Hp) : QFr H H := fun _ _ _ _ _ h => h
theorem QFr.keep {H H' : Hp} (f : QFr H H') {b : Nat} {L : List Value} {T : TypeId} (h : H b = some (row L T)) (n1 : T ≠ 93) (n2 : T ≠ 76) : H' b = some (row L T) := f b L T n1 n2 h
theorem dOkU.q {H H' : Hp} {v : Value} {bs : List UInt8} (h : dOkU H v bs) (f : QFr H H') : dOkU H' v bs := by
  rcases h with h | ⟨b, o, c, L, h1, h2, h3⟩
  · exact .inl h
  · exact .inr ⟨b, o, c, L, h1, f _ _ _ (by decide) (by decide) h2, h3⟩
theorem qset {H : Hp} {q rb : Nat} {L1 L2 : List Value} {o1 o2 : Obj} (h1 : H q = some (row L1 93)) (h2 : H rb = some (row L2 76)) : QFr H ((H.set rb o1).set q o2) := by
  intro b L T n1 n2 h
  rw [Hp.set_ne, Hp.set_ne]
  · exact h
  · exact ne_row h h2 n2
  · exact ne_row h h1 n1
theorem jbv_ok {H : Hp} {j : Jm} {dv : Value} (h : dOkU H dv j.r.data) : (jbv j dv).r.ok := by
  obtain ⟨a, c, rfl⟩ := h.len; rfl
theorem qh_Len {R : Hp} {q dep : Nat} {l : List Jm} (h : QueueH R q dep l) : HT prog 29 #[.pointer (some ⟨q, 0, none⟩)] R (fun v H' => v = .int .i64 (l.length : Int) ∧ R = H') := by
  obtain ⟨rb, a, ring, h1, h2, h3, h4, h5, h6, h7, h8⟩ := h
  exact fifo_Len h1 h2 h3 h4 h5 h6 h7
theorem qh_Put_full {R : Hp} {q dep : Nat} {l : List Jm} (h : QueueH R q dep l) (hf : l.length = dep) {j : Jb} : HT prog 24 #[.pointer (some ⟨q, 0, none⟩), .agg (jc j).toArray] R (fun v H' => v = .int .i64 8 ∧ R = H') := by
  obtain ⟨rb, a, ring, h1, h2, h3, h4, h5, h6, h7, h8⟩ := h
  exact fifo_Put_full h1 h2 h3 h4 h5 h6 h7 hf
theorem qh_Put {R : Hp} {q dep : Nat} {l : List Jm} (h : QueueH R q dep l) (hf : l.length < dep) {j : Jm} {dv : Value} (hd : dOkU R dv j.r.data) : HT prog 24 #[.pointer (some ⟨q, 0, none⟩), .agg (jc (jbv j dv)).toArray] R
    (fun v H' => v = .int .i64 0 ∧ QueueH H' q dep (l ++ [j]) ∧ QFr R H') := by
  obtain ⟨rb, a, ring, h1, h2, h3, h4, h5, h6, h7, h8⟩ := h
  refine (fifo_Put_ok h1 h2 h3 h4 h5 h6 h7 hf (jbv_ok hd)).mono ?_
  rintro _ _ ⟨rfl, rfl⟩
  have hqr := ne_row h1 h2 (by decide)
  have hfr := qset (o1 := row (flat jc (ring.set ((a + l.length) % dep) (jbv j dv))) 76) (o2 := row (qRow rb dep a (l.length + 1)) 93) h1 h2
  have hm : (a + l.length) % dep < dep := Nat.mod_lt _ (by omega)
  refine ⟨rfl, ⟨rb, a, ring.set ((a + l.length) % dep) (jbv j dv), ?_, ?_, by simpa using h3, h4, by simp; omega, h6, ?_, ?_⟩, hfr⟩
  · rw [Hp.set_same]; simp
  · rw [Hp.set_ne _ _ hqr.symm, Hp.set_same]
  · intro x hx
    rcases List.mem_or_eq_of_mem_set hx with h' | rfl
    · exact h7 x h'
    · exact jbv_ok hd
  · intro i hi
    simp only [List.length_append, List.length_cons, List.length_nil] at hi
    rcases Nat.lt_or_ge i l.length with hlt | hge
    · obtain ⟨k, dv', e1, e2, e3⟩ := h8 i hlt
      refine ⟨k, dv', by rw [List.getElem?_append_left hlt]; exact e1, ?_, e3.q hfr⟩
      rw [List.getElem?_set_ne]
      · exact e2
      · rw [mod_two (by omega), mod_two (by omega)]; split <;> split <;> omega
    · obtain rfl : i = l.length := by omega
      exact ⟨j, dv, by simp, by simp [h3, hm], hd.q hfr⟩
theorem qh_First_no {R : Hp} {q dep : Nat} (h : QueueH R q dep []) : HT prog 36 #[.pointer (some ⟨q, 0, none⟩)] R (fun v H' => v = .tuple #[.agg (jc Jb.zero).toArray, .bool false] ∧ R = H') := by
  obtain ⟨rb, a, ring, h1, h2, h3, h4, h5, h6, h7, h8⟩ := h
  exact fifo_First_no h1 h2 h3 h4 h5 h6 h7 rfl
theorem qh_First {R : Hp} {q dep : Nat} {j : Jm} {l : List Jm} (h : QueueH R q dep (j :: l)) : HT prog 36 #[.pointer (some ⟨q, 0, none⟩)] R (fun v H' => ∃ dv, v = .tuple #[.agg (jc (jbv j dv)).toArray, .bool true] ∧ dOkU R dv j.r.data ∧ R = H') := by
  obtain ⟨rb, a, ring, h1, h2, h3, h4, h5, h6, h7, h8⟩ := h
  obtain ⟨k, dv, e1, e2, e3⟩ := h8 0 (by simp)
  simp only [List.getElem?_cons_zero, Option.some.injEq] at e1
  subst e1
  rw [Nat.add_zero, Nat.mod_eq_of_lt h4] at e2
  refine (fifo_First_ok h1 h2 h3 h4 h5 h6 h7 (by simp) e2).mono ?_
  rintro _ _ ⟨rfl, rfl⟩
  exact ⟨dv, rfl, e3, rfl⟩
theorem qh_Take {R : Hp} {q dep : Nat} {j : Jm} {l : List Jm} (h : QueueH R q dep (j :: l)) : HT prog 39 #[.pointer (some ⟨q, 0, none⟩)] R (fun v H' => ∃ dv, v = .tuple #[.agg (jc (jbv j dv)).toArray, .bool true] ∧ (jbv j dv).r.ok ∧ QueueH H' q dep l ∧ QFr R H') := by
  obtain ⟨rb, a, ring, h1, h2, h3, h4, h5, h6, h7, h8⟩ := h
  obtain ⟨k, dv, e1, e2, e3⟩ := h8 0 (by simp)
  simp only [List.getElem?_cons_zero, Option.some.injEq] at e1
  subst e1
  rw [Nat.add_zero, Nat.mod_eq_of_lt h4] at e2
  refine (fifo_Take_ok h1 h2 h3 h4 h5 h6 h7 (by simp) e2).mono ?_
  rintro _ _ ⟨rfl, rfl⟩
  have hqr := ne_row h1 h2 (by decide)
  have hfr := qset (o1 := row (flat jc (ring.set a Jb.zero)) 76) (o2 := row (qRow rb dep ((a + 1) % dep) ((j :: l).length - 1)) 93) h1 h2
  simp only [List.length_cons] at h5 h8
  refine ⟨dv, rfl, jbv_ok e3, ⟨rb, (a + 1) % dep, ring.set a Jb.zero, ?_, ?_, by simpa using h3, Nat.mod_lt _ (by omega), by omega, h6, ?_, ?_⟩, hfr⟩
  · rw [Hp.set_same]; simp
  · rw [Hp.set_ne _ _ hqr.symm, Hp.set_same]
  · intro x hx
    rcases List.mem_or_eq_of_mem_set hx with h' | rfl
    · exact h7 x h'
    · rfl
  · intro i hi
    obtain ⟨k, dv', f1, f2, f3⟩ := h8 (i + 1) (by omega)
    refine ⟨k, dv', by simpa using f1, ?_, f3.q hfr⟩
    have e : ((a + 1) % dep + i) % dep = (a + (i + 1)) % dep := by
      rw [mod_two (x := a + 1) (by omega)]; split
      · congr 1; omega
      · rw [mod_two (by omega), mod_two (by omega)]; split <;> split <;> omega
    rw [e, List.getElem?_set_ne]
    · exact f2
    · rw [mod_two (by omega)]; split <;> omega
theorem reps_jc (n : Nat) : reps n (jc Jb.zero) = flat jc (List.replicate n Jb.zero) := by simp [reps, flat, List.map_replicate]
theorem fifo_New {H : Hp} {n : Nat} (h1 : 1 ≤ n) (h2 : n ≤ 1000) :
    HT prog 18 #[.int .i64 (n : Int)] H (fun v H' => ∃ q rb, v = .tuple #[.pointer (some ⟨q, 0, none⟩), .int .i64 0] ∧ H rb = none ∧ H q = none ∧ q ≠ rb ∧ H' = (H.set rb (row (flat jc (List.replicate n Jb.zero)) 76)).set q (row (qRow rb n 0 0) 93)) := by
 have hc : (decide ((n : Int) < 1) || decide ((n : Int) > 1000)) = false := by simp; omega
 refine ht_of_body (args := [.int .i64 (n : Int)]) func18 rfl ?_
 simp only [ntmps18, List.length_cons, List.length_nil, Nat.reduceAdd, Nat.reduceSub, List.replicate_succ, List.replicate_zero, List.cons_append, List.nil_append]
 refine sR ?_
 refine oA ?_
 refine oA ?_
 try simp only [nfa, Nat.reduceAdd]
 refine hops_nil ?_
 try simp only [nfa, Nat.reduceAdd]
 refine hc_seq ?_
 refine sR ?_
 refine oM ?_
 try simp only [nfa, Nat.reduceAdd]
 refine hops_cons rfl (hop_bin rfl rfl rfl ?_)
 try simp only [nfa, Nat.reduceAdd]
 refine oM ?_
 try simp only [nfa, Nat.reduceAdd]
 first
  | refine hops_off' rfl rfl (by rfl) ?_
  | refine hops_un rfl rfl ?_
  | (refine hops_on' rfl rfl (by rfl) (hop_move ?_))
  | (refine hops_gp (v := ?vg1) rfl rfl (fun hgp => ?hv1) ?hh1; case hv1 => ((try simp only [hgp, if_true, ev, List.getD_cons_zero, List.getD_cons_succ]); refine hop_move ?_; rfl))
 try simp only [nfa, Nat.reduceAdd]
 first
  | refine hops_off' rfl rfl (by rfl) ?_
  | refine hops_un rfl rfl ?_
  | (refine hops_on' rfl rfl (by rfl) (hop_bin rfl rfl rfl ?_))
  | (refine hops_gp (v := ?vg2) rfl rfl (fun hgp => ?hv2) ?hh2; case hv2 => ((try simp only [hgp, if_true, ev, List.getD_cons_zero, List.getD_cons_succ]); refine hop_bin rfl rfl rfl ?_; rfl))
 try simp only [nfa, Nat.reduceAdd]
 refine hops_cons rfl (hop_pick rfl ?_)
 try simp only [nfa, Nat.reduceAdd]
 refine hops_nil ?_
 try simp only [nfa, Nat.reduceAdd]
 refine hc_F rfl (by first | rfl | assumption | (simp; done) | (simp; omega) | (simp [*]; done)) ?_
 refine hc_skip ?_
 try simp only [nfa, Nat.reduceAdd]
 refine sR ?_
 refine oM ?_
 try simp only [nfa, Nat.reduceAdd]
 refine hops_cons rfl (hop_makeSlice rfl rfl (by rfl) (by decide) (by omega) (by decide) ?_)
 intro rb hrb
 have hrb' := hrb
 try simp only [Hp.set_none, Hp.del_none] at hrb'
 have hrb_n : H rb = none := by first | exact hrb' | exact hrb'.2 | exact hrb'.2.2 | exact hrb'.2.2.2 | exact hrb'.2.2.2.2 | exact hrb'.2.2.2.2.2 | exact hrb'.2.2.2.2.2.2
 clear hrb'
 try simp only [nf, nf2]
 refine hops_cons rfl (hop_build (by simp only [fillL, wr, Value.cells, List.map_cons, List.map_nil, nf, nf2]; rfl) ?_)
 try simp only [nfa, Nat.reduceAdd]
 refine hops_cons rfl (hop_box rfl rfl ?_)
 intro q hq
 have hq' := hq
 try simp only [Hp.set_none, Hp.del_none] at hq'
 have hq_n : H q = none := by first | exact hq' | exact hq'.2 | exact hq'.2.2 | exact hq'.2.2.2 | exact hq'.2.2.2.2 | exact hq'.2.2.2.2.2 | exact hq'.2.2.2.2.2.2
 have hq_rb : q ≠ rb := by first | exact hq'.1 | exact hq'.2.1 | exact hq'.2.2.1 | exact hq'.2.2.2.1 | exact hq'.2.2.2.2.1 | exact hq'.2.2.2.2.2.1
 clear hq'
 try simp only [nfa, Nat.reduceAdd]
 refine oA ?_
 refine oA ?_
 try simp only [nfa, Nat.reduceAdd]
 refine hops_nil ?_
 try simp only [nfa, Nat.reduceAdd]
 refine hc_ret ?_
 try simp only [hng, hthen, hblock]
 apply hend_2 rfl ?es RV.tmp RV.tmp ?eR
 case es => exact Sub.refl _
 case eR =>
  exact ⟨q, rb, rfl, hrb_n, hq_n, hq_rb, by rw [← reps_jc]; rfl⟩
theorem req_Clone {H : Hp} {rop rpg roff rlen : Int} {dv : Value} {bs : List UInt8} (hd : dOk H dv bs) (hn : bs.length ≤ 16777216) :
    HT prog 25 #[.agg #[.int .i64 rop, .int .i64 rpg, .int .i64 roff, .int .i64 rlen, dv]] H (fun v H' => ∃ dv' Hn, v = .agg #[.int .i64 rop, .int .i64 rpg, .int .i64 roff, .int .i64 rlen, dv'] ∧ dOkU Hn dv' bs ∧ Sub Hn H' ∧ Disj Hn H ∧ Sub H H') := by
 obtain ⟨da, dc, rfl⟩ := hd.len
 refine ht_of_body (args := [.agg #[.int .i64 rop, .int .i64 rpg, .int .i64 roff, .int .i64 rlen, .slice da bs.length dc]]) func25 rfl ?_
 simp only [ntmps25, List.length_cons, List.length_nil, Nat.reduceAdd, Nat.reduceSub, List.replicate_succ, List.replicate_zero, List.cons_append, List.nil_append]
 refine sR ?_
 refine hops_cons rfl (hop_box rfl rfl ?_)
 intro b1 hb1
 have hb1' := hb1
 try simp only [Hp.set_none, Hp.del_none] at hb1'
 have hb1_n : H b1 = none := by first | exact hb1' | exact hb1'.2 | exact hb1'.2.2 | exact hb1'.2.2.2 | exact hb1'.2.2.2.2 | exact hb1'.2.2.2.2.2 | exact hb1'.2.2.2.2.2.2
 clear hb1'
 try simp only [nfa, Nat.reduceAdd]
 refine hops_cons rfl (hop_alloc (zl := [.int .i64 0, .int .i64 0, .int .i64 0, .int .i64 0, .slice none 0 0]) rfl ?_)
 intro b2 hb2
 have hb2' := hb2
 try simp only [Hp.set_none, Hp.del_none] at hb2'
 have hb2_n : H b2 = none := by first | exact hb2' | exact hb2'.2 | exact hb2'.2.2 | exact hb2'.2.2.2 | exact hb2'.2.2.2.2 | exact hb2'.2.2.2.2.2 | exact hb2'.2.2.2.2.2.2
 have hb2_b1 : b2 ≠ b1 := by first | exact hb2'.1 | exact hb2'.2.1 | exact hb2'.2.2.1 | exact hb2'.2.2.2.1 | exact hb2'.2.2.2.2.1 | exact hb2'.2.2.2.2.2.1
 clear hb2'
 try simp only [nfa, Nat.reduceAdd]
 refine hops_nil ?_
 try simp only [nfa, Nat.reduceAdd]
 refine sR ?_
 refine oF rfl ?_
 refine hops_cons rfl (hop_load rfl (by (repeat' first | assumption | exact hS | exact Hp.one_get _ _ | refine hT (by first | assumption | exact Ne.symm ‹_›) ?_)) (by first | rfl | assumption | exact mid_get0 rfl | exact mid_get rfl | (simp; done)) ?_)
 try simp only [nfa, Nat.reduceAdd]
 refine hops_cons rfl (hop_call ?_)
 simp only [nfa, Nat.reduceAdd]
 refine HT.mono (bytes_Clone (hd.sub (by first | ((repeat' first | assumption | exact Sub.refl _ | refine Sub.over ?_ ‹_› _); done) | (intro _ _ h; simp only [Hp.set] at h ⊢; grind))) hn) ?_
 intro v1 H1 hq1
 obtain ⟨Hn, hn1, hn2, hn3⟩ := RetS.piece hq1
 have sq1 := hq1.le
 have ho1 := hq1.1.one
 try simp only [nf, nf2]
 have H1_b1 := sq1 b1 _ (by (repeat' first | assumption | exact hS | exact Hp.one_get _ _ | refine hT (by first | assumption | exact Ne.symm ‹_›) ?_))
 have H1_b2 := sq1 b2 _ (by (repeat' first | assumption | exact hS | exact Hp.one_get _ _ | refine hT (by first | assumption | exact Ne.symm ‹_›) ?_))
 refine oF rfl ?_
 refine hops_cons rfl (hop_store rfl rfl (by first | rfl | assumption) (by (repeat' first | assumption | exact hS | exact Hp.one_get _ _ | refine hT (by first | assumption | exact Ne.symm ‹_›) ?_)) (by first | assumption | omega | (simp; done) | (simp; omega) | (simp [frc] <;> omega)) ?_)
 try simp only [nfa, Nat.reduceAdd]
 refine hops_nil ?_
 try simp only [nfa, Nat.reduceAdd]
 refine sR ?_
 refine hops_cons rfl (hop_loadA rfl (by (repeat' first | assumption | exact hS | exact Hp.one_get _ _ | refine hT (by first | assumption | exact Ne.symm ‹_›) ?_)) (by first | assumption | omega | (simp; done) | (simp; omega) | (simp [frc] <;> omega)) ?_)
 try simp only [nfa, Nat.reduceAdd]
 refine hops_cons rfl (hop_storeA rfl rfl (by rfl) (by first | assumption | (repeat' first | (intro _ h; cases h; done) | refine List.forall_mem_cons.2 ⟨by first | rfl | assumption, ?_⟩) | (simp [Value.oneCell']; done) | (simp [Value.oneCell', *]; done)) (by (repeat' first | assumption | exact hS | exact Hp.one_get _ _ | refine hT (by first | assumption | exact Ne.symm ‹_›) ?_)) (by first | assumption | omega | (simp; done) | (simp; omega) | (simp [frc] <;> omega)) (by decide) ?_)
 try simp only [nfa, Nat.reduceAdd]
 refine hops_nil ?_
 try simp only [nfa, Nat.reduceAdd]
 refine hc_ret ?_
 try simp only [hng, hthen, hblock]
 apply hend_1 rfl ?es (RV.cellW rfl (by (repeat' first | assumption | exact hS | exact Hp.one_get _ _ | refine hT (by first | assumption | exact Ne.symm ‹_›) ?_)) (by simp)) ?eR
 case es => exact Sub.refl _
 case eR =>
  have nb1 : Hn b1 = none := hn3.get (Hp.get_there hb2_b1.symm (Hp.set_same _ _ _))
  have nb2 : Hn b2 = none := hn3.get (Hp.set_same _ _ _)
  refine ⟨v1, Hn, rfl, hn1.rd, ?_, hn3.sub (.refl _) (by first | ((repeat' first | assumption | exact Sub.refl _ | refine Sub.over ?_ ‹_› _); done) | (intro _ _ h; simp only [Hp.set] at h ⊢; grind)), ?_⟩
  · exact Sub.over (Sub.over hn2 nb1 _) nb2 _
  · intro sb so hsb; have hsb1 := Hp.ne_of hsb hb1_n; have hsb2 := Hp.ne_of hsb hb2_n; simp only [Hp.set_ne _ _ hsb1, Hp.set_ne _ _ hsb2]; exact sq1 _ _ (by simp only [Hp.set_ne _ _ hsb1, Hp.set_ne _ _ hsb2]; exact hsb)
end Go.Proofs.Try
