/- A part of the proofs over the tenants of a page cache: lemmas on what is known of the memory, and contracts of the Go functions. -/
import Derived.Test.YtckokpmljhhhcaaM4
set_option linter.unusedVariables false
set_option linter.unusedSimpArgs false
namespace Go.Proofs.Try
open Go Go.H
set_option linter.unusedSimpArgs false
set_option linter.unusedVariables false
set_option maxRecDepth 100000
set_option maxHeartbeats 2000000
theorem begin_got (s : Ms) (r : Rv) : (s.begin r).1.got = s.got := by
  unfold Ms.begin; repeat' split
  all_goals rfl
theorem begin_cn (s : Ms) (r : Rv) : cnAll (s.begin r).2.add := by
  unfold Ms.begin; repeat' split
  all_goals exact ⟨rfl, by simp [Rs.fin, z6]⟩
theorem fin_cn (s : Ms) (e : Int) (b : List UInt8) : cnAll (s.fin e b).2.add := by
  unfold Ms.fin; repeat' split
  all_goals exact ⟨rfl, by simp [Rs.fin, z6]⟩
theorem flush_ne (l : List Int) : flushOf l ≠ [] := by simp [flushOf]
theorem fetch_ne (pg : Int) (d : Bool) (old : Int) : fetchOf pg d old ≠ [] := by cases d <;> simp [fetchOf, both, bothTo, List.range_succ]
theorem begin_done {s : Ms} {r : Rv} (ht : s.todo = []) : (s.begin r).2.done = false ↔ (s.begin r).1.todo ≠ [] := by
  unfold Ms.begin
  repeat' split
  all_goals simp [Rs.fin, ht, flush_ne, fetch_ne]
theorem MInv.got {s : Ms} (h : MInv s) (ht : s.todo = []) : s.got = [] := by
  rcases h with h | ⟨_, _, f, _, hi⟩ | ⟨_, hg, _⟩
  · exact h.2
  · rcases hi with ⟨_, k, hk, htd, _⟩ | ⟨_, _, hg, _⟩
    · rw [ht] at htd
      have := congrArg List.length htd
      simp [both, bothTo] at this
      omega
    · exact hg
  · exact hg
theorem fin_done {s : Ms} {e : Int} {b : List UInt8} (h : MInv s) (hne : s.todo ≠ []) : (s.fin e b).2.done = false ↔ (s.fin e b).1.todo ≠ [] := by
  obtain ⟨pt, op, page, todo, to, got⟩ := s
  by_cases he : e ≠ 0
  · simp [Ms.fin, he, Ms.stop]
  obtain rfl : e = 0 := Classical.not_not.1 he
  cases todo with
  | nil => exact absurd rfl hne
  | cons x rest =>
    rcases h with ⟨h1, _⟩ | ⟨ho, hnf, f, hf, hi⟩ | ⟨ho, hg, l, k, htd, hk, hl⟩
    · cases h1
    · simp only at ho hnf hf hi; subst ho
      rcases hi with ⟨hu, k, hk, htd, hgl⟩ | ⟨hu, hpn, rfl, k, hk, htd⟩
      · have : k = 0 ∨ k = 1 := by omega
        rcases this with rfl | rfl
        · have e1 : x = ⟨1, page, 0⟩ ∧ rest = [⟨1, page, 1⟩] := by simpa [both, bothTo, List.range_succ] using htd
          obtain ⟨rfl, rfl⟩ := e1
          simp [Ms.fin]
        · have e1 : x = ⟨1, page, 1⟩ ∧ rest = [] := by simpa [both, bothTo, List.range_succ] using htd
          obtain ⟨rfl, rfl⟩ := e1
          simp [Ms.fin]
      · have : k = 0 ∨ k = 1 := by omega
        have hb : both 1 page ≠ [] := by simp [both, bothTo, List.range_succ]
        rcases this with rfl | rfl
        · have e1 : x = ⟨2, f.page, 0⟩ ∧ rest = ⟨2, f.page, 1⟩ :: both 1 page := by simpa [both, bothTo, List.range_succ] using htd
          obtain ⟨rfl, rfl⟩ := e1
          simp [Ms.fin]
        · have e1 : x = ⟨2, f.page, 1⟩ ∧ rest = both 1 page := by simpa [both, bothTo, List.range_succ] using htd
          obtain ⟨rfl, rfl⟩ := e1
          cases hfd : findPage pt.fr f.page with
          | none =>
            have := findPage_none hfd f (List.mem_of_getElem? hf)
            simp [isPg, hu] at this
          | some i =>
            obtain ⟨g, hg, _⟩ := findPage_lt hfd
            simp [Ms.fin, hfd, hg, hb]
    · simp only at ho hg htd hl; subst hg
      obtain ⟨hr0, ⟨hlt, hr, pg, hpg, rfl⟩ | ⟨rfl, rfl, rfl⟩⟩ := flush_head htd.symm hk
      · by_cases hk1 : k % 2 = 1
        · obtain ⟨i, hfi⟩ := hl pg hpg
          obtain ⟨f, hf, _⟩ := findPage_lt hfi
          simp [Ms.fin, hk1, hfi, hf, ho, hr]
        · have hk0 : k % 2 = 0 := by omega
          simp [Ms.fin, hk0, hr]
      · simp [Ms.fin, Ms.stop]
def Ts.step (s : Ts) (tick : Int) : Ts := match s.t.q with
  | [] => s
  | j :: _ => ⟨(s.m.begin j.r).1, s.t.tell (s.m.begin j.r).2 tick⟩
def Ts.run : Nat → Ts → Int → Ts
  | 0, s, _ => s
  | n + 1, s, tick => if s.m.todo = [] ∧ s.t.q ≠ [] then Ts.run n (s.step tick) tick else s
structure TInv (s : Ts) : Prop where
  inv : MInv s.m
  busy : s.m.todo ≠ [] → s.t.q ≠ []
  jobs : ∀ j ∈ s.t.q, j.r.Ok
theorem tell_q_len (s : Tq) (x : Rs) (tick : Int) : (s.tell x tick).out.length + (s.tell x tick).q.length = s.out.length + s.q.length := by
  unfold Tq.tell; split
  · rfl
  · split
    · rfl
    · rename_i h; simp [h]; omega
theorem tell_mem (s : Tq) (x : Rs) (tick : Int) : ∀ j ∈ (s.tell x tick).q, j ∈ s.q := by
  unfold Tq.tell; split
  · exact fun _ h => h
  · split
    · exact fun _ h => h
    · rename_i h; intro j hj; rw [h]; exact List.mem_cons_of_mem _ hj
theorem tell_more_q (s : Tq) (x : Rs) (tick : Int) (h : x.done = false) : (s.tell x tick).q = s.q := by simp [Tq.tell, h]
theorem tell_done_q {s : Tq} {x : Rs} {tick : Int} {j : Jm} {rest : List Jm} (h : x.done = true) (hq : s.q = j :: rest) : (s.tell x tick).q = rest := by simp [Tq.tell, h, hq]
theorem run_end {s : Ts} (h : s.m.todo ≠ [] ∨ s.t.q = []) (tick : Int) : ∀ n, s.run n tick = s := by
  intro n
  cases n with
  | zero => rfl
  | succ n => simp only [Ts.run]; rw [if_neg]; rintro ⟨h1, h2⟩; rcases h with h | h; exact h h1; exact h2 h
theorem step_inv {s : Ts} {j : Jm} {rest : List Jm} {tick : Int} (ok : s.m.pt.Ok) (h : TInv s) (ht : s.m.todo = []) (hq : s.t.q = j :: rest) : TInv ⟨(s.m.begin j.r).1, s.t.tell (s.m.begin j.r).2 tick⟩ := by
  refine ⟨begin_inv ok ht (h.inv.got ht), fun hb => ?_, fun i hi => h.jobs i (tell_mem _ _ _ i hi)⟩
  have hd := (begin_done ht).2 hb
  rw [tell_more_q _ _ _ hd, hq]; simp
theorem ten_run_in {H : Hp} {Hm0 R0 : Hp} {t m p : Nat} {s0 : Ts} {tick : Int} (h0 : TPart H Hm0 R0 t m p s0) (hi0 : TInv s0) (hol0 : s0.t.out.length + s0.t.q.length ≤ 1000000) :
    HT prog 26 #[.pointer (some ⟨t, 0, none⟩), .int .i64 tick] H (fun v H' => ∃ Hm R, v = .tuple #[] ∧ TPart H' Hm R t m p (s0.run (s0.t.q.length + 1) tick) ∧ TInv (s0.run (s0.t.q.length + 1) tick)) := by
 refine ht_of_body (args := [.pointer (some ⟨t, 0, none⟩), .int .i64 tick]) func26 rfl ?_
 simp only [ntmps26, List.length_cons, List.length_nil, Nat.reduceAdd, Nat.reduceSub, List.replicate_succ, List.replicate_zero, List.cons_append, List.nil_append]
 refine hc_block ?_
 refine hc_loop (fun nn l H => ∃ (x4 : Value) (x5 : Value) (x6 : Value) (x7 : Value) (x8 : Value) (x9 : Value) (x10 : Value) (x11 : Value) (x12 : Value) (x13 : Value) (x14 : Value) (x15 : Value) (x16 : Value) (x17 : Value) (x18 : Value) (x19 : Value) (x20 : Value) (x21 : Value) (x22 : Value) (x23 : Value) (x24 : Value) (x25 : Value) (x26 : Value) (x27 : Value) (x28 : Value) (x29 : Value) (x30 : Value) (x31 : Value) (Hm R : Hp) (s : Ts) (f : Nat), l = [_, _, _, _, x4, x5, x6, x7, x8, x9, x10, x11, x12, x13, x14, x15, x16, x17, x18, x19, x20, x21, x22, x23, x24, x25, x26, x27, x28, x29, x30, x31] ∧ TPart H Hm R t m p s ∧ TInv s ∧ (s.m.todo ≠ [] ∨ s.t.q.length < f) ∧ s.run f tick = s0.run (s0.t.q.length + 1) tick ∧ s.t.out.length + s.t.q.length ≤ 1000000 ∧ nn = (if s.m.todo = [] then s.t.q.length + 1 else 0)) ((if s0.m.todo = [] then s0.t.q.length + 1 else 0)) ⟨_, _, _, _, _, _, _, _, _, _, _, _, _, _, _, _, _, _, _, _, _, _, _, _, _, _, _, _, Hm0, R0, s0, s0.t.q.length + 1, rfl, h0, hi0, .inr (by omega), rfl, hol0, rfl⟩ ?_
 rintro nn l H ⟨x4, x5, x6, x7, x8, x9, x10, x11, x12, x13, x14, x15, x16, x17, x18, x19, x20, x21, x22, x23, x24, x25, x26, x27, x28, x29, x30, x31, Hm, R, s, f, rfl, hP, hI, hf, hrun, hol, hnn⟩
 obtain ⟨q, ov, ht, hqq, hout, hcn⟩ := hP.ten
 have htH := hP.sr _ _ ht
 refine hc_seq ?_
 refine sR ?_
 refine oM ?_
 refine oN rfl ?_
 refine oF rfl ?_
 refine hops_cons rfl (hop_load rfl (by (repeat' first | assumption | exact hS | exact Hp.one_get _ _ | refine hT (by first | assumption | exact Ne.symm ‹_›) ?_)) (by first | rfl | assumption | exact mid_get0 rfl | exact mid_get rfl | (simp; done)) ?_)
 try simp only [nfa, Nat.reduceAdd]
 refine hops_cons rfl (hop_call ?_)
 simp only [nfa, Nat.reduceAdd]
 refine HT.mono (mh_Busy (hP.mach.sub hP.sm)) ?_
 rintro _ _ ⟨rfl, rfl⟩
 try simp only [nfa, Nat.reduceAdd]
 refine hops_cons rfl (hop_not rfl ?_)
 try simp only [nfa, Nat.reduceAdd]
 refine hops_nil ?_
 try simp only [nfa, Nat.reduceAdd]
 refine hc_cond rfl (fun hc0 => ?_) (fun hc0 => ?_)
 ·
  try simp at hc0
  have ht0 : s.m.todo = [] := by simpa using hc0
  refine hc_skip ?_
  try simp only [nfa, Nat.reduceAdd]
  refine hc_block ?_
  refine sR ?_
  refine oM ?_
  refine oN rfl ?_
  refine oF rfl ?_
  refine hops_cons rfl (hop_load rfl (by (repeat' first | assumption | exact hS | exact Hp.one_get _ _ | refine hT (by first | assumption | exact Ne.symm ‹_›) ?_)) (by first | rfl | assumption | exact mid_get0 rfl | exact mid_get rfl | (simp; done)) ?_)
  try simp only [nfa, Nat.reduceAdd]
  refine hops_cons rfl (hop_call ?_)
  simp only [nfa, Nat.reduceAdd]
  refine HT.mono (qh_First_all hqq hP.sr) ?_
  rintro _ _ ⟨⟨ji, jop, jpg, joff, jlen, jdv⟩, rfl, hjok, hjb0, rfl⟩
  have hj1 : jdv.oneCell' = true := hjok
  simp only [jc, rqc]
  try simp only [nf, nf2]
  refine oM ?_
  refine hops_cons rfl (hop_extract rfl rfl ?_)
  refine hops_cons rfl (hop_extract rfl rfl ?_)
  try simp only [nfa, Nat.reduceAdd]
  refine hops_cons rfl (hop_alloc (zl := [.int .i64 0, .int .i64 0, .int .i64 0, .int .i64 0, .int .i64 0, .slice none 0 0]) rfl ?_)
  intro b1 hb1
  have hb1' := hb1
  try simp only [Hp.set_none, Hp.del_none] at hb1'
  have hb1_n : H b1 = none := by first | exact hb1' | exact hb1'.2 | exact hb1'.2.2 | exact hb1'.2.2.2 | exact hb1'.2.2.2.2 | exact hb1'.2.2.2.2.2 | exact hb1'.2.2.2.2.2.2
  have hb1_t : b1 ≠ t := (Hp.ne_of htH hb1_n).symm
  clear hb1'
  try simp only [nfa, Nat.reduceAdd]
  refine hops_cons rfl (hop_storeA rfl rfl (by rfl) (by first | assumption | (repeat' first | (intro _ h; cases h; done) | refine List.forall_mem_cons.2 ⟨by first | rfl | assumption, ?_⟩) | (simp [Value.oneCell']; done) | (simp [Value.oneCell', *]; done)) (by (repeat' first | assumption | exact hS | exact Hp.one_get _ _ | refine hT (by first | assumption | exact Ne.symm ‹_›) ?_)) (by first | assumption | omega | (simp; done) | (simp; omega) | (simp [frc] <;> omega)) (by decide) ?_)
  try simp only [nfa, Nat.reduceAdd]
  refine oA ?_
  try simp only [nfa, Nat.reduceAdd]
  refine hops_nil ?_
  try simp only [nfa, Nat.reduceAdd]
  refine hc_seq ?_
  refine sR ?_
  refine oM ?_
  try simp only [nfa, Nat.reduceAdd]
  refine hops_cons rfl (hop_not rfl ?_)
  try simp only [nfa, Nat.reduceAdd]
  refine hops_nil ?_
  try simp only [nfa, Nat.reduceAdd]
  refine hc_cond rfl (fun hc1 => ?_) (fun hc1 => ?_)
  ·
   try simp at hc1
   have hq0 : s.t.q = [] := by simpa using hc1
   refine hc_ret ?_
   try simp only [hng, hthen, hblock]
   apply hend_none'_sub rfl ?es ?eR
   case es => exact Sub.refl _
   case eR =>
    rw [← hrun, run_end (.inr hq0)]
    exact ⟨Hm, R, rfl, hP.sub (by first | ((repeat' first | assumption | exact Sub.refl _ | refine Sub.over ?_ ‹_› _); done) | (intro _ _ h; simp only [Hp.set] at h ⊢; grind)), hI⟩
  ·
   try simp at hc1
   obtain ⟨j, rest, hq0⟩ : ∃ j rest, s.t.q = j :: rest := List.exists_cons_of_ne_nil (by simpa using hc1)
   refine hc_skip ?_
   try simp only [nfa, Nat.reduceAdd]
   refine hc_draw (Hp.one b1 (row [.int .i64 ji, .int .i64 jop, .int .i64 jpg, .int .i64 joff, .int .i64 jlen, jdv] 76)) follows (by intros; simp [hng, hthen, hblock, hend]) ?_
   refine dT 0 rfl (by decide +kernel) rfl (Sub.one (by (repeat' first | assumption | exact hS | exact Hp.one_get _ _ | refine hT (by first | assumption | exact Ne.symm ‹_›) ?_))) (hop_move ?_)
   try simp only [nfa, Nat.reduceAdd]
   refine dT 1 rfl (by decide +kernel) rfl (Sub.one (by (repeat' first | assumption | exact hS | exact Hp.one_get _ _ | refine hT (by first | assumption | exact Ne.symm ‹_›) ?_))) (hop_move ?_)
   try simp only [nfa, Nat.reduceAdd]
   refine dT 2 rfl (by decide +kernel) rfl (Sub.one (by (repeat' first | assumption | exact hS | exact Hp.one_get _ _ | refine hT (by first | assumption | exact Ne.symm ‹_›) ?_))) (hop_nilCheck rfl ?_)
   try simp only [nfa, Nat.reduceAdd]
   refine dT 3 rfl (by decide +kernel) rfl (Sub.one (by (repeat' first | assumption | exact hS | exact Hp.one_get _ _ | refine hT (by first | assumption | exact Ne.symm ‹_›) ?_))) (hop_fieldAddr rfl ?_)
   try simp only [nfa, Nat.reduceAdd]
   refine dT 5 rfl (by decide +kernel) rfl (Sub.one (by (repeat' first | assumption | exact hS | exact Hp.one_get _ _ | refine hT (by first | assumption | exact Ne.symm ‹_›) ?_))) (hop_fieldAddr rfl ?_)
   try simp only [nfa, Nat.reduceAdd]
   refine dT 6 rfl (by decide +kernel) rfl (Sub.one (by (repeat' first | assumption | exact hS | exact Hp.one_get _ _ | refine hT (by first | assumption | exact Ne.symm ‹_›) ?_))) (hop_loadA rfl (by (repeat' first | assumption | exact hS | exact Hp.one_get _ _ | refine hT (by first | assumption | exact Ne.symm ‹_›) ?_)) (by first | assumption | omega | (simp; done) | (simp; omega) | (simp [frc] <;> omega)) ?_)
   try simp only [nfa, Nat.reduceAdd]
   refine dT 8 rfl (by decide +kernel) rfl (Sub.one (by (repeat' first | assumption | exact hS | exact Hp.one_get _ _ | refine hT (by first | assumption | exact Ne.symm ‹_›) ?_))) (hop_move ?_)
   try simp only [nfa, Nat.reduceAdd]
   refine hD_do 4 rfl (by decide +kernel) rfl (hop_load rfl (by (repeat' first | assumption | exact hS | exact Hp.one_get _ _ | refine hT (by first | assumption | exact Ne.symm ‹_›) ?_)) (by first | rfl | assumption | exact mid_get0 rfl | exact mid_get rfl | (simp; done)) ?_)
   try simp only [nfa, Nat.reduceAdd]
   refine ⟨.inr (Sub.one (by (repeat' first | assumption | exact hS | exact Hp.one_get _ _ | refine hT (by first | assumption | exact Ne.symm ‹_›) ?_))), ?_⟩
   try simp only [nfa, Nat.reduceAdd]
   refine hD_do 7 rfl (by decide +kernel) rfl (hop_call ?_)
   simp only [nfa, Nat.reduceAdd]
   obtain ⟨dv, ej, hd⟩ := hjb0 j rest hq0
   simp only [jbv, Jb.mk.injEq, Rq.mk.injEq] at ej
   obtain ⟨rfl, rfl, rfl, rfl, rfl, rfl⟩ := ej
   have hg0 := hI.inv.got ht0
   have hjr := hI.jobs j (by rw [hq0]; simp)
   have hg2 : (s.m.begin j.r).1.got = [] := by rw [begin_got]; exact hg0
   have hI3 : TInv ⟨(s.m.begin j.r).1, s.t.tell (s.m.begin j.r).2 tick⟩ := step_inv hP.mach.1.1 hI ht0 hq0
   have hfl : s.t.q.length < f := hf.resolve_left (fun h => h ht0)
   obtain ⟨f, rfl⟩ : ∃ g, f = g + 1 := ⟨f - 1, by omega⟩
   have hstep : s.run (f + 1) tick = Ts.run f ⟨(s.m.begin j.r).1, s.t.tell (s.m.begin j.r).2 tick⟩ tick := by
     simp only [Ts.run]; rw [if_pos ⟨ht0, by rw [hq0]; simp⟩]; simp only [Ts.step, hq0]
   have hrun3 := hstep.symm.trans hrun
   have hbd := begin_done (r := j.r) ht0
   have hcnt : (if (s.m.begin j.r).1.todo = [] then (s.t.tell (s.m.begin j.r).2 tick).q.length + 1 else 0) < nn ∧ ((s.m.begin j.r).1.todo ≠ [] ∨ (s.t.tell (s.m.begin j.r).2 tick).q.length < f) := by
     rw [hnn, if_pos ht0]
     by_cases hb : (s.m.begin j.r).1.todo = []
     · have hd1 : (s.m.begin j.r).2.done = true := by
         cases hd1 : (s.m.begin j.r).2.done with
         | true => rfl
         | false => exact absurd hb (hbd.1 hd1)
       rw [if_pos hb, tell_done_q hd1 hq0, hq0]
       rw [hq0] at hfl
       simp only [List.length_cons] at hfl ⊢
       exact ⟨by omega, .inr (by omega)⟩
     · rw [if_neg hb]; exact ⟨by omega, .inl hb⟩
   obtain ⟨hlt, hf3⟩ := hcnt
   refine HT.mono (ten_begin (r := j.r) (dv := jdv) (hP.sub (by first | ((repeat' first | assumption | exact Sub.refl _ | refine Sub.over ?_ ‹_› _); done) | (intro _ _ h; simp only [Hp.set] at h ⊢; grind))) ht0 hg0 hjr hd hg2) ?_
   rintro _ G2 ⟨dv2, Hm2, R2, rfl, hdv2, hP2, fr2⟩
   have G2_b1 := (fr2 b1 _ (hP.sm.unk hb1_n) (hP.sr.unk hb1_n) (by (repeat' first | assumption | exact hS | exact Hp.one_get _ _ | refine hT (by first | assumption | exact Ne.symm ‹_›) ?_))).1
   have n2 := (fr2 b1 _ (hP.sm.unk hb1_n) (hP.sr.unk hb1_n) (by (repeat' first | assumption | exact hS | exact Hp.one_get _ _ | refine hT (by first | assumption | exact Ne.symm ‹_›) ?_))).2
   try simp only [nf, nf2]
   refine ⟨.inr (Sub.one (by (repeat' first | assumption | exact hS | exact Hp.one_get _ _ | refine hT (by first | assumption | exact Ne.symm ‹_›) ?_))), ?_⟩
   try simp only [nfa, Nat.reduceAdd]
   refine hD_do 9 rfl (by decide +kernel) rfl (hop_call ?_)
   simp only [nfa, Nat.reduceAdd]
   refine HT.mono (ten_tell (x := (s.m.begin j.r).2) hP2 (begin_cn _ _) hdv2 (fun _ => by rw [hq0]; simp) (by show s.t.out.length ≤ 1000000; omega)) ?_
   rintro _ G3 ⟨R3, rfl, hP3, fr3⟩
   have G3_b1 := (fr3 b1 _ n2.1 n2.2 G2_b1).1
   try simp only [nf, nf2]
   refine ⟨.inl (by decide +kernel), ?_⟩
   try simp only [nfa, Nat.reduceAdd]
   refine hD_done (by decide +kernel) ?_
   try simp only [nfa, Nat.reduceAdd]
   refine ⟨(if (s.m.begin j.r).1.todo = [] then (s.t.tell (s.m.begin j.r).2 tick).q.length + 1 else 0), _, by omega, Sub.refl _, _, _, _, _, _, _, _, _, _, _, _, _, _, _, _, _, _, _, _, _, _, _, _, _, _, _, _, _, Hm2, R3, ⟨(s.m.begin j.r).1, s.t.tell (s.m.begin j.r).2 tick⟩, f, rfl, ?_⟩
   exact ⟨hP3, hI3, hf3, hrun3, by rw [tell_q_len]; exact hol, rfl⟩
 ·
  try simp at hc0
  have ht0 : s.m.todo ≠ [] := List.length_pos_iff.1 hc0
  refine hc_exit ?_
  simp only [hng, hthen, hblock, if_true]
  try simp only [nfa, Nat.reduceAdd]
  apply hend_none_sub rfl ?es ?eR
  case es => exact Sub.refl _
  case eR =>
   rw [← hrun, run_end (.inl ht0)]
   exact ⟨Hm, R, rfl, hP, hI⟩
end Go.Proofs.Try
