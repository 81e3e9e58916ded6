/- A part of the proofs over the tenants of a page cache: lemmas on what is known of the memory, and contracts of the Go functions. -/
import Derived.Test.YtckokpmljhhhcaaM2
set_option linter.unusedVariables false
set_option linter.unusedSimpArgs false
namespace Go.Proofs.Try
open Go Go.H
set_option linter.unusedSimpArgs false
set_option linter.unusedVariables false
set_option maxRecDepth 100000
set_option maxHeartbeats 2000000
structure Rm where
  id : Int
  errno : Int
  hit : Bool
  tick : Int
  data : List UInt8
  cn : List Nat
def rspc (x : Rm × Value) : List Value := .int .i64 x.1.id :: .int .i64 x.1.errno :: .bool x.1.hit :: .int .i64 x.1.tick :: x.2 :: cnc x.1.cn
def OutH (R : Hp) (ov : Value) (out : List Rm) : Prop := ∃ xs : List (Rm × Value), OwnS R ov xs.length (flat rspc xs) 65 11 ∧ xs.map (·.1) = out ∧ ∀ x ∈ xs, dOkU R x.2 x.1.data ∧ x.1.cn.length = 6
theorem OutH.sub {H H' : Hp} {v : Value} {out : List Rm} (h : OutH H v out) (k : Sub H H') : OutH H' v out := by
  obtain ⟨xs, h1, h2, h3⟩ := h
  exact ⟨xs, h1.sub k, h2, fun x hx => ⟨(h3 x hx).1.sub k, (h3 x hx).2⟩⟩
theorem OutH.q {H H' : Hp} {v : Value} {out : List Rm} (h : OutH H v out) (f : QFr H H') : OutH H' v out := by
  obtain ⟨xs, h1, h2, h3⟩ := h
  refine ⟨xs, ?_, h2, fun x hx => ⟨(h3 x hx).1.q f, (h3 x hx).2⟩⟩
  rcases h1 with h | ⟨c, cp, B, e1, e2, e3⟩
  · exact .inl h
  · exact .inr ⟨c, cp, B, e1, f _ _ _ (by decide) (by decide) e2, e3⟩
theorem OutH.one {H : Hp} {v : Value} {out : List Rm} (h : OutH H v out) : v.oneCell' = true := by obtain ⟨xs, h1, _⟩ := h; exact h1.one
theorem OutH.nil {H : Hp} : OutH H (.slice none 0 0) [] := ⟨[], OwnS.nil _ _ _, rfl, by simp⟩
theorem six_of {l : List Nat} (h : l.length = 6) : ∃ a b c d e f, l = [a, b, c, d, e, f] := by
  match l, h with
  | [a, b, c, d, e, f], _ => exact ⟨a, b, c, d, e, f, rfl⟩
structure Tq where
  pages : Int
  ids : Int
  dep : Nat
  q : List Jm
  cn : List Nat
  out : List Rm
def tRow (m p q : Nat) (pages ids : Int) (cn : List Nat) (ov : Value) : List Value := .pointer (some ⟨m, 0, none⟩) :: .pointer (some ⟨p, 0, none⟩) :: .pointer (some ⟨q, 0, none⟩) :: .int .i64 pages :: .int .i64 ids :: (cnc cn ++ [ov])
def TenQ (R : Hp) (t m p : Nat) (s : Tq) : Prop := ∃ q ov, R t = some (row (tRow m p q s.pages s.ids s.cn ov) 61) ∧ QueueH R q s.dep s.q ∧ OutH R ov s.out ∧ cnAll s.cn
theorem TenQ.sub {H H' : Hp} {t m p : Nat} {s : Tq} (h : TenQ H t m p s) (k : Sub H H') : TenQ H' t m p s := by
  obtain ⟨q, ov, h1, h2, h3, h4⟩ := h
  exact ⟨q, ov, k _ _ h1, h2.sub k, h3.sub k, h4⟩
/-- what comes of the first request -/
def Tq.tell (s : Tq) (x : Rs) (tick : Int) : Tq :=
  if x.done = false then ⟨s.pages, s.ids, s.dep, s.q, sumAll [s.cn, x.add], s.out⟩ else match s.q with
  | [] => ⟨s.pages, s.ids, s.dep, s.q, sumAll [s.cn, x.add], s.out⟩
  | j :: q => ⟨s.pages, s.ids, s.dep, q, sumAll [s.cn, x.add], s.out ++ [⟨j.id, x.errno, x.hit, tick, x.data, if j.r.op = 8 then sumAll [s.cn, x.add] else z6⟩]⟩
theorem QueueH.updT {H : Hp} {q dep : Nat} {l : List Jm} {b : Nat} {L : List Value} {T : TypeId} {o : Obj} (h : QueueH H q dep l) (hb : H b = some (row L T)) (h1 : T ≠ 93) (h2 : T ≠ 76) (h3 : T ≠ 5) : QueueH (H.set b o) q dep l := by
  obtain ⟨rb, a, ring, e1, e2, e3, e4, e5, e6, e7, e8⟩ := h
  refine ⟨rb, a, ring, ?_, ?_, e3, e4, e5, e6, e7, fun i hi => ?_⟩
  · rw [Hp.set_ne _ _ (ne_row e1 hb (Ne.symm h1))]; exact e1
  · rw [Hp.set_ne _ _ (ne_row e2 hb (Ne.symm h2))]; exact e2
  · obtain ⟨j, dv, f1, f2, f3⟩ := e8 i hi
    exact ⟨j, dv, f1, f2, rdS.upd f3 hb (Ne.symm h3)⟩
theorem QueueH.new {H : Hp} {q dep : Nat} {l : List Jm} {b : Nat} {o : Obj} (h : QueueH H q dep l) (hb : H b = none) : QueueH (H.set b o) q dep l := h.sub (Sub.set_new hb)
theorem OutH.updT {H : Hp} {ov : Value} {out : List Rm} {b : Nat} {L : List Value} {T : TypeId} {o : Obj} (h : OutH H ov out) (hb : H b = some (row L T)) (h1 : T ≠ 65) (h3 : T ≠ 5) : OutH (H.set b o) ov out := by
  obtain ⟨xs, e1, e2, e3⟩ := h
  exact ⟨xs, e1.upd hb (Ne.symm h1), e2, fun x hx => ⟨rdS.upd (e3 x hx).1 hb (Ne.symm h3), (e3 x hx).2⟩⟩
theorem OutH.new {H : Hp} {ov : Value} {out : List Rm} {b : Nat} {o : Obj} (h : OutH H ov out) (hb : H b = none) : OutH (H.set b o) ov out := h.sub (Sub.set_new hb)
theorem OutH.push {R : Hp} {ov dv : Value} {xs : List (Rm × Value)} {out : List Rm} {x : Rm} (hg : OwnS R ov (xs.length + 1) (flat rspc xs ++ rspc (x, dv)) 65 11) (hxo : xs.map (·.1) = out) (hxd : ∀ y ∈ xs, dOkU R y.2 y.1.data ∧ y.1.cn.length = 6) (hd : dOkU R dv x.data) (hl : x.cn.length = 6) : OutH R ov (out ++ [x]) := by
  refine ⟨xs ++ [(x, dv)], ?_, by simp [hxo], ?_⟩
  · rw [List.length_append, flat_append]; simpa [flat] using hg
  · intro y hy
    rcases List.mem_append.1 hy with h | h
    · exact hxd y h
    · simp only [List.mem_cons, List.not_mem_nil, or_false] at h; subst h; exact ⟨hd, hl⟩
theorem QueueH.drop {H : Hp} {q dep : Nat} {l : List Jm} (h : QueueH H q dep l) {v : Value} {n : Nat} {A : List Value} (ho : OwnS H v n A 65 11) : QueueH (H.drop v) q dep l := by
  obtain ⟨rb, a, ring, e1, e2, e3, e4, e5, e6, e7, e8⟩ := h
  refine ⟨rb, a, ring, ho.drop_get e1 (by decide), ho.drop_get e2 (by decide), e3, e4, e5, e6, e7, fun i hi => ?_⟩
  obtain ⟨j, dv, f1, f2, f3⟩ := e8 i hi
  exact ⟨j, dv, f1, f2, rdS.drop f3 ho (by decide)⟩
theorem tell_more {H : Hp} {t m p q : Nat} {pages ids : Int} {c0 c1 c2 c3 c4 c5 a0 a1 a2 a3 a4 a5 d0 d1 d2 d3 d4 d5 : Nat} {ov dv : Value} {e tick : Int} {hit : Bool} (ht : H t = some (row [.pointer (some ⟨m, 0, none⟩), .pointer (some ⟨p, 0, none⟩), .pointer (some ⟨q, 0, none⟩), .int .i64 pages, .int .i64 ids, .int .u64 (c0 : Int), .int .u64 (c1 : Int), .int .u64 (c2 : Int), .int .u64 (c3 : Int), .int .u64 (c4 : Int), .int .u64 (c5 : Int), ov] 61)) (hc : cnAll [c0, c1, c2, c3, c4, c5]) (ha : cnAll [a0, a1, a2, a3, a4, a5]) (hd : sumAll [[c0, c1, c2, c3, c4, c5], [a0, a1, a2, a3, a4, a5]] = [d0, d1, d2, d3, d4, d5]) (hdv : ∃ a n c, dv = .slice a n c) :
    HT prog 27 #[.pointer (some ⟨t, 0, none⟩), .agg #[.bool false, .int .i64 0, .int .i64 e, .bool hit, .int .i64 0, dv, .int .u64 0, .int .u64 0, .int .u64 0, .int .u64 0, .int .u64 0, .int .u64 0, .int .u64 (a0 : Int), .int .u64 (a1 : Int), .int .u64 (a2 : Int), .int .u64 (a3 : Int), .int .u64 (a4 : Int), .int .u64 (a5 : Int)], .int .i64 tick] H (fun v H' => v = .tuple #[] ∧ H' = H.set t (row [.pointer (some ⟨m, 0, none⟩), .pointer (some ⟨p, 0, none⟩), .pointer (some ⟨q, 0, none⟩), .int .i64 pages, .int .i64 ids, .int .u64 (d0 : Int), .int .u64 (d1 : Int), .int .u64 (d2 : Int), .int .u64 (d3 : Int), .int .u64 (d4 : Int), .int .u64 (d5 : Int), ov] 61)) := by
 have hL : ∀ c ∈ [[c0, c1, c2, c3, c4, c5], [a0, a1, a2, a3, a4, a5]], cnAll c := by
   intro c hcc
   simp only [List.mem_cons, List.not_mem_nil, or_false] at hcc
   rcases hcc with rfl | rfl
   · exact hc
   · exact ha
 obtain ⟨da, dn, dc, rfl⟩ := hdv
 refine ht_of_body (args := [.pointer (some ⟨t, 0, none⟩), .agg #[.bool false, .int .i64 0, .int .i64 e, .bool hit, .int .i64 0, .slice da dn dc, .int .u64 0, .int .u64 0, .int .u64 0, .int .u64 0, .int .u64 0, .int .u64 0, .int .u64 (a0 : Int), .int .u64 (a1 : Int), .int .u64 (a2 : Int), .int .u64 (a3 : Int), .int .u64 (a4 : Int), .int .u64 (a5 : Int)], .int .i64 tick]) func27 rfl ?_
 simp only [ntmps27, List.length_cons, List.length_nil, Nat.reduceAdd, Nat.reduceSub, List.replicate_succ, List.replicate_zero, List.cons_append, List.nil_append]
 refine sR ?_
 refine hops_cons rfl (hop_box rfl rfl ?_)
 intro b1 hb1
 have hb1' := hb1
 try simp only [Hp.set_none, Hp.del_none] at hb1'
 have hb1_n : H b1 = none := by first | exact hb1' | exact hb1'.2 | exact hb1'.2.2 | exact hb1'.2.2.2 | exact hb1'.2.2.2.2 | exact hb1'.2.2.2.2.2 | exact hb1'.2.2.2.2.2.2
 have hb1_t : b1 ≠ t := (Hp.ne_of ht hb1_n).symm
 clear hb1'
 try simp only [nfa, Nat.reduceAdd]
 refine hops_nil ?_
 try simp only [nfa, Nat.reduceAdd]
 refine hc_seq ?_
 refine hc_draw0 follows (by intros; simp [hng, hthen, hblock, hend]) ?_
 refine dT 0 rfl (by decide +kernel) rfl (by first | ((repeat' first | assumption | exact Sub.refl _ | refine Sub.over ?_ ‹_› _); done) | (intro _ _ h; simp only [Hp.set] at h ⊢; grind)) (hop_move ?_)
 try simp only [nfa, Nat.reduceAdd]
 refine dT 1 rfl (by decide +kernel) rfl (by first | ((repeat' first | assumption | exact Sub.refl _ | refine Sub.over ?_ ‹_› _); done) | (intro _ _ h; simp only [Hp.set] at h ⊢; grind)) (hop_move ?_)
 try simp only [nfa, Nat.reduceAdd]
 refine dT 2 rfl (by decide +kernel) rfl (by first | ((repeat' first | assumption | exact Sub.refl _ | refine Sub.over ?_ ‹_› _); done) | (intro _ _ h; simp only [Hp.set] at h ⊢; grind)) (hop_nilCheck rfl ?_)
 try simp only [nfa, Nat.reduceAdd]
 refine dT 3 rfl (by decide +kernel) rfl (by first | ((repeat' first | assumption | exact Sub.refl _ | refine Sub.over ?_ ‹_› _); done) | (intro _ _ h; simp only [Hp.set] at h ⊢; grind)) (hop_fieldAddr rfl ?_)
 try simp only [nfa, Nat.reduceAdd]
 refine dT 4 rfl (by decide +kernel) rfl (by first | ((repeat' first | assumption | exact Sub.refl _ | refine Sub.over ?_ ‹_› _); done) | (intro _ _ h; simp only [Hp.set] at h ⊢; grind)) (hop_loadA rfl (by (repeat' first | assumption | exact hS | exact Hp.one_get _ _ | refine hT (by first | assumption | exact Ne.symm ‹_›) ?_)) (by first | assumption | omega | (simp; done) | (simp; omega) | (simp [frc] <;> omega)) ?_)
 try simp only [nfa, Nat.reduceAdd]
 refine dT 5 rfl (by decide +kernel) rfl (by first | ((repeat' first | assumption | exact Sub.refl _ | refine Sub.over ?_ ‹_› _); done) | (intro _ _ h; simp only [Hp.set] at h ⊢; grind)) (hop_fieldAddr rfl ?_)
 try simp only [nfa, Nat.reduceAdd]
 refine dT 6 rfl (by decide +kernel) rfl (by first | ((repeat' first | assumption | exact Sub.refl _ | refine Sub.over ?_ ‹_› _); done) | (intro _ _ h; simp only [Hp.set] at h ⊢; grind)) (hop_loadA rfl (by (repeat' first | assumption | exact hS | exact Hp.one_get _ _ | refine hT (by first | assumption | exact Ne.symm ‹_›) ?_)) (by first | assumption | omega | (simp; done) | (simp; omega) | (simp [frc] <;> omega)) ?_)
 try simp only [nfa, Nat.reduceAdd]
 refine hD_do 7 rfl (by decide +kernel) rfl (hop_buildSlice (L := [.int .u64 (c0 : Int), .int .u64 (c1 : Int), .int .u64 (c2 : Int), .int .u64 (c3 : Int), .int .u64 (c4 : Int), .int .u64 (c5 : Int), .int .u64 (a0 : Int), .int .u64 (a1 : Int), .int .u64 (a2 : Int), .int .u64 (a3 : Int), .int .u64 (a4 : Int), .int .u64 (a5 : Int)]) rfl (by decide) (by decide) rfl ?_)
 intro bs hbs
 have hbs' := hbs
 try simp only [Hp.set_none, Hp.del_none] at hbs'
 have hbs_n : H bs = none := by first | exact hbs' | exact hbs'.2 | exact hbs'.2.2 | exact hbs'.2.2.2 | exact hbs'.2.2.2.2 | exact hbs'.2.2.2.2.2 | exact hbs'.2.2.2.2.2.2
 have hbs_b1 : bs ≠ b1 := by first | exact hbs'.1 | exact hbs'.2.1 | exact hbs'.2.2.1 | exact hbs'.2.2.2.1 | exact hbs'.2.2.2.2.1 | exact hbs'.2.2.2.2.2.1
 have hbs_t : bs ≠ t := (Hp.ne_of ht hbs_n).symm
 clear hbs'
 try simp only [nf, nf2]
 refine ⟨.inr (by first | ((repeat' first | assumption | exact Sub.refl _ | refine Sub.over ?_ ‹_› _); done) | (intro _ _ h; simp only [Hp.set] at h ⊢; grind)), ?_⟩
 try simp only [nfa, Nat.reduceAdd]
 refine hD_do 8 rfl (by decide +kernel) rfl (hop_call ?_)
 simp only [nfa, Nat.reduceAdd]
 refine HT.mono (count_Sum (L := [[c0, c1, c2, c3, c4, c5], [a0, a1, a2, a3, a4, a5]]) rfl (srcOk_own' (t := 38) (by (repeat' first | assumption | exact hS | exact Hp.one_get _ _ | refine hT (by first | assumption | exact Ne.symm ‹_›) ?_)) rfl) hL (by simp)) ?_
 rintro _ _ ⟨rfl, rfl⟩
 rw [hd]
 simp only [cnc, List.map_cons, List.map_nil]
 try simp only [nf, nf2]
 refine ⟨.inr (by first | ((repeat' first | assumption | exact Sub.refl _ | refine Sub.over ?_ ‹_› _); done) | (intro _ _ h; simp only [Hp.set] at h ⊢; grind)), ?_⟩
 try simp only [nfa, Nat.reduceAdd]
 refine dT 9 rfl (by decide +kernel) rfl (by first | ((repeat' first | assumption | exact Sub.refl _ | refine Sub.over ?_ ‹_› _); done) | (intro _ _ h; simp only [Hp.set] at h ⊢; grind)) (hop_nilCheck rfl ?_)
 try simp only [nfa, Nat.reduceAdd]
 refine dT 10 rfl (by decide +kernel) rfl (by first | ((repeat' first | assumption | exact Sub.refl _ | refine Sub.over ?_ ‹_› _); done) | (intro _ _ h; simp only [Hp.set] at h ⊢; grind)) (hop_fieldAddr rfl ?_)
 try simp only [nfa, Nat.reduceAdd]
 refine hD_do 11 rfl (by decide +kernel) rfl (hop_storeA rfl rfl (by rfl) (by first | assumption | (repeat' first | (intro _ h; cases h; done) | refine List.forall_mem_cons.2 ⟨by first | rfl | assumption, ?_⟩) | (simp [Value.oneCell']; done) | (simp [Value.oneCell', *]; done)) (by (repeat' first | assumption | exact hS | exact Hp.one_get _ _ | refine hT (by first | assumption | exact Ne.symm ‹_›) ?_)) (by first | assumption | omega | (simp; done) | (simp; omega) | (simp [frc] <;> omega)) (by decide) ?_)
 try simp only [nfa, Nat.reduceAdd]
 refine ⟨.inl (by decide +kernel), ?_⟩
 try simp only [nfa, Nat.reduceAdd]
 refine hD_done (by decide +kernel) ?_
 try simp only [nfa, Nat.reduceAdd]
 refine hc_seq ?_
 refine sR ?_
 refine oF rfl ?_
 refine hops_cons rfl (hop_load rfl (by (repeat' first | assumption | exact hS | exact Hp.one_get _ _ | refine hT (by first | assumption | exact Ne.symm ‹_›) ?_)) (by first | rfl | assumption | exact mid_get0 rfl | exact mid_get rfl | (simp; done)) ?_)
 try simp only [nfa, Nat.reduceAdd]
 refine hops_cons rfl (hop_not rfl ?_)
 try simp only [nfa, Nat.reduceAdd]
 refine hops_nil ?_
 try simp only [nfa, Nat.reduceAdd]
 refine hc_T rfl (by first | rfl | assumption | (simp; done) | (simp; omega) | (simp [*]; done)) ?_
 refine hc_ret ?_
 try simp only [hng, hthen, hblock]
 apply hend_none'_sub rfl ?es ?eR
 case eR =>
  exact ⟨rfl, rfl⟩
 case es => first | ((repeat' first | assumption | exact Sub.refl _ | refine Sub.over ?_ ‹_› _); done) | (intro _ _ h; simp only [Hp.set] at h ⊢; grind)
theorem tell_stats {H : Hp} {t m p q : Nat} {pages ids : Int} {c0 c1 c2 c3 c4 c5 a0 a1 a2 a3 a4 a5 d0 d1 d2 d3 d4 d5 : Nat} {ov : Value} {e tick : Int} {hit : Bool} (ht : H t = some (row [.pointer (some ⟨m, 0, none⟩), .pointer (some ⟨p, 0, none⟩), .pointer (some ⟨q, 0, none⟩), .int .i64 pages, .int .i64 ids, .int .u64 (c0 : Int), .int .u64 (c1 : Int), .int .u64 (c2 : Int), .int .u64 (c3 : Int), .int .u64 (c4 : Int), .int .u64 (c5 : Int), ov] 61)) (hc : cnAll [c0, c1, c2, c3, c4, c5]) (ha : cnAll [a0, a1, a2, a3, a4, a5]) (hd : sumAll [[c0, c1, c2, c3, c4, c5], [a0, a1, a2, a3, a4, a5]] = [d0, d1, d2, d3, d4, d5]) {dep : Nat} {j : Jm} {rest : List Jm} {out : List Rm} {da : Option Addr} {dc : Nat} {data : List UInt8} (hdv : dOkU H (.slice da data.length dc) data) (hq : QueueH H q dep (j :: rest)) (ho : OutH H ov out) (hol : out.length ≤ 1000000) (hop : j.r.op = 8) :
    HT prog 27 #[.pointer (some ⟨t, 0, none⟩), .agg #[.bool true, .int .i64 0, .int .i64 e, .bool hit, .int .i64 0, .slice da data.length dc, .int .u64 0, .int .u64 0, .int .u64 0, .int .u64 0, .int .u64 0, .int .u64 0, .int .u64 (a0 : Int), .int .u64 (a1 : Int), .int .u64 (a2 : Int), .int .u64 (a3 : Int), .int .u64 (a4 : Int), .int .u64 (a5 : Int)], .int .i64 tick] H (fun v H' => ∃ ov', v = .tuple #[] ∧ H' t = some (row [.pointer (some ⟨m, 0, none⟩), .pointer (some ⟨p, 0, none⟩), .pointer (some ⟨q, 0, none⟩), .int .i64 pages, .int .i64 ids, .int .u64 (d0 : Int), .int .u64 (d1 : Int), .int .u64 (d2 : Int), .int .u64 (d3 : Int), .int .u64 (d4 : Int), .int .u64 (d5 : Int), ov'] 61) ∧ QueueH H' q dep rest ∧ OutH H' ov' (out ++ [⟨j.id, e, hit, tick, data, [d0, d1, d2, d3, d4, d5]⟩])) := by
 have hL : ∀ c ∈ [[c0, c1, c2, c3, c4, c5], [a0, a1, a2, a3, a4, a5]], cnAll c := by
   intro c hcc
   simp only [List.mem_cons, List.not_mem_nil, or_false] at hcc
   rcases hcc with rfl | rfl
   · exact hc
   · exact ha
 refine ht_of_body (args := [.pointer (some ⟨t, 0, none⟩), .agg #[.bool true, .int .i64 0, .int .i64 e, .bool hit, .int .i64 0, .slice da data.length dc, .int .u64 0, .int .u64 0, .int .u64 0, .int .u64 0, .int .u64 0, .int .u64 0, .int .u64 (a0 : Int), .int .u64 (a1 : Int), .int .u64 (a2 : Int), .int .u64 (a3 : Int), .int .u64 (a4 : Int), .int .u64 (a5 : Int)], .int .i64 tick]) func27 rfl ?_
 simp only [ntmps27, List.length_cons, List.length_nil, Nat.reduceAdd, Nat.reduceSub, List.replicate_succ, List.replicate_zero, List.cons_append, List.nil_append]
 refine sR ?_
 refine hops_cons rfl (hop_box rfl rfl ?_)
 intro b1 hb1
 have hb1' := hb1
 try simp only [Hp.set_none, Hp.del_none] at hb1'
 have hb1_n : H b1 = none := by first | exact hb1' | exact hb1'.2 | exact hb1'.2.2 | exact hb1'.2.2.2 | exact hb1'.2.2.2.2 | exact hb1'.2.2.2.2.2 | exact hb1'.2.2.2.2.2.2
 have hb1_t : b1 ≠ t := (Hp.ne_of ht hb1_n).symm
 clear hb1'
 try simp only [nfa, Nat.reduceAdd]
 refine hops_nil ?_
 try simp only [nfa, Nat.reduceAdd]
 refine hc_seq ?_
 refine hc_draw0 follows (by intros; simp [hng, hthen, hblock, hend]) ?_
 refine dT 0 rfl (by decide +kernel) rfl (by first | ((repeat' first | assumption | exact Sub.refl _ | refine Sub.over ?_ ‹_› _); done) | (intro _ _ h; simp only [Hp.set] at h ⊢; grind)) (hop_move ?_)
 try simp only [nfa, Nat.reduceAdd]
 refine dT 1 rfl (by decide +kernel) rfl (by first | ((repeat' first | assumption | exact Sub.refl _ | refine Sub.over ?_ ‹_› _); done) | (intro _ _ h; simp only [Hp.set] at h ⊢; grind)) (hop_move ?_)
 try simp only [nfa, Nat.reduceAdd]
 refine dT 2 rfl (by decide +kernel) rfl (by first | ((repeat' first | assumption | exact Sub.refl _ | refine Sub.over ?_ ‹_› _); done) | (intro _ _ h; simp only [Hp.set] at h ⊢; grind)) (hop_nilCheck rfl ?_)
 try simp only [nfa, Nat.reduceAdd]
 refine dT 3 rfl (by decide +kernel) rfl (by first | ((repeat' first | assumption | exact Sub.refl _ | refine Sub.over ?_ ‹_› _); done) | (intro _ _ h; simp only [Hp.set] at h ⊢; grind)) (hop_fieldAddr rfl ?_)
 try simp only [nfa, Nat.reduceAdd]
 refine dT 4 rfl (by decide +kernel) rfl (by first | ((repeat' first | assumption | exact Sub.refl _ | refine Sub.over ?_ ‹_› _); done) | (intro _ _ h; simp only [Hp.set] at h ⊢; grind)) (hop_loadA rfl (by (repeat' first | assumption | exact hS | exact Hp.one_get _ _ | refine hT (by first | assumption | exact Ne.symm ‹_›) ?_)) (by first | assumption | omega | (simp; done) | (simp; omega) | (simp [frc] <;> omega)) ?_)
 try simp only [nfa, Nat.reduceAdd]
 refine dT 5 rfl (by decide +kernel) rfl (by first | ((repeat' first | assumption | exact Sub.refl _ | refine Sub.over ?_ ‹_› _); done) | (intro _ _ h; simp only [Hp.set] at h ⊢; grind)) (hop_fieldAddr rfl ?_)
 try simp only [nfa, Nat.reduceAdd]
 refine dT 6 rfl (by decide +kernel) rfl (by first | ((repeat' first | assumption | exact Sub.refl _ | refine Sub.over ?_ ‹_› _); done) | (intro _ _ h; simp only [Hp.set] at h ⊢; grind)) (hop_loadA rfl (by (repeat' first | assumption | exact hS | exact Hp.one_get _ _ | refine hT (by first | assumption | exact Ne.symm ‹_›) ?_)) (by first | assumption | omega | (simp; done) | (simp; omega) | (simp [frc] <;> omega)) ?_)
 try simp only [nfa, Nat.reduceAdd]
 refine hD_do 7 rfl (by decide +kernel) rfl (hop_buildSlice (L := [.int .u64 (c0 : Int), .int .u64 (c1 : Int), .int .u64 (c2 : Int), .int .u64 (c3 : Int), .int .u64 (c4 : Int), .int .u64 (c5 : Int), .int .u64 (a0 : Int), .int .u64 (a1 : Int), .int .u64 (a2 : Int), .int .u64 (a3 : Int), .int .u64 (a4 : Int), .int .u64 (a5 : Int)]) rfl (by decide) (by decide) rfl ?_)
 intro bs hbs
 have hbs' := hbs
 try simp only [Hp.set_none, Hp.del_none] at hbs'
 have hbs_n : H bs = none := by first | exact hbs' | exact hbs'.2 | exact hbs'.2.2 | exact hbs'.2.2.2 | exact hbs'.2.2.2.2 | exact hbs'.2.2.2.2.2 | exact hbs'.2.2.2.2.2.2
 have hbs_b1 : bs ≠ b1 := by first | exact hbs'.1 | exact hbs'.2.1 | exact hbs'.2.2.1 | exact hbs'.2.2.2.1 | exact hbs'.2.2.2.2.1 | exact hbs'.2.2.2.2.2.1
 have hbs_t : bs ≠ t := (Hp.ne_of ht hbs_n).symm
 clear hbs'
 try simp only [nf, nf2]
 refine ⟨.inr (by first | ((repeat' first | assumption | exact Sub.refl _ | refine Sub.over ?_ ‹_› _); done) | (intro _ _ h; simp only [Hp.set] at h ⊢; grind)), ?_⟩
 try simp only [nfa, Nat.reduceAdd]
 refine hD_do 8 rfl (by decide +kernel) rfl (hop_call ?_)
 simp only [nfa, Nat.reduceAdd]
 refine HT.mono (count_Sum (L := [[c0, c1, c2, c3, c4, c5], [a0, a1, a2, a3, a4, a5]]) rfl (srcOk_own' (t := 38) (by (repeat' first | assumption | exact hS | exact Hp.one_get _ _ | refine hT (by first | assumption | exact Ne.symm ‹_›) ?_)) rfl) hL (by simp)) ?_
 rintro _ _ ⟨rfl, rfl⟩
 rw [hd]
 simp only [cnc, List.map_cons, List.map_nil]
 try simp only [nf, nf2]
 refine ⟨.inr (by first | ((repeat' first | assumption | exact Sub.refl _ | refine Sub.over ?_ ‹_› _); done) | (intro _ _ h; simp only [Hp.set] at h ⊢; grind)), ?_⟩
 try simp only [nfa, Nat.reduceAdd]
 refine dT 9 rfl (by decide +kernel) rfl (by first | ((repeat' first | assumption | exact Sub.refl _ | refine Sub.over ?_ ‹_› _); done) | (intro _ _ h; simp only [Hp.set] at h ⊢; grind)) (hop_nilCheck rfl ?_)
 try simp only [nfa, Nat.reduceAdd]
 refine dT 10 rfl (by decide +kernel) rfl (by first | ((repeat' first | assumption | exact Sub.refl _ | refine Sub.over ?_ ‹_› _); done) | (intro _ _ h; simp only [Hp.set] at h ⊢; grind)) (hop_fieldAddr rfl ?_)
 try simp only [nfa, Nat.reduceAdd]
 refine hD_do 11 rfl (by decide +kernel) rfl (hop_storeA rfl rfl (by rfl) (by first | assumption | (repeat' first | (intro _ h; cases h; done) | refine List.forall_mem_cons.2 ⟨by first | rfl | assumption, ?_⟩) | (simp [Value.oneCell']; done) | (simp [Value.oneCell', *]; done)) (by (repeat' first | assumption | exact hS | exact Hp.one_get _ _ | refine hT (by first | assumption | exact Ne.symm ‹_›) ?_)) (by first | assumption | omega | (simp; done) | (simp; omega) | (simp [frc] <;> omega)) (by decide) ?_)
 try simp only [nfa, Nat.reduceAdd]
 refine ⟨.inl (by decide +kernel), ?_⟩
 try simp only [nfa, Nat.reduceAdd]
 refine hD_done (by decide +kernel) ?_
 try simp only [nfa, Nat.reduceAdd]
 refine hc_seq ?_
 refine sR ?_
 refine oF rfl ?_
 refine hops_cons rfl (hop_load rfl (by (repeat' first | assumption | exact hS | exact Hp.one_get _ _ | refine hT (by first | assumption | exact Ne.symm ‹_›) ?_)) (by first | rfl | assumption | exact mid_get0 rfl | exact mid_get rfl | (simp; done)) ?_)
 try simp only [nfa, Nat.reduceAdd]
 refine hops_cons rfl (hop_not rfl ?_)
 try simp only [nfa, Nat.reduceAdd]
 refine hops_nil ?_
 try simp only [nfa, Nat.reduceAdd]
 refine hc_F rfl (by first | rfl | assumption | (simp; done) | (simp; omega) | (simp [*]; done)) ?_
 refine hc_skip ?_
 try simp only [nfa, Nat.reduceAdd]
 refine sR ?_
 refine oM ?_
 refine oN rfl ?_
 refine oF rfl ?_
 refine hops_cons rfl (hop_load rfl (by (repeat' first | assumption | exact hS | exact Hp.one_get _ _ | refine hT (by first | assumption | exact Ne.symm ‹_›) ?_)) (by first | rfl | assumption | exact mid_get0 rfl | exact mid_get rfl | (simp; done)) ?_)
 try simp only [nfa, Nat.reduceAdd]
 refine hops_cons rfl (hop_call ?_)
 simp only [nfa, Nat.reduceAdd]
 refine HT.mono (qh_Take (dep := dep) (j := j) (l := rest) (by (repeat' first | exact hq | refine QueueH.updT ?_ (by (repeat' first | assumption | exact hS | exact Hp.one_get _ _ | refine hT (by first | assumption | exact Ne.symm ‹_›) ?_)) (by decide) (by decide) (by decide) | refine QueueH.new ?_ (by assumption)))) ?_
 rintro _ H1 ⟨jdv, rfl, hjok, hq1, f1⟩
 have hj1 : jdv.oneCell' = true := hjok
 have H1_b1 := f1.keep (b := b1) (by (repeat' first | assumption | exact hS | exact Hp.one_get _ _ | refine hT (by first | assumption | exact Ne.symm ‹_›) ?_)) (by decide) (by decide)
 have H1_bs := f1.keep (b := bs) (by (repeat' first | assumption | exact hS | exact Hp.one_get _ _ | refine hT (by first | assumption | exact Ne.symm ‹_›) ?_)) (by decide) (by decide)
 have H1_t := f1.keep (b := t) (by (repeat' first | assumption | exact hS | exact Hp.one_get _ _ | refine hT (by first | assumption | exact Ne.symm ‹_›) ?_)) (by decide) (by decide)
 have ho1 : OutH H1 ov out := OutH.q (by (repeat' first | exact ho | refine OutH.updT ?_ (by (repeat' first | assumption | exact hS | exact Hp.one_get _ _ | refine hT (by first | assumption | exact Ne.symm ‹_›) ?_)) (by decide) (by decide) | refine OutH.new ?_ (by assumption))) f1
 obtain ⟨xs, hox, hxo, hxd⟩ := ho1
 have hxl : xs.length = out.length := by rw [← hxo]; simp
 have hdv1 : dOkU H1 (.slice da data.length dc) data := dOkU.q (by (repeat' first | exact hdv | refine rdS.upd ?_ (by (repeat' first | assumption | exact hS | exact Hp.one_get _ _ | refine hT (by first | assumption | exact Ne.symm ‹_›) ?_)) (by decide) | refine rdS.new ?_ (by assumption))) f1
 simp only [jc, rqc, jbv]
 try simp only [nf, nf2]
 refine oM ?_
 refine hops_cons rfl (hop_extract rfl rfl ?_)
 refine hops_cons rfl (hop_extract rfl rfl ?_)
 try simp only [nfa, Nat.reduceAdd]
 refine hops_cons rfl (hop_alloc (zl := [.int .i64 0, .int .i64 0, .int .i64 0, .int .i64 0, .int .i64 0, .slice none 0 0]) rfl ?_)
 intro b2 hb2
 have hb2' := hb2
 try simp only [Hp.set_none, Hp.del_none] at hb2'
 have hb2_n : H1 b2 = none := by first | exact hb2' | exact hb2'.2 | exact hb2'.2.2 | exact hb2'.2.2.2 | exact hb2'.2.2.2.2 | exact hb2'.2.2.2.2.2 | exact hb2'.2.2.2.2.2.2
 have hb2_b1 : b2 ≠ b1 := (Hp.ne_of H1_b1 hb2_n).symm
 have hb2_bs : b2 ≠ bs := (Hp.ne_of H1_bs hb2_n).symm
 have hb2_t : b2 ≠ t := (Hp.ne_of H1_t hb2_n).symm
 clear hb2'
 try simp only [nfa, Nat.reduceAdd]
 refine hops_cons rfl (hop_storeA rfl rfl (by rfl) (by first | assumption | (repeat' first | (intro _ h; cases h; done) | refine List.forall_mem_cons.2 ⟨by first | rfl | assumption, ?_⟩) | (simp [Value.oneCell']; done) | (simp [Value.oneCell', *]; done)) (by (repeat' first | assumption | exact hS | exact Hp.one_get _ _ | refine hT (by first | assumption | exact Ne.symm ‹_›) ?_)) (by first | assumption | omega | (simp; done) | (simp; omega) | (simp [frc] <;> omega)) (by decide) ?_)
 try simp only [nfa, Nat.reduceAdd]
 refine oA ?_
 try simp only [nfa, Nat.reduceAdd]
 refine hops_nil ?_
 try simp only [nfa, Nat.reduceAdd]
 refine sR ?_
 refine oF rfl ?_
 refine hops_cons rfl (hop_loadA rfl (by (repeat' first | assumption | exact hS | exact Hp.one_get _ _ | refine hT (by first | assumption | exact Ne.symm ‹_›) ?_)) (by first | assumption | omega | (simp; done) | (simp; omega) | (simp [frc] <;> omega)) ?_)
 try simp only [nfa, Nat.reduceAdd]
 refine hops_cons rfl (hop_alloc (zl := [.int .i64 0, .int .i64 0, .bool false, .int .i64 0, .slice none 0 0, .int .u64 0, .int .u64 0, .int .u64 0, .int .u64 0, .int .u64 0, .int .u64 0]) rfl ?_)
 intro b3 hb3
 have hb3' := hb3
 try simp only [Hp.set_none, Hp.del_none] at hb3'
 have hb3_n : H1 b3 = none := by first | exact hb3' | exact hb3'.2 | exact hb3'.2.2 | exact hb3'.2.2.2 | exact hb3'.2.2.2.2 | exact hb3'.2.2.2.2.2 | exact hb3'.2.2.2.2.2.2
 have hb3_b2 : b3 ≠ b2 := by first | exact hb3'.1 | exact hb3'.2.1 | exact hb3'.2.2.1 | exact hb3'.2.2.2.1 | exact hb3'.2.2.2.2.1 | exact hb3'.2.2.2.2.2.1
 have hb3_b1 : b3 ≠ b1 := (Hp.ne_of H1_b1 hb3_n).symm
 have hb3_bs : b3 ≠ bs := (Hp.ne_of H1_bs hb3_n).symm
 have hb3_t : b3 ≠ t := (Hp.ne_of H1_t hb3_n).symm
 clear hb3'
 try simp only [nfa, Nat.reduceAdd]
 refine hops_cons rfl (hop_storeA rfl rfl (by rfl) (by first | assumption | (repeat' first | (intro _ h; cases h; done) | refine List.forall_mem_cons.2 ⟨by first | rfl | assumption, ?_⟩) | (simp [Value.oneCell']; done) | (simp [Value.oneCell', *]; done)) (by (repeat' first | assumption | exact hS | exact Hp.one_get _ _ | refine hT (by first | assumption | exact Ne.symm ‹_›) ?_)) (by first | assumption | omega | (simp; done) | (simp; omega) | (simp [frc] <;> omega)) (by decide) ?_)
 try simp only [nfa, Nat.reduceAdd]
 refine hops_nil ?_
 try simp only [nfa, Nat.reduceAdd]
 refine sR ?_
 refine oF rfl ?_
 refine hops_cons rfl (hop_load rfl (by (repeat' first | assumption | exact hS | exact Hp.one_get _ _ | refine hT (by first | assumption | exact Ne.symm ‹_›) ?_)) (by first | rfl | assumption | exact mid_get0 rfl | exact mid_get rfl | (simp; done)) ?_)
 try simp only [nfa, Nat.reduceAdd]
 refine oM ?_
 refine oF rfl ?_
 refine hops_cons rfl (hop_store rfl rfl (by first | rfl | assumption) (by (repeat' first | assumption | exact hS | exact Hp.one_get _ _ | refine hT (by first | assumption | exact Ne.symm ‹_›) ?_)) (by first | assumption | omega | (simp; done) | (simp; omega) | (simp [frc] <;> omega)) ?_)
 try simp only [nfa, Nat.reduceAdd]
 refine oF rfl ?_
 refine hops_cons rfl (hop_store rfl rfl (by first | rfl | assumption) (by (repeat' first | assumption | exact hS | exact Hp.one_get _ _ | refine hT (by first | assumption | exact Ne.symm ‹_›) ?_)) (by first | assumption | omega | (simp; done) | (simp; omega) | (simp [frc] <;> omega)) ?_)
 try simp only [nfa, Nat.reduceAdd]
 refine hops_nil ?_
 try simp only [nfa, Nat.reduceAdd]
 refine hc_seq ?_
 refine sR ?_
 refine oF rfl ?_
 refine oF rfl ?_
 refine hops_cons rfl (hop_load rfl (by (repeat' first | assumption | exact hS | exact Hp.one_get _ _ | refine hT (by first | assumption | exact Ne.symm ‹_›) ?_)) (by first | rfl | assumption | exact mid_get0 rfl | exact mid_get rfl | (simp; done)) ?_)
 try simp only [nfa, Nat.reduceAdd]
 refine hops_cons rfl (hop_bin rfl rfl rfl ?_)
 try simp only [nfa, Nat.reduceAdd]
 refine hops_nil ?_
 try simp only [nfa, Nat.reduceAdd]
 refine hc_T rfl (by first | rfl | assumption | (simp; done) | (simp; omega) | (simp [*]; done)) ?_
 refine hc_region ?_
 refine oM ?_
 refine oN rfl ?_
 refine oF rfl ?_
 refine hops_cons rfl (hop_loadA rfl (by (repeat' first | assumption | exact hS | exact Hp.one_get _ _ | refine hT (by first | assumption | exact Ne.symm ‹_›) ?_)) (by first | assumption | omega | (simp; done) | (simp; omega) | (simp [frc] <;> omega)) ?_)
 try simp only [nfa, Nat.reduceAdd]
 refine oF rfl ?_
 refine hops_cons rfl (hop_storeA rfl rfl (by rfl) (by first | assumption | (repeat' first | (intro _ h; cases h; done) | refine List.forall_mem_cons.2 ⟨by first | rfl | assumption, ?_⟩) | (simp [Value.oneCell']; done) | (simp [Value.oneCell', *]; done)) (by (repeat' first | assumption | exact hS | exact Hp.one_get _ _ | refine hT (by first | assumption | exact Ne.symm ‹_›) ?_)) (by first | assumption | omega | (simp; done) | (simp; omega) | (simp [frc] <;> omega)) (by decide) ?_)
 try simp only [nfa, Nat.reduceAdd]
 refine hops_nil ?_
 try simp only [nfa, Nat.reduceAdd]
 refine hc_draw (Hp.one t (row [.pointer (some ⟨m, 0, none⟩), .pointer (some ⟨p, 0, none⟩), .pointer (some ⟨q, 0, none⟩), .int .i64 pages, .int .i64 ids, .int .u64 (d0 : Int), .int .u64 (d1 : Int), .int .u64 (d2 : Int), .int .u64 (d3 : Int), .int .u64 (d4 : Int), .int .u64 (d5 : Int), ov] 61)) follows (by intros; simp [hng, hthen, hblock, hend]) ?_
 refine dT 0 rfl (by decide +kernel) rfl (Sub.one (by (repeat' first | assumption | exact hS | exact Hp.one_get _ _ | refine hT (by first | assumption | exact Ne.symm ‹_›) ?_))) (hop_move ?_)
 try simp only [nfa, Nat.reduceAdd]
 refine dT 1 rfl (by decide +kernel) rfl (Sub.one (by (repeat' first | assumption | exact hS | exact Hp.one_get _ _ | refine hT (by first | assumption | exact Ne.symm ‹_›) ?_))) (hop_move ?_)
 try simp only [nfa, Nat.reduceAdd]
 refine dT 2 rfl (by decide +kernel) rfl (Sub.one (by (repeat' first | assumption | exact hS | exact Hp.one_get _ _ | refine hT (by first | assumption | exact Ne.symm ‹_›) ?_))) (hop_nilCheck rfl ?_)
 try simp only [nfa, Nat.reduceAdd]
 refine dT 3 rfl (by decide +kernel) rfl (Sub.one (by (repeat' first | assumption | exact hS | exact Hp.one_get _ _ | refine hT (by first | assumption | exact Ne.symm ‹_›) ?_))) (hop_fieldAddr rfl ?_)
 try simp only [nfa, Nat.reduceAdd]
 refine dT 4 rfl (by decide +kernel) rfl (Sub.one (by (repeat' first | assumption | exact hS | exact Hp.one_get _ _ | refine hT (by first | assumption | exact Ne.symm ‹_›) ?_))) (hop_load rfl (by (repeat' first | assumption | exact hS | exact Hp.one_get _ _ | refine hT (by first | assumption | exact Ne.symm ‹_›) ?_)) (by first | rfl | assumption | exact mid_get0 rfl | exact mid_get rfl | (simp; done)) ?_)
 try simp only [nfa, Nat.reduceAdd]
 refine hD_do 5 rfl (by decide +kernel) rfl (hop_loadA rfl (by (repeat' first | assumption | exact hS | exact Hp.one_get _ _ | refine hT (by first | assumption | exact Ne.symm ‹_›) ?_)) (by first | assumption | omega | (simp; done) | (simp; omega) | (simp [frc] <;> omega)) ?_)
 try simp only [nfa, Nat.reduceAdd]
 refine ⟨.inr (Sub.one (by (repeat' first | assumption | exact hS | exact Hp.one_get _ _ | refine hT (by first | assumption | exact Ne.symm ‹_›) ?_))), ?_⟩
 try simp only [nfa, Nat.reduceAdd]
 refine hD_do 6 rfl (by decide +kernel) rfl (hop_buildSlice (L := [.int .i64 j.id, .int .i64 e, .bool hit, .int .i64 tick, .slice da data.length dc, .int .u64 (d0 : Int), .int .u64 (d1 : Int), .int .u64 (d2 : Int), .int .u64 (d3 : Int), .int .u64 (d4 : Int), .int .u64 (d5 : Int)]) rfl (by decide) (by decide) rfl ?_)
 intro bs2 hbs2
 have hbs2' := hbs2
 try simp only [Hp.set_none, Hp.del_none] at hbs2'
 have hbs2_n : H1 bs2 = none := by first | exact hbs2' | exact hbs2'.2 | exact hbs2'.2.2 | exact hbs2'.2.2.2 | exact hbs2'.2.2.2.2 | exact hbs2'.2.2.2.2.2 | exact hbs2'.2.2.2.2.2.2
 have hbs2_b2 : bs2 ≠ b2 := by first | exact hbs2'.1 | exact hbs2'.2.1 | exact hbs2'.2.2.1 | exact hbs2'.2.2.2.1 | exact hbs2'.2.2.2.2.1 | exact hbs2'.2.2.2.2.2.1
 have hbs2_b3 : bs2 ≠ b3 := by first | exact hbs2'.1 | exact hbs2'.2.1 | exact hbs2'.2.2.1 | exact hbs2'.2.2.2.1 | exact hbs2'.2.2.2.2.1 | exact hbs2'.2.2.2.2.2.1
 have hbs2_b1 : bs2 ≠ b1 := (Hp.ne_of H1_b1 hbs2_n).symm
 have hbs2_bs : bs2 ≠ bs := (Hp.ne_of H1_bs hbs2_n).symm
 have hbs2_t : bs2 ≠ t := (Hp.ne_of H1_t hbs2_n).symm
 clear hbs2'
 try simp only [nf, nf2]
 refine ⟨.inr (Sub.one (by (repeat' first | assumption | exact hS | exact Hp.one_get _ _ | refine hT (by first | assumption | exact Ne.symm ‹_›) ?_))), ?_⟩
 try simp only [nfa, Nat.reduceAdd]
 refine hD_do 7 rfl (by decide +kernel) rfl (hop_appendW (H0 := _) (v := ov) (n := xs.length) (m := 1) (A := flat rspc xs) (ys := [.int .i64 j.id, .int .i64 e, .bool hit, .int .i64 tick, .slice da data.length dc, .int .u64 (d0 : Int), .int .u64 (d1 : Int), .int .u64 (d2 : Int), .int .u64 (d3 : Int), .int .u64 (d4 : Int), .int .u64 (d5 : Int)]) rfl (by (repeat' first | exact hox | refine OwnS.upd ?_ (by (repeat' first | assumption | exact hS | exact Hp.one_get _ _ | refine hT (by first | assumption | exact Ne.symm ‹_›) ?_)) (by decide) | refine OwnS.new ?_ (by assumption))) (Sub.refl _) (srcOk_own' (t := 65) (by (repeat' first | assumption | exact hS | exact Hp.one_get _ _ | refine hT (by first | assumption | exact Ne.symm ‹_›) ?_)) rfl) (by first | assumption | (repeat' first | (intro _ h; cases h; done) | refine List.forall_mem_cons.2 ⟨by first | rfl | assumption, ?_⟩) | (simp [Value.oneCell']; done) | (simp [Value.oneCell', *]; done)) (by rfl) (by decide) (by omega) (by decide) ?_)
 intro ov2 H2 hg2 hd2
 try simp only [nf, nf2]
 have ho2 := hg2.one
 have hs2 := hd2.trans (Sub.drop H2 ov2)
 have H2_t := hs2 _ _ (OwnS.drop_get (n := xs.length) (sz := 11) (A := flat rspc xs) (t := 65) (c := t) (by (repeat' first | exact hox | refine OwnS.upd ?_ (by (repeat' first | assumption | exact hS | exact Hp.one_get _ _ | refine hT (by first | assumption | exact Ne.symm ‹_›) ?_)) (by decide) | refine OwnS.new ?_ (by assumption))) (by (repeat' first | assumption | exact hS | exact Hp.one_get _ _ | refine hT (by first | assumption | exact Ne.symm ‹_›) ?_)) (by decide))
 have hq2 : QueueH H2 q dep rest := QueueH.sub (QueueH.drop (n := xs.length) (A := flat rspc xs) (by (repeat' first | exact hq1 | refine QueueH.updT ?_ (by (repeat' first | assumption | exact hS | exact Hp.one_get _ _ | refine hT (by first | assumption | exact Ne.symm ‹_›) ?_)) (by decide) (by decide) (by decide) | refine QueueH.new ?_ (by assumption))) (by (repeat' first | exact hox | refine OwnS.upd ?_ (by (repeat' first | assumption | exact hS | exact Hp.one_get _ _ | refine hT (by first | assumption | exact Ne.symm ‹_›) ?_)) (by decide) | refine OwnS.new ?_ (by assumption)))) hs2
 have hdv2 : dOkU H2 (.slice da data.length dc) data := rdS.sub (rdS.drop (n := xs.length) (sz := 11) (A := flat rspc xs) (t := 65) (by (repeat' first | exact hdv1 | refine rdS.upd ?_ (by (repeat' first | assumption | exact hS | exact Hp.one_get _ _ | refine hT (by first | assumption | exact Ne.symm ‹_›) ?_)) (by decide) | refine rdS.new ?_ (by assumption))) (by (repeat' first | exact hox | refine OwnS.upd ?_ (by (repeat' first | assumption | exact hS | exact Hp.one_get _ _ | refine hT (by first | assumption | exact Ne.symm ‹_›) ?_)) (by decide) | refine OwnS.new ?_ (by assumption))) (by decide)) hs2
 have hxd2 : ∀ y ∈ xs, dOkU H2 y.2 y.1.data ∧ y.1.cn.length = 6 := fun y hy => ⟨rdS.sub (rdS.drop (n := xs.length) (sz := 11) (A := flat rspc xs) (t := 65) (by (repeat' first | exact (hxd y hy).1 | refine rdS.upd ?_ (by (repeat' first | assumption | exact hS | exact Hp.one_get _ _ | refine hT (by first | assumption | exact Ne.symm ‹_›) ?_)) (by decide) | refine rdS.new ?_ (by assumption))) (by (repeat' first | exact hox | refine OwnS.upd ?_ (by (repeat' first | assumption | exact hS | exact Hp.one_get _ _ | refine hT (by first | assumption | exact Ne.symm ‹_›) ?_)) (by decide) | refine OwnS.new ?_ (by assumption))) (by decide)) hs2, (hxd y hy).2⟩
 have hout2 : OutH H2 ov2 (out ++ [⟨j.id, e, hit, tick, data, [d0, d1, d2, d3, d4, d5]⟩]) := OutH.push (dv := .slice da data.length dc) hg2 hxo hxd2 hdv2 rfl
 refine ⟨.inr (Sub.one (by (repeat' first | assumption | exact hS | exact Hp.one_get _ _ | refine hT (by first | assumption | exact Ne.symm ‹_›) ?_))), ?_⟩
 try simp only [nfa, Nat.reduceAdd]
 refine dT 8 rfl (by decide +kernel) rfl (Sub.one (by (repeat' first | assumption | exact hS | exact Hp.one_get _ _ | refine hT (by first | assumption | exact Ne.symm ‹_›) ?_))) (hop_nilCheck rfl ?_)
 try simp only [nfa, Nat.reduceAdd]
 refine dT 9 rfl (by decide +kernel) rfl (Sub.one (by (repeat' first | assumption | exact hS | exact Hp.one_get _ _ | refine hT (by first | assumption | exact Ne.symm ‹_›) ?_))) (hop_fieldAddr rfl ?_)
 try simp only [nfa, Nat.reduceAdd]
 refine hD_do 10 rfl (by decide +kernel) rfl (hop_store rfl rfl (by first | rfl | assumption) (by (repeat' first | assumption | exact hS | exact Hp.one_get _ _ | refine hT (by first | assumption | exact Ne.symm ‹_›) ?_)) (by first | assumption | omega | (simp; done) | (simp; omega) | (simp [frc] <;> omega)) ?_)
 try simp only [nfa, Nat.reduceAdd]
 refine ⟨.inl (by decide +kernel), ?_⟩
 try simp only [nfa, Nat.reduceAdd]
 refine hD_done (by decide +kernel) ?_
 try simp only [nfa, Nat.reduceAdd]
 apply hend_none_sub rfl ?es ?eR
 case es => exact Sub.refl _
 case eR =>
  exact ⟨ov2, rfl, by (repeat' first | assumption | exact hS | exact Hp.one_get _ _ | refine hT (by first | assumption | exact Ne.symm ‹_›) ?_), by (repeat' first | exact hq2 | refine QueueH.updT ?_ (by (repeat' first | assumption | exact hS | exact Hp.one_get _ _ | refine hT (by first | assumption | exact Ne.symm ‹_›) ?_)) (by decide) (by decide) (by decide) | refine QueueH.new ?_ (by assumption)), by (repeat' first | exact hout2 | refine OutH.updT ?_ (by (repeat' first | assumption | exact hS | exact Hp.one_get _ _ | refine hT (by first | assumption | exact Ne.symm ‹_›) ?_)) (by decide) (by decide) | refine OutH.new ?_ (by assumption))⟩
theorem tell_done {H : Hp} {t m p q : Nat} {pages ids : Int} {c0 c1 c2 c3 c4 c5 a0 a1 a2 a3 a4 a5 d0 d1 d2 d3 d4 d5 : Nat} {ov : Value} {e tick : Int} {hit : Bool} (ht : H t = some (row [.pointer (some ⟨m, 0, none⟩), .pointer (some ⟨p, 0, none⟩), .pointer (some ⟨q, 0, none⟩), .int .i64 pages, .int .i64 ids, .int .u64 (c0 : Int), .int .u64 (c1 : Int), .int .u64 (c2 : Int), .int .u64 (c3 : Int), .int .u64 (c4 : Int), .int .u64 (c5 : Int), ov] 61)) (hc : cnAll [c0, c1, c2, c3, c4, c5]) (ha : cnAll [a0, a1, a2, a3, a4, a5]) (hd : sumAll [[c0, c1, c2, c3, c4, c5], [a0, a1, a2, a3, a4, a5]] = [d0, d1, d2, d3, d4, d5]) {dep : Nat} {j : Jm} {rest : List Jm} {out : List Rm} {da : Option Addr} {dc : Nat} {data : List UInt8} (hdv : dOkU H (.slice da data.length dc) data) (hq : QueueH H q dep (j :: rest)) (ho : OutH H ov out) (hol : out.length ≤ 1000000) (hop : j.r.op ≠ 8) :
    HT prog 27 #[.pointer (some ⟨t, 0, none⟩), .agg #[.bool true, .int .i64 0, .int .i64 e, .bool hit, .int .i64 0, .slice da data.length dc, .int .u64 0, .int .u64 0, .int .u64 0, .int .u64 0, .int .u64 0, .int .u64 0, .int .u64 (a0 : Int), .int .u64 (a1 : Int), .int .u64 (a2 : Int), .int .u64 (a3 : Int), .int .u64 (a4 : Int), .int .u64 (a5 : Int)], .int .i64 tick] H (fun v H' => ∃ ov', v = .tuple #[] ∧ H' t = some (row [.pointer (some ⟨m, 0, none⟩), .pointer (some ⟨p, 0, none⟩), .pointer (some ⟨q, 0, none⟩), .int .i64 pages, .int .i64 ids, .int .u64 (d0 : Int), .int .u64 (d1 : Int), .int .u64 (d2 : Int), .int .u64 (d3 : Int), .int .u64 (d4 : Int), .int .u64 (d5 : Int), ov'] 61) ∧ QueueH H' q dep rest ∧ OutH H' ov' (out ++ [⟨j.id, e, hit, tick, data, z6⟩])) := by
 have hL : ∀ c ∈ [[c0, c1, c2, c3, c4, c5], [a0, a1, a2, a3, a4, a5]], cnAll c := by
   intro c hcc
   simp only [List.mem_cons, List.not_mem_nil, or_false] at hcc
   rcases hcc with rfl | rfl
   · exact hc
   · exact ha
 refine ht_of_body (args := [.pointer (some ⟨t, 0, none⟩), .agg #[.bool true, .int .i64 0, .int .i64 e, .bool hit, .int .i64 0, .slice da data.length dc, .int .u64 0, .int .u64 0, .int .u64 0, .int .u64 0, .int .u64 0, .int .u64 0, .int .u64 (a0 : Int), .int .u64 (a1 : Int), .int .u64 (a2 : Int), .int .u64 (a3 : Int), .int .u64 (a4 : Int), .int .u64 (a5 : Int)], .int .i64 tick]) func27 rfl ?_
 simp only [ntmps27, List.length_cons, List.length_nil, Nat.reduceAdd, Nat.reduceSub, List.replicate_succ, List.replicate_zero, List.cons_append, List.nil_append]
 refine sR ?_
 refine hops_cons rfl (hop_box rfl rfl ?_)
 intro b1 hb1
 have hb1' := hb1
 try simp only [Hp.set_none, Hp.del_none] at hb1'
 have hb1_n : H b1 = none := by first | exact hb1' | exact hb1'.2 | exact hb1'.2.2 | exact hb1'.2.2.2 | exact hb1'.2.2.2.2 | exact hb1'.2.2.2.2.2 | exact hb1'.2.2.2.2.2.2
 have hb1_t : b1 ≠ t := (Hp.ne_of ht hb1_n).symm
 clear hb1'
 try simp only [nfa, Nat.reduceAdd]
 refine hops_nil ?_
 try simp only [nfa, Nat.reduceAdd]
 refine hc_seq ?_
 refine hc_draw0 follows (by intros; simp [hng, hthen, hblock, hend]) ?_
 refine dT 0 rfl (by decide +kernel) rfl (by first | ((repeat' first | assumption | exact Sub.refl _ | refine Sub.over ?_ ‹_› _); done) | (intro _ _ h; simp only [Hp.set] at h ⊢; grind)) (hop_move ?_)
 try simp only [nfa, Nat.reduceAdd]
 refine dT 1 rfl (by decide +kernel) rfl (by first | ((repeat' first | assumption | exact Sub.refl _ | refine Sub.over ?_ ‹_› _); done) | (intro _ _ h; simp only [Hp.set] at h ⊢; grind)) (hop_move ?_)
 try simp only [nfa, Nat.reduceAdd]
 refine dT 2 rfl (by decide +kernel) rfl (by first | ((repeat' first | assumption | exact Sub.refl _ | refine Sub.over ?_ ‹_› _); done) | (intro _ _ h; simp only [Hp.set] at h ⊢; grind)) (hop_nilCheck rfl ?_)
 try simp only [nfa, Nat.reduceAdd]
 refine dT 3 rfl (by decide +kernel) rfl (by first | ((repeat' first | assumption | exact Sub.refl _ | refine Sub.over ?_ ‹_› _); done) | (intro _ _ h; simp only [Hp.set] at h ⊢; grind)) (hop_fieldAddr rfl ?_)
 try simp only [nfa, Nat.reduceAdd]
 refine dT 4 rfl (by decide +kernel) rfl (by first | ((repeat' first | assumption | exact Sub.refl _ | refine Sub.over ?_ ‹_› _); done) | (intro _ _ h; simp only [Hp.set] at h ⊢; grind)) (hop_loadA rfl (by (repeat' first | assumption | exact hS | exact Hp.one_get _ _ | refine hT (by first | assumption | exact Ne.symm ‹_›) ?_)) (by first | assumption | omega | (simp; done) | (simp; omega) | (simp [frc] <;> omega)) ?_)
 try simp only [nfa, Nat.reduceAdd]
 refine dT 5 rfl (by decide +kernel) rfl (by first | ((repeat' first | assumption | exact Sub.refl _ | refine Sub.over ?_ ‹_› _); done) | (intro _ _ h; simp only [Hp.set] at h ⊢; grind)) (hop_fieldAddr rfl ?_)
 try simp only [nfa, Nat.reduceAdd]
 refine dT 6 rfl (by decide +kernel) rfl (by first | ((repeat' first | assumption | exact Sub.refl _ | refine Sub.over ?_ ‹_› _); done) | (intro _ _ h; simp only [Hp.set] at h ⊢; grind)) (hop_loadA rfl (by (repeat' first | assumption | exact hS | exact Hp.one_get _ _ | refine hT (by first | assumption | exact Ne.symm ‹_›) ?_)) (by first | assumption | omega | (simp; done) | (simp; omega) | (simp [frc] <;> omega)) ?_)
 try simp only [nfa, Nat.reduceAdd]
 refine hD_do 7 rfl (by decide +kernel) rfl (hop_buildSlice (L := [.int .u64 (c0 : Int), .int .u64 (c1 : Int), .int .u64 (c2 : Int), .int .u64 (c3 : Int), .int .u64 (c4 : Int), .int .u64 (c5 : Int), .int .u64 (a0 : Int), .int .u64 (a1 : Int), .int .u64 (a2 : Int), .int .u64 (a3 : Int), .int .u64 (a4 : Int), .int .u64 (a5 : Int)]) rfl (by decide) (by decide) rfl ?_)
 intro bs hbs
 have hbs' := hbs
 try simp only [Hp.set_none, Hp.del_none] at hbs'
 have hbs_n : H bs = none := by first | exact hbs' | exact hbs'.2 | exact hbs'.2.2 | exact hbs'.2.2.2 | exact hbs'.2.2.2.2 | exact hbs'.2.2.2.2.2 | exact hbs'.2.2.2.2.2.2
 have hbs_b1 : bs ≠ b1 := by first | exact hbs'.1 | exact hbs'.2.1 | exact hbs'.2.2.1 | exact hbs'.2.2.2.1 | exact hbs'.2.2.2.2.1 | exact hbs'.2.2.2.2.2.1
 have hbs_t : bs ≠ t := (Hp.ne_of ht hbs_n).symm
 clear hbs'
 try simp only [nf, nf2]
 refine ⟨.inr (by first | ((repeat' first | assumption | exact Sub.refl _ | refine Sub.over ?_ ‹_› _); done) | (intro _ _ h; simp only [Hp.set] at h ⊢; grind)), ?_⟩
 try simp only [nfa, Nat.reduceAdd]
 refine hD_do 8 rfl (by decide +kernel) rfl (hop_call ?_)
 simp only [nfa, Nat.reduceAdd]
 refine HT.mono (count_Sum (L := [[c0, c1, c2, c3, c4, c5], [a0, a1, a2, a3, a4, a5]]) rfl (srcOk_own' (t := 38) (by (repeat' first | assumption | exact hS | exact Hp.one_get _ _ | refine hT (by first | assumption | exact Ne.symm ‹_›) ?_)) rfl) hL (by simp)) ?_
 rintro _ _ ⟨rfl, rfl⟩
 rw [hd]
 simp only [cnc, List.map_cons, List.map_nil]
 try simp only [nf, nf2]
 refine ⟨.inr (by first | ((repeat' first | assumption | exact Sub.refl _ | refine Sub.over ?_ ‹_› _); done) | (intro _ _ h; simp only [Hp.set] at h ⊢; grind)), ?_⟩
 try simp only [nfa, Nat.reduceAdd]
 refine dT 9 rfl (by decide +kernel) rfl (by first | ((repeat' first | assumption | exact Sub.refl _ | refine Sub.over ?_ ‹_› _); done) | (intro _ _ h; simp only [Hp.set] at h ⊢; grind)) (hop_nilCheck rfl ?_)
 try simp only [nfa, Nat.reduceAdd]
 refine dT 10 rfl (by decide +kernel) rfl (by first | ((repeat' first | assumption | exact Sub.refl _ | refine Sub.over ?_ ‹_› _); done) | (intro _ _ h; simp only [Hp.set] at h ⊢; grind)) (hop_fieldAddr rfl ?_)
 try simp only [nfa, Nat.reduceAdd]
 refine hD_do 11 rfl (by decide +kernel) rfl (hop_storeA rfl rfl (by rfl) (by first | assumption | (repeat' first | (intro _ h; cases h; done) | refine List.forall_mem_cons.2 ⟨by first | rfl | assumption, ?_⟩) | (simp [Value.oneCell']; done) | (simp [Value.oneCell', *]; done)) (by (repeat' first | assumption | exact hS | exact Hp.one_get _ _ | refine hT (by first | assumption | exact Ne.symm ‹_›) ?_)) (by first | assumption | omega | (simp; done) | (simp; omega) | (simp [frc] <;> omega)) (by decide) ?_)
 try simp only [nfa, Nat.reduceAdd]
 refine ⟨.inl (by decide +kernel), ?_⟩
 try simp only [nfa, Nat.reduceAdd]
 refine hD_done (by decide +kernel) ?_
 try simp only [nfa, Nat.reduceAdd]
 refine hc_seq ?_
 refine sR ?_
 refine oF rfl ?_
 refine hops_cons rfl (hop_load rfl (by (repeat' first | assumption | exact hS | exact Hp.one_get _ _ | refine hT (by first | assumption | exact Ne.symm ‹_›) ?_)) (by first | rfl | assumption | exact mid_get0 rfl | exact mid_get rfl | (simp; done)) ?_)
 try simp only [nfa, Nat.reduceAdd]
 refine hops_cons rfl (hop_not rfl ?_)
 try simp only [nfa, Nat.reduceAdd]
 refine hops_nil ?_
 try simp only [nfa, Nat.reduceAdd]
 refine hc_F rfl (by first | rfl | assumption | (simp; done) | (simp; omega) | (simp [*]; done)) ?_
 refine hc_skip ?_
 try simp only [nfa, Nat.reduceAdd]
 refine sR ?_
 refine oM ?_
 refine oN rfl ?_
 refine oF rfl ?_
 refine hops_cons rfl (hop_load rfl (by (repeat' first | assumption | exact hS | exact Hp.one_get _ _ | refine hT (by first | assumption | exact Ne.symm ‹_›) ?_)) (by first | rfl | assumption | exact mid_get0 rfl | exact mid_get rfl | (simp; done)) ?_)
 try simp only [nfa, Nat.reduceAdd]
 refine hops_cons rfl (hop_call ?_)
 simp only [nfa, Nat.reduceAdd]
 refine HT.mono (qh_Take (dep := dep) (j := j) (l := rest) (by (repeat' first | exact hq | refine QueueH.updT ?_ (by (repeat' first | assumption | exact hS | exact Hp.one_get _ _ | refine hT (by first | assumption | exact Ne.symm ‹_›) ?_)) (by decide) (by decide) (by decide) | refine QueueH.new ?_ (by assumption)))) ?_
 rintro _ H1 ⟨jdv, rfl, hjok, hq1, f1⟩
 have hj1 : jdv.oneCell' = true := hjok
 have H1_b1 := f1.keep (b := b1) (by (repeat' first | assumption | exact hS | exact Hp.one_get _ _ | refine hT (by first | assumption | exact Ne.symm ‹_›) ?_)) (by decide) (by decide)
 have H1_bs := f1.keep (b := bs) (by (repeat' first | assumption | exact hS | exact Hp.one_get _ _ | refine hT (by first | assumption | exact Ne.symm ‹_›) ?_)) (by decide) (by decide)
 have H1_t := f1.keep (b := t) (by (repeat' first | assumption | exact hS | exact Hp.one_get _ _ | refine hT (by first | assumption | exact Ne.symm ‹_›) ?_)) (by decide) (by decide)
 have ho1 : OutH H1 ov out := OutH.q (by (repeat' first | exact ho | refine OutH.updT ?_ (by (repeat' first | assumption | exact hS | exact Hp.one_get _ _ | refine hT (by first | assumption | exact Ne.symm ‹_›) ?_)) (by decide) (by decide) | refine OutH.new ?_ (by assumption))) f1
 obtain ⟨xs, hox, hxo, hxd⟩ := ho1
 have hxl : xs.length = out.length := by rw [← hxo]; simp
 have hdv1 : dOkU H1 (.slice da data.length dc) data := dOkU.q (by (repeat' first | exact hdv | refine rdS.upd ?_ (by (repeat' first | assumption | exact hS | exact Hp.one_get _ _ | refine hT (by first | assumption | exact Ne.symm ‹_›) ?_)) (by decide) | refine rdS.new ?_ (by assumption))) f1
 simp only [jc, rqc, jbv]
 try simp only [nf, nf2]
 refine oM ?_
 refine hops_cons rfl (hop_extract rfl rfl ?_)
 refine hops_cons rfl (hop_extract rfl rfl ?_)
 try simp only [nfa, Nat.reduceAdd]
 refine hops_cons rfl (hop_alloc (zl := [.int .i64 0, .int .i64 0, .int .i64 0, .int .i64 0, .int .i64 0, .slice none 0 0]) rfl ?_)
 intro b2 hb2
 have hb2' := hb2
 try simp only [Hp.set_none, Hp.del_none] at hb2'
 have hb2_n : H1 b2 = none := by first | exact hb2' | exact hb2'.2 | exact hb2'.2.2 | exact hb2'.2.2.2 | exact hb2'.2.2.2.2 | exact hb2'.2.2.2.2.2 | exact hb2'.2.2.2.2.2.2
 have hb2_b1 : b2 ≠ b1 := (Hp.ne_of H1_b1 hb2_n).symm
 have hb2_bs : b2 ≠ bs := (Hp.ne_of H1_bs hb2_n).symm
 have hb2_t : b2 ≠ t := (Hp.ne_of H1_t hb2_n).symm
 clear hb2'
 try simp only [nfa, Nat.reduceAdd]
 refine hops_cons rfl (hop_storeA rfl rfl (by rfl) (by first | assumption | (repeat' first | (intro _ h; cases h; done) | refine List.forall_mem_cons.2 ⟨by first | rfl | assumption, ?_⟩) | (simp [Value.oneCell']; done) | (simp [Value.oneCell', *]; done)) (by (repeat' first | assumption | exact hS | exact Hp.one_get _ _ | refine hT (by first | assumption | exact Ne.symm ‹_›) ?_)) (by first | assumption | omega | (simp; done) | (simp; omega) | (simp [frc] <;> omega)) (by decide) ?_)
 try simp only [nfa, Nat.reduceAdd]
 refine oA ?_
 try simp only [nfa, Nat.reduceAdd]
 refine hops_nil ?_
 try simp only [nfa, Nat.reduceAdd]
 refine sR ?_
 refine oF rfl ?_
 refine hops_cons rfl (hop_loadA rfl (by (repeat' first | assumption | exact hS | exact Hp.one_get _ _ | refine hT (by first | assumption | exact Ne.symm ‹_›) ?_)) (by first | assumption | omega | (simp; done) | (simp; omega) | (simp [frc] <;> omega)) ?_)
 try simp only [nfa, Nat.reduceAdd]
 refine hops_cons rfl (hop_alloc (zl := [.int .i64 0, .int .i64 0, .bool false, .int .i64 0, .slice none 0 0, .int .u64 0, .int .u64 0, .int .u64 0, .int .u64 0, .int .u64 0, .int .u64 0]) rfl ?_)
 intro b3 hb3
 have hb3' := hb3
 try simp only [Hp.set_none, Hp.del_none] at hb3'
 have hb3_n : H1 b3 = none := by first | exact hb3' | exact hb3'.2 | exact hb3'.2.2 | exact hb3'.2.2.2 | exact hb3'.2.2.2.2 | exact hb3'.2.2.2.2.2 | exact hb3'.2.2.2.2.2.2
 have hb3_b2 : b3 ≠ b2 := by first | exact hb3'.1 | exact hb3'.2.1 | exact hb3'.2.2.1 | exact hb3'.2.2.2.1 | exact hb3'.2.2.2.2.1 | exact hb3'.2.2.2.2.2.1
 have hb3_b1 : b3 ≠ b1 := (Hp.ne_of H1_b1 hb3_n).symm
 have hb3_bs : b3 ≠ bs := (Hp.ne_of H1_bs hb3_n).symm
 have hb3_t : b3 ≠ t := (Hp.ne_of H1_t hb3_n).symm
 clear hb3'
 try simp only [nfa, Nat.reduceAdd]
 refine hops_cons rfl (hop_storeA rfl rfl (by rfl) (by first | assumption | (repeat' first | (intro _ h; cases h; done) | refine List.forall_mem_cons.2 ⟨by first | rfl | assumption, ?_⟩) | (simp [Value.oneCell']; done) | (simp [Value.oneCell', *]; done)) (by (repeat' first | assumption | exact hS | exact Hp.one_get _ _ | refine hT (by first | assumption | exact Ne.symm ‹_›) ?_)) (by first | assumption | omega | (simp; done) | (simp; omega) | (simp [frc] <;> omega)) (by decide) ?_)
 try simp only [nfa, Nat.reduceAdd]
 refine hops_nil ?_
 try simp only [nfa, Nat.reduceAdd]
 refine sR ?_
 refine oF rfl ?_
 refine hops_cons rfl (hop_load rfl (by (repeat' first | assumption | exact hS | exact Hp.one_get _ _ | refine hT (by first | assumption | exact Ne.symm ‹_›) ?_)) (by first | rfl | assumption | exact mid_get0 rfl | exact mid_get rfl | (simp; done)) ?_)
 try simp only [nfa, Nat.reduceAdd]
 refine oM ?_
 refine oF rfl ?_
 refine hops_cons rfl (hop_store rfl rfl (by first | rfl | assumption) (by (repeat' first | assumption | exact hS | exact Hp.one_get _ _ | refine hT (by first | assumption | exact Ne.symm ‹_›) ?_)) (by first | assumption | omega | (simp; done) | (simp; omega) | (simp [frc] <;> omega)) ?_)
 try simp only [nfa, Nat.reduceAdd]
 refine oF rfl ?_
 refine hops_cons rfl (hop_store rfl rfl (by first | rfl | assumption) (by (repeat' first | assumption | exact hS | exact Hp.one_get _ _ | refine hT (by first | assumption | exact Ne.symm ‹_›) ?_)) (by first | assumption | omega | (simp; done) | (simp; omega) | (simp [frc] <;> omega)) ?_)
 try simp only [nfa, Nat.reduceAdd]
 refine hops_nil ?_
 try simp only [nfa, Nat.reduceAdd]
 refine hc_seq ?_
 refine sR ?_
 refine oF rfl ?_
 refine oF rfl ?_
 refine hops_cons rfl (hop_load rfl (by (repeat' first | assumption | exact hS | exact Hp.one_get _ _ | refine hT (by first | assumption | exact Ne.symm ‹_›) ?_)) (by first | rfl | assumption | exact mid_get0 rfl | exact mid_get rfl | (simp; done)) ?_)
 try simp only [nfa, Nat.reduceAdd]
 refine hops_cons rfl (hop_bin rfl rfl rfl ?_)
 try simp only [nfa, Nat.reduceAdd]
 refine hops_nil ?_
 try simp only [nfa, Nat.reduceAdd]
 refine hc_F rfl (by first | rfl | assumption | (simp; done) | (simp; omega) | (simp [*]; done)) ?_
 refine hc_skip ?_
 try simp only [nfa, Nat.reduceAdd]
 refine hc_draw (Hp.one t (row [.pointer (some ⟨m, 0, none⟩), .pointer (some ⟨p, 0, none⟩), .pointer (some ⟨q, 0, none⟩), .int .i64 pages, .int .i64 ids, .int .u64 (d0 : Int), .int .u64 (d1 : Int), .int .u64 (d2 : Int), .int .u64 (d3 : Int), .int .u64 (d4 : Int), .int .u64 (d5 : Int), ov] 61)) follows (by intros; simp [hng, hthen, hblock, hend]) ?_
 refine dT 0 rfl (by decide +kernel) rfl (Sub.one (by (repeat' first | assumption | exact hS | exact Hp.one_get _ _ | refine hT (by first | assumption | exact Ne.symm ‹_›) ?_))) (hop_move ?_)
 try simp only [nfa, Nat.reduceAdd]
 refine dT 1 rfl (by decide +kernel) rfl (Sub.one (by (repeat' first | assumption | exact hS | exact Hp.one_get _ _ | refine hT (by first | assumption | exact Ne.symm ‹_›) ?_))) (hop_move ?_)
 try simp only [nfa, Nat.reduceAdd]
 refine dT 2 rfl (by decide +kernel) rfl (Sub.one (by (repeat' first | assumption | exact hS | exact Hp.one_get _ _ | refine hT (by first | assumption | exact Ne.symm ‹_›) ?_))) (hop_nilCheck rfl ?_)
 try simp only [nfa, Nat.reduceAdd]
 refine dT 3 rfl (by decide +kernel) rfl (Sub.one (by (repeat' first | assumption | exact hS | exact Hp.one_get _ _ | refine hT (by first | assumption | exact Ne.symm ‹_›) ?_))) (hop_fieldAddr rfl ?_)
 try simp only [nfa, Nat.reduceAdd]
 refine dT 4 rfl (by decide +kernel) rfl (Sub.one (by (repeat' first | assumption | exact hS | exact Hp.one_get _ _ | refine hT (by first | assumption | exact Ne.symm ‹_›) ?_))) (hop_load rfl (by (repeat' first | assumption | exact hS | exact Hp.one_get _ _ | refine hT (by first | assumption | exact Ne.symm ‹_›) ?_)) (by first | rfl | assumption | exact mid_get0 rfl | exact mid_get rfl | (simp; done)) ?_)
 try simp only [nfa, Nat.reduceAdd]
 refine hD_do 5 rfl (by decide +kernel) rfl (hop_loadA rfl (by (repeat' first | assumption | exact hS | exact Hp.one_get _ _ | refine hT (by first | assumption | exact Ne.symm ‹_›) ?_)) (by first | assumption | omega | (simp; done) | (simp; omega) | (simp [frc] <;> omega)) ?_)
 try simp only [nfa, Nat.reduceAdd]
 refine ⟨.inr (Sub.one (by (repeat' first | assumption | exact hS | exact Hp.one_get _ _ | refine hT (by first | assumption | exact Ne.symm ‹_›) ?_))), ?_⟩
 try simp only [nfa, Nat.reduceAdd]
 refine hD_do 6 rfl (by decide +kernel) rfl (hop_buildSlice (L := [.int .i64 j.id, .int .i64 e, .bool hit, .int .i64 tick, .slice da data.length dc, .int .u64 0, .int .u64 0, .int .u64 0, .int .u64 0, .int .u64 0, .int .u64 0]) rfl (by decide) (by decide) rfl ?_)
 intro bs2 hbs2
 have hbs2' := hbs2
 try simp only [Hp.set_none, Hp.del_none] at hbs2'
 have hbs2_n : H1 bs2 = none := by first | exact hbs2' | exact hbs2'.2 | exact hbs2'.2.2 | exact hbs2'.2.2.2 | exact hbs2'.2.2.2.2 | exact hbs2'.2.2.2.2.2 | exact hbs2'.2.2.2.2.2.2
 have hbs2_b2 : bs2 ≠ b2 := by first | exact hbs2'.1 | exact hbs2'.2.1 | exact hbs2'.2.2.1 | exact hbs2'.2.2.2.1 | exact hbs2'.2.2.2.2.1 | exact hbs2'.2.2.2.2.2.1
 have hbs2_b3 : bs2 ≠ b3 := by first | exact hbs2'.1 | exact hbs2'.2.1 | exact hbs2'.2.2.1 | exact hbs2'.2.2.2.1 | exact hbs2'.2.2.2.2.1 | exact hbs2'.2.2.2.2.2.1
 have hbs2_b1 : bs2 ≠ b1 := (Hp.ne_of H1_b1 hbs2_n).symm
 have hbs2_bs : bs2 ≠ bs := (Hp.ne_of H1_bs hbs2_n).symm
 have hbs2_t : bs2 ≠ t := (Hp.ne_of H1_t hbs2_n).symm
 clear hbs2'
 try simp only [nf, nf2]
 refine ⟨.inr (Sub.one (by (repeat' first | assumption | exact hS | exact Hp.one_get _ _ | refine hT (by first | assumption | exact Ne.symm ‹_›) ?_))), ?_⟩
 try simp only [nfa, Nat.reduceAdd]
 refine hD_do 7 rfl (by decide +kernel) rfl (hop_appendW (H0 := _) (v := ov) (n := xs.length) (m := 1) (A := flat rspc xs) (ys := [.int .i64 j.id, .int .i64 e, .bool hit, .int .i64 tick, .slice da data.length dc, .int .u64 0, .int .u64 0, .int .u64 0, .int .u64 0, .int .u64 0, .int .u64 0]) rfl (by (repeat' first | exact hox | refine OwnS.upd ?_ (by (repeat' first | assumption | exact hS | exact Hp.one_get _ _ | refine hT (by first | assumption | exact Ne.symm ‹_›) ?_)) (by decide) | refine OwnS.new ?_ (by assumption))) (Sub.refl _) (srcOk_own' (t := 65) (by (repeat' first | assumption | exact hS | exact Hp.one_get _ _ | refine hT (by first | assumption | exact Ne.symm ‹_›) ?_)) rfl) (by first | assumption | (repeat' first | (intro _ h; cases h; done) | refine List.forall_mem_cons.2 ⟨by first | rfl | assumption, ?_⟩) | (simp [Value.oneCell']; done) | (simp [Value.oneCell', *]; done)) (by rfl) (by decide) (by omega) (by decide) ?_)
 intro ov2 H2 hg2 hd2
 try simp only [nf, nf2]
 have ho2 := hg2.one
 have hs2 := hd2.trans (Sub.drop H2 ov2)
 have H2_t := hs2 _ _ (OwnS.drop_get (n := xs.length) (sz := 11) (A := flat rspc xs) (t := 65) (c := t) (by (repeat' first | exact hox | refine OwnS.upd ?_ (by (repeat' first | assumption | exact hS | exact Hp.one_get _ _ | refine hT (by first | assumption | exact Ne.symm ‹_›) ?_)) (by decide) | refine OwnS.new ?_ (by assumption))) (by (repeat' first | assumption | exact hS | exact Hp.one_get _ _ | refine hT (by first | assumption | exact Ne.symm ‹_›) ?_)) (by decide))
 have hq2 : QueueH H2 q dep rest := QueueH.sub (QueueH.drop (n := xs.length) (A := flat rspc xs) (by (repeat' first | exact hq1 | refine QueueH.updT ?_ (by (repeat' first | assumption | exact hS | exact Hp.one_get _ _ | refine hT (by first | assumption | exact Ne.symm ‹_›) ?_)) (by decide) (by decide) (by decide) | refine QueueH.new ?_ (by assumption))) (by (repeat' first | exact hox | refine OwnS.upd ?_ (by (repeat' first | assumption | exact hS | exact Hp.one_get _ _ | refine hT (by first | assumption | exact Ne.symm ‹_›) ?_)) (by decide) | refine OwnS.new ?_ (by assumption)))) hs2
 have hdv2 : dOkU H2 (.slice da data.length dc) data := rdS.sub (rdS.drop (n := xs.length) (sz := 11) (A := flat rspc xs) (t := 65) (by (repeat' first | exact hdv1 | refine rdS.upd ?_ (by (repeat' first | assumption | exact hS | exact Hp.one_get _ _ | refine hT (by first | assumption | exact Ne.symm ‹_›) ?_)) (by decide) | refine rdS.new ?_ (by assumption))) (by (repeat' first | exact hox | refine OwnS.upd ?_ (by (repeat' first | assumption | exact hS | exact Hp.one_get _ _ | refine hT (by first | assumption | exact Ne.symm ‹_›) ?_)) (by decide) | refine OwnS.new ?_ (by assumption))) (by decide)) hs2
 have hxd2 : ∀ y ∈ xs, dOkU H2 y.2 y.1.data ∧ y.1.cn.length = 6 := fun y hy => ⟨rdS.sub (rdS.drop (n := xs.length) (sz := 11) (A := flat rspc xs) (t := 65) (by (repeat' first | exact (hxd y hy).1 | refine rdS.upd ?_ (by (repeat' first | assumption | exact hS | exact Hp.one_get _ _ | refine hT (by first | assumption | exact Ne.symm ‹_›) ?_)) (by decide) | refine rdS.new ?_ (by assumption))) (by (repeat' first | exact hox | refine OwnS.upd ?_ (by (repeat' first | assumption | exact hS | exact Hp.one_get _ _ | refine hT (by first | assumption | exact Ne.symm ‹_›) ?_)) (by decide) | refine OwnS.new ?_ (by assumption))) (by decide)) hs2, (hxd y hy).2⟩
 have hout2 : OutH H2 ov2 (out ++ [⟨j.id, e, hit, tick, data, z6⟩]) := OutH.push (dv := .slice da data.length dc) hg2 hxo hxd2 hdv2 rfl
 refine ⟨.inr (Sub.one (by (repeat' first | assumption | exact hS | exact Hp.one_get _ _ | refine hT (by first | assumption | exact Ne.symm ‹_›) ?_))), ?_⟩
 try simp only [nfa, Nat.reduceAdd]
 refine dT 8 rfl (by decide +kernel) rfl (Sub.one (by (repeat' first | assumption | exact hS | exact Hp.one_get _ _ | refine hT (by first | assumption | exact Ne.symm ‹_›) ?_))) (hop_nilCheck rfl ?_)
 try simp only [nfa, Nat.reduceAdd]
 refine dT 9 rfl (by decide +kernel) rfl (Sub.one (by (repeat' first | assumption | exact hS | exact Hp.one_get _ _ | refine hT (by first | assumption | exact Ne.symm ‹_›) ?_))) (hop_fieldAddr rfl ?_)
 try simp only [nfa, Nat.reduceAdd]
 refine hD_do 10 rfl (by decide +kernel) rfl (hop_store rfl rfl (by first | rfl | assumption) (by (repeat' first | assumption | exact hS | exact Hp.one_get _ _ | refine hT (by first | assumption | exact Ne.symm ‹_›) ?_)) (by first | assumption | omega | (simp; done) | (simp; omega) | (simp [frc] <;> omega)) ?_)
 try simp only [nfa, Nat.reduceAdd]
 refine ⟨.inl (by decide +kernel), ?_⟩
 try simp only [nfa, Nat.reduceAdd]
 refine hD_done (by decide +kernel) ?_
 try simp only [nfa, Nat.reduceAdd]
 apply hend_none_sub rfl ?es ?eR
 case es => exact Sub.refl _
 case eR =>
  exact ⟨ov2, rfl, by (repeat' first | assumption | exact hS | exact Hp.one_get _ _ | refine hT (by first | assumption | exact Ne.symm ‹_›) ?_), by (repeat' first | exact hq2 | refine QueueH.updT ?_ (by (repeat' first | assumption | exact hS | exact Hp.one_get _ _ | refine hT (by first | assumption | exact Ne.symm ‹_›) ?_)) (by decide) (by decide) (by decide) | refine QueueH.new ?_ (by assumption)), by (repeat' first | exact hout2 | refine OutH.updT ?_ (by (repeat' first | assumption | exact hS | exact Hp.one_get _ _ | refine hT (by first | assumption | exact Ne.symm ‹_›) ?_)) (by decide) (by decide) | refine OutH.new ?_ (by assumption))⟩
end Go.Proofs.Try
