/- A part of the proofs over the tenants of a page cache: lemmas on what is known of the memory, and contracts of the Go functions. -/
import Derived.Test.YtckokpmljhhhcaaN1
set_option linter.unusedVariables false
set_option linter.unusedSimpArgs false
namespace Go.Proofs.Try
open Go Go.H
set_option linter.unusedSimpArgs false
set_option linter.unusedVariables false
set_option maxRecDepth 100000
set_option maxHeartbeats 2000000
theorem ph_Dirty {H : Hp} {p : Nat} {s : Pt} (h : PartH H p s) : HT prog 96 #[.pointer (some ⟨p, 0, none⟩)] H (RetS H (ints (dirtyTo s.fr s.fr.length)) (dirtyTo s.fr s.fr.length).length 3 1) := by
  obtain ⟨ok, fb, tb, ot, h1, h2, h3, h4⟩ := h
  exact part_Dirty h1 h2 h3 h4 rfl ok.len (by have := ok.most; omega)
theorem dirtyTo_spec (fr : List Fr) (i : Nat) (x : Int) (h : (dirtyTo fr fr.length)[i]? = some x) : ∃ (j : Nat) (f : Fr), x = (j : Int) ∧ fr[j]? = some f ∧ f.dirty = true := by
  have hm := List.mem_of_getElem? h
  simp only [dirtyTo, List.mem_map, List.mem_filter, List.mem_range] at hm
  obtain ⟨j, ⟨hj, hd⟩, rfl⟩ := hm
  refine ⟨j, fr[j], rfl, List.getElem?_eq_getElem hj, ?_⟩
  simpa [List.getElem?_eq_getElem hj] using hd
/-- pages of frames by their numbers -/
def pgAt (fr : List Fr) (pg : Int) (l : List Int) : List Int := l.filterMap fun x => match fr[x.toNat]? with
  | some f => if pg < 0 ∨ f.page = pg then some f.page else none
  | none => none
theorem pgAt_app (fr : List Fr) (pg : Int) (a b : List Int) : pgAt fr pg (a ++ b) = pgAt fr pg a ++ pgAt fr pg b := by simp [pgAt]
theorem pgAt_one {fr : List Fr} {pg : Int} {j : Nat} {f : Fr} (h : fr[j]? = some f) : pgAt fr pg [(j : Int)] = if pg < 0 ∨ f.page = pg then [f.page] else [] := by
  simp only [pgAt, List.filterMap_cons, List.filterMap_nil, Int.toNat_natCast, h]; split <;> split <;> simp_all
theorem pgAt_le (fr : List Fr) (pg : Int) (l : List Int) : (pgAt fr pg l).length ≤ l.length := List.length_filterMap_le _ _
theorem dirtyPg_eq (fr : List Fr) (pg : Int) : pgAt fr pg (dirtyTo fr fr.length) = dirtyPg fr pg := by
  have key : ∀ (l pre : List Fr), pgAt (pre ++ l) pg (((List.range l.length).filter fun (i : Nat) => ((l[i]?).map Fr.dirty).getD false).map fun (i : Nat) => ((pre.length + i : Nat) : Int)) = dirtyPg l pg := by
    intro l
    induction l with
    | nil => intro pre; rfl
    | cons f l ih =>
      intro pre
      have ih' := ih (pre ++ [f])
      simp only [List.append_assoc, List.cons_append, List.nil_append, List.length_append, List.length_cons, List.length_nil] at ih'
      have hget : (pre ++ f :: l)[pre.length]? = some f := by simp
      have e : ((List.range (l.length + 1)).filter fun (i : Nat) => (((f :: l)[i]?).map Fr.dirty).getD false).map (fun (i : Nat) => ((pre.length + i : Nat) : Int)) =
          (if f.dirty then [((pre.length : Nat) : Int)] else []) ++ ((List.range l.length).filter fun (i : Nat) => ((l[i]?).map Fr.dirty).getD false).map (fun (i : Nat) => ((pre.length + (0 + 1) + i : Nat) : Int)) := by
        rw [List.range_succ_eq_map, List.filter_cons, List.filter_map]
        have e1 : ((fun (i : Nat) => (((f :: l)[i]?).map Fr.dirty).getD false) ∘ Nat.succ) = fun (i : Nat) => ((l[i]?).map Fr.dirty).getD false := by funext i; simp
        rw [e1]
        have e2 : ∀ L : List Nat, (L.map ((fun (i : Nat) => ((pre.length + i : Nat) : Int)) ∘ Nat.succ)) = L.map (fun (i : Nat) => ((pre.length + (0 + 1) + i : Nat) : Int)) := fun L => by
          apply List.map_congr_left; intro a _; simp; omega
        cases hd : f.dirty
        · simp only [List.getElem?_cons_zero, Option.map_some, Option.getD_some, hd, Bool.false_eq_true, if_false, List.map_map, e2, List.nil_append]
        · simp only [List.getElem?_cons_zero, Option.map_some, Option.getD_some, hd, if_true, List.map_cons, List.map_map, e2, List.cons_append, List.nil_append, Nat.add_zero]
      simp only [List.length_cons]
      rw [e, pgAt_app, ih']
      simp only [dirtyPg, List.filter_cons]
      cases hd : f.dirty with
      | false => simp [pgAt]
      | true =>
        simp only [if_true, Bool.true_and]
        rw [pgAt_one hget]
        by_cases h1 : pg < 0 ∨ f.page = pg
        · rw [if_pos h1, if_pos (by simpa using h1)]; simp
        · rw [if_neg h1, if_neg (by simpa using h1)]; simp
  have := key fr []
  simpa [dirtyTo] using this
theorem machine_dirty {H0 : Hp} {m p : Nat} {op pg to : Int} {tv : Value} {s : Pt} (hm : H0 m = some (row [.pointer (some ⟨p, 0, none⟩), .int .i64 op, .int .i64 pg, tv, .int .i64 to, .slice none 0 0] 86)) (hP : PartH H0 p s) {page : Int} :
    HT prog 89 #[.pointer (some ⟨m, 0, none⟩), .int .i64 page] H0 (fun v H' => OwnS H' v (dirtyPg s.fr page).length (ints (dirtyPg s.fr page)) 3 1 ∧ Sub H0 H') := by
 obtain ⟨D, hD⟩ : ∃ D, D = dirtyTo s.fr s.fr.length := ⟨_, rfl⟩
 have hDl : D.length ≤ 64 := by
   rw [hD]
   have h1 : (dirtyTo s.fr s.fr.length).length ≤ s.fr.length := by simp only [dirtyTo, List.length_map]; have := List.length_filter_le (fun (i : Nat) => ((s.fr[i]?).map Fr.dirty).getD false) (List.range s.fr.length); simpa using this
   have h2 := hP.1.most
   omega
 refine ht_of_body (args := [.pointer (some ⟨m, 0, none⟩), .int .i64 page]) func89 rfl ?_
 simp only [ntmps89, List.length_cons, List.length_nil, Nat.reduceAdd, Nat.reduceSub, List.replicate_succ, List.replicate_zero, List.cons_append, List.nil_append]
 refine sR ?_
 refine oA ?_
 try simp only [nfa, Nat.reduceAdd]
 refine hops_nil ?_
 try simp only [nfa, Nat.reduceAdd]
 refine sR ?_
 refine oA ?_
 try simp only [nfa, Nat.reduceAdd]
 refine hops_nil ?_
 try simp only [nfa, Nat.reduceAdd]
 refine hc_seq ?_
 refine sR ?_
 refine oM ?_
 refine oN rfl ?_
 refine oF rfl ?_
 refine hops_cons rfl (hop_load rfl (by (repeat' first | assumption | exact hS | exact Hp.one_get _ _ | refine hT (by first | assumption | exact Ne.symm ‹_›) ?_)) (by first | rfl | assumption | exact mid_get0 rfl | exact mid_get rfl | (simp; done)) ?_)
 try simp only [nfa, Nat.reduceAdd]
 refine hops_cons rfl (hop_call ?_)
 simp only [nfa, Nat.reduceAdd]
 refine HT.mono (ph_Dirty hP) ?_
 rw [← hD]
 intro v1 H1 hq1
 have sq1 := hq1.le
 obtain ⟨va, vc, rfl⟩ := hq1.1.slice
 try simp only [nf, nf2]
 have H1_m := sq1 m _ (by (repeat' first | assumption | exact hS | exact Hp.one_get _ _ | refine hT (by first | assumption | exact Ne.symm ‹_›) ?_))
 have hP1 := hP.sub sq1
 refine hops_cons rfl (hop_lenS rfl ?_)
 try simp only [nfa, Nat.reduceAdd]
 refine oM ?_
 try simp only [nfa, Nat.reduceAdd]
 refine hops_nil ?_
 try simp only [nfa, Nat.reduceAdd]
 refine hc_block ?_
 refine hc_loop (fun nn l H => ∃ (x7 : Value) (x8 : Value) (x16 : Value) (x17 : Value) (x18 : Value) (x19 : Value) (x20 : Value) (x21 : Value) (x22 : Value) (x23 : Value) (x24 : Value) (x25 : Value) (x26 : Value) (x27 : Value) (x28 : Value) (x29 : Value) (x30 : Value) (x31 : Value) (x32 : Value) (x33 : Value) (x34 : Value) (x35 : Value) (x36 : Value) (x37 : Value) (x38 : Value) (k : Nat) (sv : Value), l = [_, _, _, _, _, sv, _, x7, x8, _, _, _, _, _, _, .int .i64 (k : Int), x16, x17, x18, x19, x20, x21, x22, x23, x24, x25, x26, x27, x28, x29, x30, x31, x32, x33, x34, x35, x36, x37, x38, _] ∧ OwnS H sv (pgAt s.fr page (D.take k)).length (ints (pgAt s.fr page (D.take k))) 3 1 ∧ Sub H1 (H.drop sv) ∧ k ≤ D.length ∧ nn = D.length - k) (D.length) ⟨_, _, _, _, _, _, _, _, _, _, _, _, _, _, _, _, _, _, _, _, _, _, _, _, _, 0, _, rfl, OwnS.nil _ _ _, Sub.refl _, by omega, rfl⟩ ?_
 rintro nn l H ⟨x7, x8, x16, x17, x18, x19, x20, x21, x22, x23, x24, x25, x26, x27, x28, x29, x30, x31, x32, x33, x34, x35, x36, x37, x38, k, sv, rfl, hown, hsd, hk, hnn⟩
 have hs1 := hsd.trans (Sub.drop H sv)
 have H_m := hs1 m _ H1_m
 have hPk := hP1.sub hs1
 have hDk := hq1.1.sub hs1
 refine sR ?_
 refine hops_cons rfl (hop_bin rfl rfl rfl ?_)
 try simp only [nfa, Nat.reduceAdd]
 refine hops_nil ?_
 try simp only [nfa, Nat.reduceAdd]
 refine hc_seq ?_
 refine hc_cond rfl (fun hc0 => ?_) (fun hc0 => ?_)
 ·
  try simp at hc0
  refine hc_skip ?_
  try simp only [nfa, Nat.reduceAdd]
  refine hc_seq ?_
  refine hc_block ?_
  refine sR ?_
  obtain ⟨pb, pcap, PB, hpe, hpb, hpA, hpB, hpc⟩ := hDk.resolve_left (by rintro ⟨_, hz, _⟩; omega)
  obtain ⟨x, hx⟩ : ∃ x, D[k]? = some x := ⟨_, List.getElem?_eq_getElem (by omega)⟩
  obtain ⟨j, f, rfl, hj, hdj⟩ := dirtyTo_spec s.fr k x (hD ▸ hx)
  have htk : D.take (k + 1) = D.take k ++ [(j : Int)] := by rw [List.take_add_one, hx]; rfl
  have hfl := hP.1.len f (List.mem_of_getElem? hj)
  have hwf : wr (frc Fr.zero) 0 (frc f) = frc f := wr_all (by rw [frz_len, frc_length hfl])
  have hlim := List.length_take_le k D
  have hpgl := pgAt_le s.fr page (D.take k)
  refine hops_cons rfl (hop_indexAddr (i := (k : Int)) hpe rfl (by omega) (by omega) ?_)
  simp only [Int.toNat_natCast, Nat.zero_add, Nat.mul_one]
  try simp only [nf, nf2]
  refine hops_cons rfl (hop_load (v := .int .i64 (j : Int)) rfl (by (repeat' first | assumption | exact hS | exact Hp.one_get _ _ | refine hT (by first | assumption | exact Ne.symm ‹_›) ?_)) (by rw [List.getElem?_append_left (by simp [ints]; omega)]; simp [ints, hx]) ?_)
  try simp only [nfa, Nat.reduceAdd, hwf]
  refine oA ?_
  try simp only [nfa, Nat.reduceAdd, hwf]
  refine hops_nil ?_
  try simp only [nfa, Nat.reduceAdd, hwf]
  refine sR ?_
  refine oM ?_
  refine oN rfl ?_
  refine oF rfl ?_
  refine hops_cons rfl (hop_load rfl (by (repeat' first | assumption | exact hS | exact Hp.one_get _ _ | refine hT (by first | assumption | exact Ne.symm ‹_›) ?_)) (by first | rfl | assumption | exact mid_get0 rfl | exact mid_get rfl | (simp; done)) ?_)
  try simp only [nfa, Nat.reduceAdd, hwf]
  refine oM ?_
  refine hops_cons rfl (hop_call ?_)
  simp only [nfa, Nat.reduceAdd, hwf]
  refine HT.mono (ph_At (by (repeat' first | assumption | refine PartH.upd ?_ (by (repeat' first | assumption | exact hS | exact Hp.one_get _ _ | refine hT (by first | assumption | exact Ne.symm ‹_›) ?_)) (by exact npOf) | refine PartH.new ?_ (by assumption))) hj) ?_
  rintro _ _ ⟨rfl, rfl⟩
  try simp only [nfa, Nat.reduceAdd, hwf]
  refine hops_cons rfl (hop_allocFr ?_)
  intro b1 hb1
  have hb1' := hb1
  try simp only [Hp.set_none, Hp.del_none] at hb1'
  have hb1_n : H b1 = none := by first | exact hb1' | exact hb1'.2 | exact hb1'.2.2 | exact hb1'.2.2.2 | exact hb1'.2.2.2.2 | exact hb1'.2.2.2.2.2 | exact hb1'.2.2.2.2.2.2
  have hb1_m : b1 ≠ m := (Hp.ne_of H_m hb1_n).symm
  have hb1_H1 : H1 b1 = none := Sub.unk (hs1) hb1_n
  clear hb1'
  try simp only [nfa, Nat.reduceAdd, hwf]
  refine hops_cons rfl (hop_storeA (vs := frc f) rfl rfl (frc_length hfl) (one_frc f) (by (repeat' first | assumption | exact hS | exact Hp.one_get _ _ | refine hT (by first | assumption | exact Ne.symm ‹_›) ?_)) (by rw [frz_len]; omega) (by decide) ?_)
  try simp only [nfa, Nat.reduceAdd, hwf]
  refine hops_nil ?_
  try simp only [nfa, Nat.reduceAdd, hwf]
  refine sR ?_
  refine oM ?_
  try simp only [nfa, Nat.reduceAdd, hwf]
  refine hops_cons rfl (hop_bin rfl rfl rfl ?_)
  try simp only [nfa, Nat.reduceAdd, hwf]
  refine oM ?_
  try simp only [nfa, Nat.reduceAdd, hwf]
  first
   | refine hops_off' rfl rfl (by rfl) ?_
   | refine hops_un rfl rfl ?_
   | (refine hops_on' rfl rfl (by rfl) (hop_fieldAddr rfl ?_))
   | (refine hops_gp (v := ?vg2) rfl rfl (fun hgp => ?hv2) ?hh2; case hv2 => ((try simp only [hgp, if_true, ev, List.getD_cons_zero, List.getD_cons_succ]); refine hop_fieldAddr rfl ?_; rfl))
  try simp only [nfa, Nat.reduceAdd, hwf]
  first
   | refine hops_off' rfl rfl (by rfl) ?_
   | refine hops_un rfl rfl ?_
   | (refine hops_on' rfl rfl (by rfl) (hop_load rfl (by (repeat' first | assumption | exact hS | exact Hp.one_get _ _ | refine hT (by first | assumption | exact Ne.symm ‹_›) ?_)) (by first | rfl | assumption | exact mid_get0 rfl | exact mid_get rfl | (simp; done)) ?_))
   | (refine hops_gp (v := ?vg3) rfl rfl (fun hgp => ?hv3) ?hh3; case hv3 => ((try simp only [hgp, if_true, ev, List.getD_cons_zero, List.getD_cons_succ]); refine hop_load rfl (by (repeat' first | assumption | exact hS | exact Hp.one_get _ _ | refine hT (by first | assumption | exact Ne.symm ‹_›) ?_)) (by first | rfl | assumption | exact mid_get0 rfl | exact mid_get rfl | (simp; done)) ?_; rfl))
  try simp only [nfa, Nat.reduceAdd, hwf]
  first
   | refine hops_off' rfl rfl (by rfl) ?_
   | refine hops_un rfl rfl ?_
   | (refine hops_on' rfl rfl (by rfl) (hop_move ?_))
   | (refine hops_gp (v := ?vg4) rfl rfl (fun hgp => ?hv4) ?hh4; case hv4 => ((try simp only [hgp, if_true, ev, List.getD_cons_zero, List.getD_cons_succ]); refine hop_move ?_; rfl))
  try simp only [nfa, Nat.reduceAdd, hwf]
  first
   | refine hops_off' rfl rfl (by rfl) ?_
   | refine hops_un rfl rfl ?_
   | (refine hops_on' rfl rfl (by rfl) (hop_bin rfl rfl rfl ?_))
   | (refine hops_gp (v := ?vg5) rfl rfl (fun hgp => ?hv5) ?hh5; case hv5 => ((try simp only [hgp, if_true, ev, List.getD_cons_zero, List.getD_cons_succ]); refine hop_bin rfl rfl rfl ?_; rfl))
  try simp only [nfa, Nat.reduceAdd, hwf]
  refine hops_cons rfl (hop_pick rfl ?_)
  try simp only [nfa, Nat.reduceAdd, hwf]
  refine hops_nil ?_
  try simp only [nfa, Nat.reduceAdd, hwf]
  refine hc_cond rfl (fun hc1 => ?_) (fun hc1 => ?_)
  ·
   try simp at hc1
   have hnext : pgAt s.fr page (D.take (k + 1)) = pgAt s.fr page (D.take k) ++ [f.page] := by rw [htk, pgAt_app, pgAt_one hj, if_pos (by simpa using hc1)]
   refine hc_region ?_
   refine oM ?_
   refine oF rfl ?_
   refine hops_cons rfl (hop_load rfl (by (repeat' first | assumption | exact hS | exact Hp.one_get _ _ | refine hT (by first | assumption | exact Ne.symm ‹_›) ?_)) (by first | rfl | assumption | exact mid_get0 rfl | exact mid_get rfl | (simp; done)) ?_)
   try simp only [nfa, Nat.reduceAdd, hwf]
   refine hops_cons rfl (hop_buildSlice (L := [.int .i64 f.page]) rfl (by decide) (by decide) rfl ?_)
   intro bs hbs
   have hbs' := hbs
   try simp only [Hp.set_none, Hp.del_none] at hbs'
   have hbs_n : H bs = none := by first | exact hbs' | exact hbs'.2 | exact hbs'.2.2 | exact hbs'.2.2.2 | exact hbs'.2.2.2.2 | exact hbs'.2.2.2.2.2 | exact hbs'.2.2.2.2.2.2
   have hbs_b1 : bs ≠ b1 := by first | exact hbs'.1 | exact hbs'.2.1 | exact hbs'.2.2.1 | exact hbs'.2.2.2.1 | exact hbs'.2.2.2.2.1 | exact hbs'.2.2.2.2.2.1
   have hbs_m : bs ≠ m := (Hp.ne_of H_m hbs_n).symm
   have hbs_H1 : H1 bs = none := Sub.unk (hs1) hbs_n
   clear hbs'
   try simp only [nf, nf2]
   refine hops_cons rfl (hop_appendW (H0 := H1) (v := sv) (n := (pgAt s.fr page (D.take k)).length) (m := 1) (A := ints (pgAt s.fr page (D.take k))) (ys := ints [f.page]) rfl (by (repeat' first | exact hown | refine OwnS.upd ?_ (by (repeat' first | assumption | exact hS | exact Hp.one_get _ _ | refine hT (by first | assumption | exact Ne.symm ‹_›) ?_)) (by decide) | refine OwnS.new ?_ (by assumption))) (by (repeat' first | exact hsd | refine Sub.over_drop ?_ (by assumption))) (srcOk_own' (Hp.set_same _ _ _) rfl) one_ints (by rfl) (by decide) (by omega) (by decide) ?_)
   intro sv2 H2 hown2 hsd2
   try simp only [nf, nf2]
   refine oA ?_
   try simp only [nfa, Nat.reduceAdd, hwf]
   refine hops_nil ?_
   try simp only [nfa, Nat.reduceAdd, hwf]
   refine hc_region ?_
   refine hops_cons rfl (hop_add rfl rfl (by omega) ?_)
   try simp only [nfa, Nat.reduceAdd, hwf]
   refine oM ?_
   try simp only [nfa, Nat.reduceAdd, hwf]
   refine hops_nil ?_
   try simp only [nfa, Nat.reduceAdd, hwf]
   refine ⟨D.length - (k + 1), _, by omega, Sub.refl _, _, _, _, _, _, _, _, _, _, _, _, _, _, _, _, _, _, _, _, _, _, _, _, _, _, k + 1, _, rfl, ?_⟩
   exact ⟨by rw [hnext]; simpa [ints, List.map_append] using hown2, hsd2, by omega, rfl⟩
  ·
   try simp at hc1
   have hnext : pgAt s.fr page (D.take (k + 1)) = pgAt s.fr page (D.take k) ++ [] := by rw [htk, pgAt_app, pgAt_one hj, if_neg (by simpa using hc1)]
   refine hc_skip ?_
   try simp only [nfa, Nat.reduceAdd, hwf]
   refine hc_region ?_
   refine hops_cons rfl (hop_add rfl rfl (by omega) ?_)
   try simp only [nfa, Nat.reduceAdd, hwf]
   refine oM ?_
   try simp only [nfa, Nat.reduceAdd, hwf]
   refine hops_nil ?_
   try simp only [nfa, Nat.reduceAdd, hwf]
   refine ⟨D.length - (k + 1), _, by omega, Sub.refl _, _, _, _, _, _, _, _, _, _, _, _, _, _, _, _, _, _, _, _, _, _, _, _, _, _, k + 1, sv, rfl, ?_⟩
   refine ⟨by rw [hnext, List.append_nil]; exact by (repeat' first | exact hown | refine OwnS.upd ?_ (by (repeat' first | assumption | exact hS | exact Hp.one_get _ _ | refine hT (by first | assumption | exact Ne.symm ‹_›) ?_)) (by decide) | refine OwnS.new ?_ (by assumption)), by (repeat' first | exact hsd | refine Sub.over_drop ?_ (by assumption)), by omega, rfl⟩
 ·
  try simp at hc0
  refine hc_exit ?_
  simp only [hng, hthen, hblock, if_true]
  try simp only [nfa, Nat.reduceAdd]
  refine sR ?_
  refine oM ?_
  refine oA ?_
  try simp only [nfa, Nat.reduceAdd]
  refine hops_nil ?_
  try simp only [nfa, Nat.reduceAdd]
  refine hc_ret ?_
  try simp only [hng, hthen, hblock]
  apply hend_1 rfl ?es RV.tmp ?eR
  case es => exact Sub.refl _
  case eR =>
   obtain rfl : k = D.length := by omega
   rw [List.take_length, hD, dirtyPg_eq] at hown
   exact ⟨hown, sq1.trans hs1⟩
end Go.Proofs.Try
