/- A part of the proofs over the tenants of a page cache: lemmas on what is known of the memory, and contracts of the Go functions. -/
import Derived.Test.YtckokpmljhhhcaaF6
import Derived.Test.YtckokpmljhhhcaaN1
set_option linter.unusedVariables false
set_option linter.unusedSimpArgs false
namespace Go.Proofs.Try
open Go Go.H
set_option linter.unusedSimpArgs false
set_option linter.unusedVariables false
set_option maxRecDepth 100000
set_option maxHeartbeats 2000000
def sum2 (o c : List Nat) : List Nat := List.zipWith sat o c
def ptl (o c : List Nat) (k : Nat) : List Nat := (sum2 o c).take k ++ o.drop k
theorem ptl_zero (o c : List Nat) : ptl o c 0 = o := by simp [ptl]
theorem sum2_len {o c : List Nat} (ho : o.length = 6) (hc : c.length = 6) : (sum2 o c).length = 6 := by simp [sum2, ho, hc]
theorem ptl_six {o c : List Nat} (ho : o.length = 6) (hc : c.length = 6) : ptl o c 6 = sum2 o c := by
  unfold ptl; rw [List.take_of_length_le (by rw [sum2_len ho hc]; omega), List.drop_of_length_le (by omega), List.append_nil]
theorem ptl_len {o c : List Nat} (ho : o.length = 6) (hc : c.length = 6) {k : Nat} (hk : k ≤ 6) : (ptl o c k).length = 6 := by
  simp [ptl, sum2_len ho hc, ho]; omega
theorem ptl_get {o c : List Nat} (ho : o.length = 6) (hc : c.length = 6) {k : Nat} (hk : k < 6) : (ptl o c k)[k]? = o[k]? := by
  unfold ptl
  rw [List.getElem?_append_right (by simp [sum2_len ho hc]; omega)]
  simp [sum2_len ho hc, Nat.min_eq_left (Nat.le_of_lt hk)]
theorem ptl_step {o c : List Nat} (ho : o.length = 6) (hc : c.length = 6) {k x n : Nat} (hk : k < 6) (hx : o[k]? = some x) (hn : c[k]? = some n) : (ptl o c k).set k (sat x n) = ptl o c (k + 1) := by
  have h1 : ((sum2 o c).take k).length = k := by rw [List.length_take, sum2_len ho hc]; omega
  have hs : (sum2 o c)[k]? = some (sat x n) := by simp [sum2, List.getElem?_zipWith, hx, hn]
  unfold ptl
  rw [List.set_append_right _ _ (by omega), h1, Nat.sub_self, List.drop_eq_getElem_cons (by omega), List.set_cons_zero, List.take_add_one, hs]
  simp
theorem sum2_all {o c : List Nat} (ho : cnAll o) (hc : cnAll c) : cnAll (sum2 o c) := by
  refine ⟨sum2_len ho.1 hc.1, fun x hx => ?_⟩
  obtain ⟨i, hi⟩ := List.mem_iff_getElem?.1 hx
  simp only [sum2, List.getElem?_zipWith] at hi
  split at hi
  · simp only [Option.some.injEq] at hi; subst hi; exact sat_lt
  · cases hi
theorem ptl_all {o c : List Nat} (ho : cnAll o) (hc : cnAll c) {k : Nat} (hk : k ≤ 6) : cnAll (ptl o c k) := by
  refine ⟨ptl_len ho.1 hc.1 hk, fun x hx => ?_⟩
  rcases List.mem_append.1 hx with h | h
  · exact (sum2_all ho hc).2 x (List.mem_of_mem_take h)
  · exact ho.2 x (List.mem_of_mem_drop h)
def sumAll (l : List (List Nat)) : List Nat := l.foldl sum2 [0, 0, 0, 0, 0, 0]
theorem sumAll_snoc (l : List (List Nat)) (c : List Nat) : sumAll (l ++ [c]) = sum2 (sumAll l) c := by simp [sumAll]
theorem z6_all : cnAll [0, 0, 0, 0, 0, 0] := ⟨rfl, by simp⟩
theorem sumAll_all (l : List (List Nat)) (h : ∀ c ∈ l, cnAll c) : cnAll (sumAll l) := by
  have key : ∀ (l : List (List Nat)) (o : List Nat), (∀ c ∈ l, cnAll c) → cnAll o → cnAll (l.foldl sum2 o) := by
    intro l
    induction l with
    | nil => intro o _ ho; exact ho
    | cons c l ih => intro o h ho; exact ih _ (fun x hx => h x (by simp [hx])) (sum2_all ho (h c (by simp)))
  exact key l _ h z6_all
theorem flat_cnc_len (l : List (List Nat)) (h : ∀ c ∈ l, cnAll c) : (flat cnc l).length = l.length * 6 := flat_length _ (fun c hc => by simp [cnc, (h c hc).1])
theorem count_Sum {H0 : Hp} {v : Value} {L : List (List Nat)} {a : Option Addr} {cp : Nat} (hv : v = .slice a L.length cp) (hl : srcOk H0 6 L.length v (flat cnc L)) (hla : ∀ c ∈ L, cnAll c) (hln : L.length ≤ 65536) :
    HT prog 38 #[v] H0 (fun v H' => v = .agg (cnc (sumAll L)).toArray ∧ H0 = H') := by
 subst hv
 refine ht_of_body (args := [.slice a L.length cp]) func38 rfl ?_
 simp only [ntmps38, List.length_cons, List.length_nil, Nat.reduceAdd, Nat.reduceSub, List.replicate_succ, List.replicate_zero, List.cons_append, List.nil_append]
 refine sR ?_
 refine hops_cons rfl (hop_alloc (zl := cnc [0, 0, 0, 0, 0, 0]) rfl ?_)
 intro b1 hb1
 have hb1' := hb1
 try simp only [Hp.set_none, Hp.del_none] at hb1'
 have hb1_n : H0 b1 = none := by first | exact hb1' | exact hb1'.2 | exact hb1'.2.2 | exact hb1'.2.2.2 | exact hb1'.2.2.2.2 | exact hb1'.2.2.2.2.2 | exact hb1'.2.2.2.2.2.2
 clear hb1'
 try simp only [nf, nf2]
 refine hops_nil ?_
 try simp only [nfa, Nat.reduceAdd]
 refine sR ?_
 refine hops_cons rfl (hop_alloc (zl := cnc [0, 0, 0, 0, 0, 0]) rfl ?_)
 intro b2 hb2
 have hb2' := hb2
 try simp only [Hp.set_none, Hp.del_none] at hb2'
 have hb2_n : H0 b2 = none := by first | exact hb2' | exact hb2'.2 | exact hb2'.2.2 | exact hb2'.2.2.2 | exact hb2'.2.2.2.2 | exact hb2'.2.2.2.2.2 | exact hb2'.2.2.2.2.2.2
 have hb2_b1 : b2 ≠ b1 := by first | exact hb2'.1 | exact hb2'.2.1 | exact hb2'.2.2.1 | exact hb2'.2.2.2.1 | exact hb2'.2.2.2.2.1 | exact hb2'.2.2.2.2.2.1
 clear hb2'
 try simp only [nf, nf2]
 refine hops_nil ?_
 try simp only [nfa, Nat.reduceAdd]
 refine hc_seq ?_
 refine sR ?_
 refine oM ?_
 try simp only [nfa, Nat.reduceAdd]
 refine hops_cons rfl (hop_lenS rfl ?_)
 try simp only [nfa, Nat.reduceAdd]
 refine oM ?_
 try simp only [nfa, Nat.reduceAdd]
 refine hops_nil ?_
 try simp only [nfa, Nat.reduceAdd]
 refine hc_block ?_
 refine hc_loop (fun nn l H => ∃ (x5 : Value) (x6 : Value) (x7 : Value) (x8 : Value) (x12 : Value) (x13 : Value) (x14 : Value) (x15 : Value) (x16 : Value) (x17 : Value) (x18 : Value) (x19 : Value) (x20 : Value) (x21 : Value) (x22 : Value) (x23 : Value) (x24 : Value) (x25 : Value) (x26 : Value) (x27 : Value) (x28 : Value) (x29 : Value) (k : Nat), l = [_, _, _, _, _, x5, x6, x7, x8, _, _, .int .i64 (k : Int), x12, x13, x14, x15, x16, x17, x18, x19, x20, x21, x22, x23, x24, x25, x26, x27, x28, x29, _] ∧ Sub H0 H ∧ H0 b1 = none ∧ H0 b2 = none ∧ b1 ≠ b2 ∧ H b1 = some (row (cnc [0, 0, 0, 0, 0, 0]) 38) ∧ H b2 = some (row (cnc (sumAll (L.take k))) 38) ∧ k ≤ L.length ∧ nn = L.length - k) (L.length) ⟨_, _, _, _, _, _, _, _, _, _, _, _, _, _, _, _, _, _, _, _, _, _, 0, rfl, by first | ((repeat' first | assumption | exact Sub.refl _ | refine Sub.over ?_ ‹_› _); done) | (intro _ _ h; simp only [Hp.set] at h ⊢; grind), hb1_n, hb2_n, hb2_b1.symm, by (repeat' first | assumption | exact hS | exact Hp.one_get _ _ | refine hT (by first | assumption | exact Ne.symm ‹_›) ?_), by (repeat' first | assumption | exact hS | exact Hp.one_get _ _ | refine hT (by first | assumption | exact Ne.symm ‹_›) ?_), by omega, rfl⟩ ?_
 rintro nn l H ⟨x5, x6, x7, x8, x12, x13, x14, x15, x16, x17, x18, x19, x20, x21, x22, x23, x24, x25, x26, x27, x28, x29, k, rfl, hs, hb10, hb20, h12, hB1, hB2, hk, hnn⟩
 refine sR ?_
 refine hops_cons rfl (hop_bin rfl rfl rfl ?_)
 try simp only [nfa, Nat.reduceAdd]
 refine hops_nil ?_
 try simp only [nfa, Nat.reduceAdd]
 refine hc_seq ?_
 refine hc_cond rfl (fun hc0 => ?_) (fun hc0 => ?_)
 ·
  try simp at hc0
  refine hc_skip ?_
  try simp only [nfa, Nat.reduceAdd]
  refine hc_seq ?_
  refine hc_block ?_
  refine sR ?_
  obtain ⟨pb, po, pcap, PL, PT, hpe, hpb, hpl, hpy⟩ := (hl.sub hs).idx (i := k) (by omega) (by rintro s ⟨⟩)
  obtain ⟨c, hc⟩ : ∃ c, L[k]? = some c := ⟨_, List.getElem?_eq_getElem (by omega)⟩
  have hca := hla c (List.mem_of_getElem? hc)
  have htk : L.take (k + 1) = L.take k ++ [c] := by rw [List.take_add_one, hc]; rfl
  have hoa := sumAll_all (L.take k) (fun c hc => hla c (List.mem_of_mem_take hc))
  have hcell : (PL.drop (po + k * 6)).take 6 = cnc c := by
    have h := congrArg (fun y => (y.drop (k * 6)).take 6) hpy
    simp only [List.drop_take, List.take_take, List.drop_drop] at h
    rw [Nat.min_eq_left (by omega)] at h
    rw [← h, flat_split hc, List.append_assoc, List.drop_append_of_le_length (by rw [flat_cnc_len _ (fun c hc => hla c (List.mem_of_mem_take hc)), List.length_take]; omega)]
    have e1 : (flat cnc (L.take k)).length = k * 6 := by rw [flat_cnc_len _ (fun c hc => hla c (List.mem_of_mem_take hc)), List.length_take, Nat.min_eq_left (by omega)]
    rw [List.drop_of_length_le (by omega), List.nil_append, List.take_append_of_le_length (by simp [cnc, hca.1]), List.take_of_length_le (by simp [cnc, hca.1])]
  refine hops_cons rfl (hop_indexAddr (i := (k : Int)) hpe rfl (by omega) (by omega) ?_)
  simp only [Int.toNat_natCast]
  try simp only [nf, nf2]
  refine hops_cons rfl (hop_loadA rfl hpb (by omega) ?_)
  rw [hcell]
  try simp only [nf, nf2]
  refine hops_cons rfl (hop_alloc (zl := cnc [0, 0, 0, 0, 0, 0]) rfl ?_)
  intro b3 hb3
  have hb3' := hb3
  try simp only [Hp.set_none, Hp.del_none] at hb3'
  have hb3_n : H b3 = none := by first | exact hb3' | exact hb3'.2 | exact hb3'.2.2 | exact hb3'.2.2.2 | exact hb3'.2.2.2.2 | exact hb3'.2.2.2.2.2 | exact hb3'.2.2.2.2.2.2
  have hb3_b1 : b3 ≠ b1 := (Hp.ne_of hB1 hb3_n).symm
  have hb3_b2 : b3 ≠ b2 := (Hp.ne_of hB2 hb3_n).symm
  have hb3_H0 : H0 b3 = none := Sub.unk (hs) hb3_n
  clear hb3'
  try simp only [nf, nf2]
  refine hops_cons rfl (hop_storeA (vs := cnc c) rfl rfl (by simp [cnc, hca.1]) (one_cnc _) (by (repeat' first | assumption | exact hS | exact Hp.one_get _ _ | refine hT (by first | assumption | exact Ne.symm ‹_›) ?_)) (by simp [cnc]) (by decide) ?_)
  rw [wr_all (L := cnc [0, 0, 0, 0, 0, 0]) (vs := cnc c) (by simp [cnc, hca.1])]
  try simp only [nf, nf2]
  refine hops_nil ?_
  try simp only [nfa, Nat.reduceAdd]
  refine sR ?_
  refine oM ?_
  try simp only [nfa, Nat.reduceAdd]
  refine hops_nil ?_
  try simp only [nfa, Nat.reduceAdd]
  refine hc_block ?_
  refine hc_loop (fun nn l H => ∃ (x6 : Value) (x7 : Value) (x8 : Value) (x16 : Value) (x17 : Value) (x18 : Value) (x19 : Value) (x20 : Value) (x21 : Value) (x22 : Value) (x23 : Value) (x24 : Value) (x25 : Value) (x26 : Value) (x27 : Value) (x28 : Value) (j : Nat), l = [_, _, _, _, _, _, x6, x7, x8, _, _, _, _, _, _, .int .i64 (j : Int), x16, x17, x18, x19, x20, x21, x22, x23, x24, x25, x26, x27, x28, _, _] ∧ Sub H0 H ∧ H0 b3 = none ∧ b1 ≠ b3 ∧ b2 ≠ b3 ∧ H b1 = some (row (cnc [0, 0, 0, 0, 0, 0]) 38) ∧ H b2 = some (row (cnc (ptl (sumAll (L.take k)) c j)) 38) ∧ H b3 = some (row (cnc c) 38) ∧ j ≤ 6 ∧ nn = 6 - j) (6) ⟨_, _, _, _, _, _, _, _, _, _, _, _, _, _, _, _, 0, rfl, by first | ((repeat' first | assumption | exact Sub.refl _ | refine Sub.over ?_ ‹_› _); done) | (intro _ _ h; simp only [Hp.set] at h ⊢; grind), hb3_H0, hb3_b1.symm, hb3_b2.symm, by (repeat' first | assumption | exact hS | exact Hp.one_get _ _ | refine hT (by first | assumption | exact Ne.symm ‹_›) ?_), by rw [ptl_zero]; (repeat' first | assumption | exact hS | exact Hp.one_get _ _ | refine hT (by first | assumption | exact Ne.symm ‹_›) ?_), by (repeat' first | assumption | exact hS | exact Hp.one_get _ _ | refine hT (by first | assumption | exact Ne.symm ‹_›) ?_), by omega, rfl⟩ ?_
  rintro nn l H ⟨x6, x7, x8, x16, x17, x18, x19, x20, x21, x22, x23, x24, x25, x26, x27, x28, j, rfl, hs3, hb30, h13, h23, hB1, hB2, hB3, hj, hnn⟩
  have hpa := ptl_all hoa hca hj
  refine sR ?_
  refine hops_cons rfl (hop_bin rfl rfl rfl ?_)
  try simp only [nfa, Nat.reduceAdd]
  refine hops_nil ?_
  try simp only [nfa, Nat.reduceAdd]
  refine hc_seq ?_
  refine hc_cond rfl (fun hc1 => ?_) (fun hc1 => ?_)
  ·
   try simp at hc1
   refine hc_skip ?_
   try simp only [nfa, Nat.reduceAdd]
   refine hc_seq ?_
   refine hc_block ?_
   refine sR ?_
   refine oM ?_
   refine oA ?_
   try simp only [nfa, Nat.reduceAdd]
   refine hops_nil ?_
   try simp only [nfa, Nat.reduceAdd]
   refine sR ?_
   refine hops_cons rfl (hop_loadA rfl (by (repeat' first | assumption | exact hS | exact Hp.one_get _ _ | refine hT (by first | assumption | exact Ne.symm ‹_›) ?_)) (by simp [cnc, hca.1]) ?_)
   rw [List.drop_zero, List.take_of_length_le (by simp [cnc, hca.1])]
   try simp only [nf, nf2]
   refine oM ?_
   refine hops_cons rfl (hop_call ?_)
   simp only [nfa, Nat.reduceAdd]
   obtain ⟨x, hx⟩ : ∃ x, (sumAll (L.take k))[j]? = some x := ⟨_, List.getElem?_eq_getElem (by rw [hoa.1]; omega)⟩
   obtain ⟨n, hcn⟩ : ∃ n, c[j]? = some n := ⟨_, List.getElem?_eq_getElem (by rw [hca.1]; omega)⟩
   have hxp : (ptl (sumAll (L.take k)) c j)[j]? = some x := by rw [ptl_get hoa.1 hca.1 (by omega)]; exact hx
   refine HT.mono (count_Get (by omega) hcn) ?_
   rintro _ _ ⟨rfl, rfl⟩
   try simp only [nf, nf2]
   refine oM ?_
   refine hops_cons rfl (hop_extract rfl rfl ?_)
   refine hops_cons rfl (hop_extract rfl rfl ?_)
   refine oA ?_
   refine oA ?_
   try simp only [nfa, Nat.reduceAdd]
   refine hops_nil ?_
   try simp only [nfa, Nat.reduceAdd]
   refine hc_region ?_
   refine hops_cons rfl (hop_loadA rfl (by (repeat' first | assumption | exact hS | exact Hp.one_get _ _ | refine hT (by first | assumption | exact Ne.symm ‹_›) ?_)) (by simp [cnc, hpa.1]) ?_)
   rw [List.drop_zero, List.take_of_length_le (by simp [cnc, hpa.1])]
   try simp only [nf, nf2]
   refine oM ?_
   refine oM ?_
   refine hops_cons rfl (hop_call ?_)
   simp only [nfa, Nat.reduceAdd]
   refine HT.mono (count_Add hpa.1 (by omega) hxp (hpa.2 x (List.mem_of_getElem? hxp)) (hca.2 n (List.mem_of_getElem? hcn))) ?_
   rintro _ _ ⟨rfl, rfl⟩
   try simp only [nfa, Nat.reduceAdd]
   refine hops_cons rfl (hop_storeA (vs := cnc ((ptl (sumAll (L.take k)) c j).set j (sat x n))) rfl rfl (by simp [cnc, hpa.1]) (one_cnc _) (by (repeat' first | assumption | exact hS | exact Hp.one_get _ _ | refine hT (by first | assumption | exact Ne.symm ‹_›) ?_)) (by simp [cnc, hpa.1]) (by decide) ?_)
   rw [wr_all (L := cnc (ptl (sumAll (L.take k)) c j)) (by simp [cnc])]
   try simp only [nf, nf2]
   refine hops_nil ?_
   try simp only [nfa, Nat.reduceAdd]
   refine hc_region ?_
   refine hops_cons rfl (hop_add rfl rfl (by omega) ?_)
   try simp only [nfa, Nat.reduceAdd]
   refine oM ?_
   try simp only [nfa, Nat.reduceAdd]
   refine hops_nil ?_
   try simp only [nfa, Nat.reduceAdd]
   refine ⟨6 - (j + 1), _, by omega, Sub.refl _, _, _, _, _, _, _, _, _, _, _, _, _, _, _, _, _, j + 1, rfl, ?_⟩
   refine ⟨?_, hb30, h13, h23, by (repeat' first | assumption | exact hS | exact Hp.one_get _ _ | refine hT (by first | assumption | exact Ne.symm ‹_›) ?_), ?_, by (repeat' first | assumption | exact hS | exact Hp.one_get _ _ | refine hT (by first | assumption | exact Ne.symm ‹_›) ?_), by omega, rfl⟩
   exact Sub.over hs3 hb20 _
   rw [← ptl_step hoa.1 hca.1 (by omega) hx hcn]; exact Hp.set_same _ _ _
  ·
   try simp at hc1
   refine hc_exit ?_
   simp only [hng, hthen, hblock, if_true]
   try simp only [nfa, Nat.reduceAdd]
   refine hc_region ?_
   refine hops_cons rfl (hop_add rfl rfl (by omega) ?_)
   try simp only [nfa, Nat.reduceAdd]
   refine oM ?_
   try simp only [nfa, Nat.reduceAdd]
   refine hops_nil ?_
   try simp only [nfa, Nat.reduceAdd]
   refine ⟨L.length - (k + 1), _, by omega, Sub.refl _, _, _, _, _, _, _, _, _, _, _, _, _, _, _, _, _, _, _, _, _, _, _, k + 1, rfl, ?_⟩
   obtain rfl : j = 6 := by omega
   refine ⟨hs3, hb10, hb20, h12, hB1, ?_, by omega, rfl⟩
   rw [htk, sumAll_snoc, ← ptl_six hoa.1 hca.1]; exact hB2
 ·
  try simp at hc0
  refine hc_exit ?_
  simp only [hng, hthen, hblock, if_true]
  try simp only [nfa, Nat.reduceAdd]
  refine sR ?_
  obtain rfl : k = L.length := by omega
  rw [List.take_length] at hB2
  have hoA := sumAll_all L hla
  refine hops_cons rfl (hop_loadA rfl hB2 (by simp [cnc, hoA.1]) ?_)
  rw [List.drop_zero, List.take_of_length_le (by simp [cnc, hoA.1])]
  try simp only [nf, nf2]
  refine hops_cons rfl (hop_storeA (vs := cnc (sumAll L)) rfl rfl (by simp [cnc, hoA.1]) (one_cnc _) (by (repeat' first | assumption | exact hS | exact Hp.one_get _ _ | refine hT (by first | assumption | exact Ne.symm ‹_›) ?_)) (by simp [cnc]) (by decide) ?_)
  rw [wr_all (L := cnc [0, 0, 0, 0, 0, 0]) (vs := cnc (sumAll L)) (by simp [cnc, hoA.1])]
  try simp only [nf, nf2]
  refine hops_nil ?_
  try simp only [nfa, Nat.reduceAdd]
  refine hc_ret ?_
  try simp only [hng, hthen, hblock]
  apply hend_1 rfl ?es (RV.cellW rfl (Hp.set_same _ _ _) (by simp [cnc, hoA.1])) ?eR
  case eR => exact ⟨rfl, rfl⟩
  case es => exact Sub.over hs hb10 _
end Go.Proofs.Try
