/- A part of the proofs over the tenants of a page cache: lemmas on what is known of the memory, and contracts of the Go functions. -/
import Derived.Test.YtckokpmljhhhcaaM7
set_option linter.unusedVariables false
set_option linter.unusedSimpArgs false
namespace Go.Proofs.Try
open Go Go.H
set_option linter.unusedSimpArgs false
set_option linter.unusedVariables false
set_option maxRecDepth 100000
set_option maxHeartbeats 2000000
/-- how far a number is from 0, or from -1 -/
def arN (n : Int) : Nat := if n < 0 then (-(n + 1)).toNat else n.toNat
def fitsI (n : Int) : Prop := -9223372036854775808 ≤ n ∧ n ≤ 9223372036854775807
/-- a slice of its own, in memory that was not there -/
def NewS (H0 : Hp) (A : List Value) (n : Nat) (t : TypeId) (sz : Nat) (v : Value) (H' : Hp) : Prop := ∃ Hn, OwnS Hn v n A t sz ∧ Sub Hn H' ∧ Disj Hn H0 ∧ Sub H0 H'
theorem own_new {H0 H : Hp} {v : Value} {n sz : Nat} {A : List Value} {t : TypeId} (ho : OwnS H v n A t sz) (s : Sub H0 (H.drop v)) : NewS H0 A n t sz v H := by
  rcases ho with ⟨rfl, rfl, rfl⟩ | ⟨b, cap, B, rfl, hb, h3⟩
  · exact ⟨Hp.emp, OwnS.nil _ _ _, Sub.emp _, Disj.emp _, s⟩
  · have hn : H0 b = none := s.unk (Hp.del_same _ _)
    exact ⟨Hp.one b (row (A ++ B) t), .inr ⟨b, cap, B, rfl, Hp.one_get _ _, h3⟩, Sub.one hb, (Disj.one hn).symm, s.trans (Sub.drop _ _)⟩
theorem Around_neg {H : Hp} {a k : Nat} (ha : a ≤ 9223372036854775807) (hk : 0 < k) :
    HT prog 6 #[.int .i64 (-1 - (a : Int)), .int .i64 (k : Int)] H (fun v H' => v = .int .i64 ((a % k : Nat) : Int) ∧ H = H') := by
 refine ht_of_body (args := [.int .i64 (-1 - (a : Int)), .int .i64 (k : Int)]) func6 rfl ?_
 simp only [ntmps6, List.length_cons, List.length_nil, Nat.reduceAdd, Nat.reduceSub, List.replicate_succ, List.replicate_zero, List.cons_append, List.nil_append]
 refine sR ?_
 refine oA ?_
 try simp only [nfa, Nat.reduceAdd]
 refine hops_nil ?_
 try simp only [nfa, Nat.reduceAdd]
 refine hc_seq ?_
 refine sR ?_
 refine oM ?_
 try simp only [nfa, Nat.reduceAdd]
 refine hops_cons rfl (hop_bin rfl rfl rfl ?_)
 try simp only [nfa, Nat.reduceAdd]
 refine hops_nil ?_
 try simp only [nfa, Nat.reduceAdd]
 refine hc_T rfl (by first | rfl | assumption | (simp; done) | (simp; omega) | (simp [*]; done)) ?_
 refine hc_region ?_
 refine oM ?_
 try simp only [nfa, Nat.reduceAdd]
 refine hops_cons rfl (hop_add rfl rfl (by omega) ?_)
 try simp only [nfa, Nat.reduceAdd]
 refine hops_cons rfl (hop_neg rfl ?_)
 rw [wrap_i64 (by omega), show (0 : Int) - (-1 - (a : Int) + 1) = (a : Int) by omega]
 try simp only [nf, nf2]
 refine oA ?_
 try simp only [nfa, Nat.reduceAdd]
 refine hops_nil ?_
 try simp only [nfa, Nat.reduceAdd]
 refine sR ?_
 refine oM ?_
 refine oM ?_
 try simp only [nfa, Nat.reduceAdd]
 refine hops_cons rfl (hop_remN rfl rfl hk ?_)
 try simp only [nfa, Nat.reduceAdd]
 refine oA ?_
 try simp only [nfa, Nat.reduceAdd]
 refine hops_nil ?_
 try simp only [nfa, Nat.reduceAdd]
 refine hc_ret ?_
 try simp only [hng, hthen, hblock]
 apply hend_1 rfl ?es RV.tmp ?eR
 case eR =>
  first | exact ⟨rfl, rfl⟩ | (refine ⟨?_, rfl⟩; simp)
 case es => first | ((repeat' first | assumption | exact Sub.refl _ | refine Sub.over ?_ ‹_› _); done) | (intro _ _ h; simp only [Hp.set] at h ⊢; grind)
theorem Around_pos {H : Hp} {a k : Nat} (ha : a ≤ 9223372036854775807) (hk : 0 < k) :
    HT prog 6 #[.int .i64 (a : Int), .int .i64 (k : Int)] H (fun v H' => v = .int .i64 ((a % k : Nat) : Int) ∧ H = H') := by
 refine ht_of_body (args := [.int .i64 (a : Int), .int .i64 (k : Int)]) func6 rfl ?_
 simp only [ntmps6, List.length_cons, List.length_nil, Nat.reduceAdd, Nat.reduceSub, List.replicate_succ, List.replicate_zero, List.cons_append, List.nil_append]
 refine sR ?_
 refine oA ?_
 try simp only [nfa, Nat.reduceAdd]
 refine hops_nil ?_
 try simp only [nfa, Nat.reduceAdd]
 refine hc_seq ?_
 refine sR ?_
 refine oM ?_
 try simp only [nfa, Nat.reduceAdd]
 refine hops_cons rfl (hop_bin rfl rfl rfl ?_)
 try simp only [nfa, Nat.reduceAdd]
 refine hops_nil ?_
 try simp only [nfa, Nat.reduceAdd]
 refine hc_F rfl (by first | rfl | assumption | (simp; done) | (simp; omega) | (simp [*]; done)) ?_
 refine hc_skip ?_
 try simp only [nfa, Nat.reduceAdd]
 refine sR ?_
 refine oM ?_
 refine oM ?_
 try simp only [nfa, Nat.reduceAdd]
 refine hops_cons rfl (hop_remN rfl rfl hk ?_)
 try simp only [nfa, Nat.reduceAdd]
 refine oA ?_
 try simp only [nfa, Nat.reduceAdd]
 refine hops_nil ?_
 try simp only [nfa, Nat.reduceAdd]
 refine hc_ret ?_
 try simp only [hng, hthen, hblock]
 apply hend_1 rfl ?es RV.tmp ?eR
 case eR =>
  first | exact ⟨rfl, rfl⟩ | (refine ⟨?_, rfl⟩; simp)
 case es => first | ((repeat' first | assumption | exact Sub.refl _ | refine Sub.over ?_ ‹_› _); done) | (intro _ _ h; simp only [Hp.set] at h ⊢; grind)
theorem ref_Around {H : Hp} {n : Int} {k : Nat} (hn : fitsI n) (hk : 0 < k) : HT prog 6 #[.int .i64 n, .int .i64 (k : Int)] H (fun v H' => v = .int .i64 ((arN n % k : Nat) : Int) ∧ H = H') := by
  obtain ⟨h1, h2⟩ := hn
  unfold arN
  split
  · obtain ⟨a, ha⟩ : ∃ a : Nat, n = -1 - (a : Int) := ⟨(-(n + 1)).toNat, by omega⟩
    subst ha
    rw [show (-(-1 - (a : Int) + 1)).toNat = a by omega]
    exact Around_neg (by omega) hk
  · obtain ⟨a, rfl⟩ : ∃ a : Nat, n = (a : Int) := ⟨n.toNat, by omega⟩
    exact Around_pos (by omega) hk
/-- so many bytes, made of any -/
def fillB (bs : List UInt8) (n : Nat) : List UInt8 := (List.range n).map fun i => bs.getD (i % bs.length) 0
theorem fillB_succ (bs : List UInt8) (n : Nat) : fillB bs (n + 1) = fillB bs n ++ [bs.getD (n % bs.length) 0] := by simp [fillB, List.range_succ]
theorem fillB_len (bs : List UInt8) (n : Nat) : (fillB bs n).length = n := by simp [fillB]
theorem Fill_none {H0 : Hp} {n c : Nat} {a : Option Addr} {bs : List UInt8} (hb : bs = []) (hn : n ≤ 1000) :
    HT prog 22 #[.slice a 0 c, .int .i64 (n : Int)] H0 (NewS H0 ((fillB bs n).map byv) n 5 1) := by
 subst hb
 refine ht_of_body (args := [.slice a 0 c, .int .i64 (n : Int)]) func22 rfl ?_
 simp only [ntmps22, List.length_cons, List.length_nil, Nat.reduceAdd, Nat.reduceSub, List.replicate_succ, List.replicate_zero, List.cons_append, List.nil_append]
 refine sR ?_
 refine oA ?_
 try simp only [nfa, Nat.reduceAdd]
 refine hops_nil ?_
 try simp only [nfa, Nat.reduceAdd]
 refine sR ?_
 refine oA ?_
 try simp only [nfa, Nat.reduceAdd]
 refine hops_nil ?_
 try simp only [nfa, Nat.reduceAdd]
 refine hc_seq ?_
 refine sR ?_
 refine oA ?_
 try simp only [nfa, Nat.reduceAdd]
 refine hops_nil ?_
 try simp only [nfa, Nat.reduceAdd]
 refine hc_block ?_
 refine hc_loop (fun nn l H => ∃ (x7 : Value) (x8 : Value) (x9 : Value) (x10 : Value) (x11 : Value) (x12 : Value) (x13 : Value) (x14 : Value) (x15 : Value) (x16 : Value) (x17 : Value) (x18 : Value) (x19 : Value) (x20 : Value) (x21 : Value) (x22 : Value) (x23 : Value) (x24 : Value) (x25 : Value) (x26 : Value) (x27 : Value) (k : Nat) (sv : Value), l = [_, _, _, _, _, sv, .int .i64 (k : Int), x7, x8, x9, x10, x11, x12, x13, x14, x15, x16, x17, x18, x19, x20, x21, x22, x23, x24, x25, x26, x27, _] ∧ OwnS H sv k ((fillB ([] : List UInt8) k).map byv) 5 1 ∧ Sub H0 (H.drop sv) ∧ k ≤ n ∧ nn = n - k) (n) ⟨_, _, _, _, _, _, _, _, _, _, _, _, _, _, _, _, _, _, _, _, _, 0, _, rfl, OwnS.nil _ _ _, Sub.refl _, by omega, rfl⟩ ?_
 rintro nn l H ⟨x7, x8, x9, x10, x11, x12, x13, x14, x15, x16, x17, x18, x19, x20, x21, x22, x23, x24, x25, x26, x27, k, sv, rfl, hown, hsd, hk, hnn⟩
 have hs1 := hsd.trans (Sub.drop H sv)
 refine hc_seq ?_
 refine sR ?_
 refine oM ?_
 refine oM ?_
 try simp only [nfa, Nat.reduceAdd]
 refine hops_cons rfl (hop_bin rfl rfl rfl ?_)
 try simp only [nfa, Nat.reduceAdd]
 refine hops_nil ?_
 try simp only [nfa, Nat.reduceAdd]
 refine hc_cond rfl (fun hc0 => ?_) (fun hc0 => ?_)
 ·
  try simp at hc0
  refine hc_skip ?_
  try simp only [nfa, Nat.reduceAdd]
  refine hc_seq ?_
  refine hc_block ?_
  refine sR ?_
  refine oM ?_
  try simp only [nfa, Nat.reduceAdd]
  refine hops_cons rfl (hop_lenS rfl ?_)
  try simp only [nfa, Nat.reduceAdd]
  refine hops_cons rfl (hop_bin rfl rfl rfl ?_)
  try simp only [nfa, Nat.reduceAdd]
  refine hops_nil ?_
  try simp only [nfa, Nat.reduceAdd]
  refine hc_F rfl (by first | rfl | assumption | (simp; done) | (simp; omega) | (simp [*]; done)) ?_
  refine hc_region ?_
  refine oM ?_
  try simp only [nfa, Nat.reduceAdd]
  refine hops_cons rfl (hop_buildSlice (L := [.int .u8 0]) rfl (by decide) (by decide) rfl ?_)
  intro b2 hb2
  have hb2' := hb2
  try simp only [Hp.set_none, Hp.del_none] at hb2'
  have hb2_n : H b2 = none := by first | exact hb2' | exact hb2'.2 | exact hb2'.2.2 | exact hb2'.2.2.2 | exact hb2'.2.2.2.2 | exact hb2'.2.2.2.2.2 | exact hb2'.2.2.2.2.2.2
  have hb2_H0 : H0 b2 = none := Sub.unk (hs1) hb2_n
  clear hb2'
  try simp only [nf, nf2]
  refine hops_cons rfl (hop_appendW (H0 := H0) (v := sv) (n := k) (m := 1) (A := (fillB ([] : List UInt8) k).map byv) (ys := [byv (([] : List UInt8).getD (k % ([] : List UInt8).length) 0)]) rfl (by (repeat' first | exact hown | refine OwnS.upd ?_ (by (repeat' first | assumption | exact hS | exact Hp.one_get _ _ | refine hT (by first | assumption | exact Ne.symm ‹_›) ?_)) (by decide) | refine OwnS.new ?_ (by assumption))) (by (repeat' first | exact hsd | refine Sub.over_drop ?_ (by assumption))) (srcOk_own' (t := 5) (by exact Hp.set_same _ _ _) rfl) (by intro v h; simp only [List.mem_cons, List.not_mem_nil, or_false] at h; subst h; rfl) (by rfl) (by decide) (by omega) (by decide) ?_)
  intro sv2 H2 hown2 hsd2
  try simp only [nf, nf2]
  refine oA ?_
  try simp only [nfa, Nat.reduceAdd]
  refine hops_nil ?_
  try simp only [nfa, Nat.reduceAdd]
  refine hc_region ?_
  refine oM ?_
  try simp only [nfa, Nat.reduceAdd]
  refine hops_cons rfl (hop_add rfl rfl (by omega) ?_)
  try simp only [nfa, Nat.reduceAdd]
  refine oA ?_
  try simp only [nfa, Nat.reduceAdd]
  refine hops_nil ?_
  try simp only [nfa, Nat.reduceAdd]
  refine ⟨n - (k + 1), _, by omega, Sub.refl _, _, _, _, _, _, _, _, _, _, _, _, _, _, _, _, _, _, _, _, _, _, k + 1, _, rfl, ?_⟩
  exact ⟨by rw [fillB_succ, List.map_append]; exact hown2, hsd2, by omega, rfl⟩
 ·
  try simp at hc0
  refine hc_exit ?_
  simp only [hng, hthen, hblock, if_true]
  try simp only [nfa, Nat.reduceAdd]
  refine sR ?_
  refine oM ?_
  refine oA ?_
  try simp only [nfa, Nat.reduceAdd]
  refine hops_nil ?_
  try simp only [nfa, Nat.reduceAdd]
  refine hc_ret ?_
  try simp only [hng, hthen, hblock]
  apply hend_1 rfl ?es RV.tmp ?eR
  case es => exact Sub.refl _
  case eR =>
   obtain rfl : k = n := by omega
   exact own_new hown hsd
theorem Fill_some {H0 : Hp} {n b o c T : Nat} {L : List Value} {bs : List UInt8} (hH : H0 b = some (row L T)) (hl : o + bs.length ≤ L.length) (e : bs.map byv = (L.drop o).take bs.length) (hb : 0 < bs.length) (hn : n ≤ 1000) :
    HT prog 22 #[.slice (some ⟨b, o, none⟩) bs.length c, .int .i64 (n : Int)] H0 (NewS H0 ((fillB bs n).map byv) n 5 1) := by
 refine ht_of_body (args := [.slice (some ⟨b, o, none⟩) bs.length c, .int .i64 (n : Int)]) func22 rfl ?_
 simp only [ntmps22, List.length_cons, List.length_nil, Nat.reduceAdd, Nat.reduceSub, List.replicate_succ, List.replicate_zero, List.cons_append, List.nil_append]
 refine sR ?_
 refine oA ?_
 try simp only [nfa, Nat.reduceAdd]
 refine hops_nil ?_
 try simp only [nfa, Nat.reduceAdd]
 refine sR ?_
 refine oA ?_
 try simp only [nfa, Nat.reduceAdd]
 refine hops_nil ?_
 try simp only [nfa, Nat.reduceAdd]
 refine hc_seq ?_
 refine sR ?_
 refine oA ?_
 try simp only [nfa, Nat.reduceAdd]
 refine hops_nil ?_
 try simp only [nfa, Nat.reduceAdd]
 refine hc_block ?_
 refine hc_loop (fun nn l H => ∃ (x7 : Value) (x8 : Value) (x9 : Value) (x10 : Value) (x11 : Value) (x12 : Value) (x13 : Value) (x14 : Value) (x15 : Value) (x16 : Value) (x17 : Value) (x18 : Value) (x19 : Value) (x20 : Value) (x21 : Value) (x22 : Value) (x23 : Value) (x24 : Value) (x25 : Value) (x26 : Value) (x27 : Value) (k : Nat) (sv : Value), l = [_, _, _, _, _, sv, .int .i64 (k : Int), x7, x8, x9, x10, x11, x12, x13, x14, x15, x16, x17, x18, x19, x20, x21, x22, x23, x24, x25, x26, x27, _] ∧ OwnS H sv k ((fillB bs k).map byv) 5 1 ∧ Sub H0 (H.drop sv) ∧ k ≤ n ∧ nn = n - k) (n) ⟨_, _, _, _, _, _, _, _, _, _, _, _, _, _, _, _, _, _, _, _, _, 0, _, rfl, OwnS.nil _ _ _, Sub.refl _, by omega, rfl⟩ ?_
 rintro nn l H ⟨x7, x8, x9, x10, x11, x12, x13, x14, x15, x16, x17, x18, x19, x20, x21, x22, x23, x24, x25, x26, x27, k, sv, rfl, hown, hsd, hk, hnn⟩
 have hs1 := hsd.trans (Sub.drop H sv)
 refine hc_seq ?_
 refine sR ?_
 refine oM ?_
 refine oM ?_
 try simp only [nfa, Nat.reduceAdd]
 refine hops_cons rfl (hop_bin rfl rfl rfl ?_)
 try simp only [nfa, Nat.reduceAdd]
 refine hops_nil ?_
 try simp only [nfa, Nat.reduceAdd]
 refine hc_cond rfl (fun hc0 => ?_) (fun hc0 => ?_)
 ·
  try simp at hc0
  refine hc_skip ?_
  try simp only [nfa, Nat.reduceAdd]
  refine hc_seq ?_
  refine hc_block ?_
  refine sR ?_
  refine oM ?_
  try simp only [nfa, Nat.reduceAdd]
  refine hops_cons rfl (hop_lenS rfl ?_)
  try simp only [nfa, Nat.reduceAdd]
  refine hops_cons rfl (hop_bin rfl rfl rfl ?_)
  try simp only [nfa, Nat.reduceAdd]
  refine hops_nil ?_
  try simp only [nfa, Nat.reduceAdd]
  refine hc_T rfl (by first | rfl | assumption | (simp; done) | (simp; omega) | (simp [*]; done)) ?_
  refine hc_region ?_
  refine oM ?_
  refine oM ?_
  refine oM ?_
  refine oM ?_
  try simp only [nfa, Nat.reduceAdd]
  refine hops_cons rfl (hop_lenS rfl ?_)
  try simp only [nfa, Nat.reduceAdd]
  refine hops_cons rfl (hop_remN rfl rfl hb ?_)
  try simp only [nfa, Nat.reduceAdd]
  have hlt : k % bs.length < bs.length := Nat.mod_lt _ hb
  have hel : L[o + k % bs.length]? = some (byv (bs.getD (k % bs.length) 0)) := by
    have h := congrArg (fun y => y[k % bs.length]?) e
    simp only [List.getElem?_map, List.getElem?_take, List.getElem?_drop, if_pos hlt] at h
    rw [← h]; simp [List.getD_eq_getElem?_getD, List.getElem?_eq_getElem hlt]
  refine hops_cons rfl (hop_indexAddr (i := ((k % bs.length : Nat) : Int)) rfl rfl (by omega) (by omega) ?_)
  simp only [Int.toNat_natCast, Nat.mul_one]
  try simp only [nf, nf2]
  refine hops_cons rfl (hop_load rfl (hs1 _ _ hH) hel ?_)
  try simp only [nfa, Nat.reduceAdd]
  refine hops_cons rfl (hop_buildSlice (L := [byv (bs.getD (k % bs.length) 0)]) rfl (by decide) (by decide) rfl ?_)
  intro b2 hb2
  have hb2' := hb2
  try simp only [Hp.set_none, Hp.del_none] at hb2'
  have hb2_n : H b2 = none := by first | exact hb2' | exact hb2'.2 | exact hb2'.2.2 | exact hb2'.2.2.2 | exact hb2'.2.2.2.2 | exact hb2'.2.2.2.2.2 | exact hb2'.2.2.2.2.2.2
  have hb2_H0 : H0 b2 = none := Sub.unk (hs1) hb2_n
  clear hb2'
  try simp only [nf, nf2]
  refine hops_cons rfl (hop_appendW (H0 := H0) (v := sv) (n := k) (m := 1) (A := (fillB bs k).map byv) (ys := [byv (bs.getD (k % bs.length) 0)]) rfl (by (repeat' first | exact hown | refine OwnS.upd ?_ (by (repeat' first | assumption | exact hS | exact Hp.one_get _ _ | refine hT (by first | assumption | exact Ne.symm ‹_›) ?_)) (by decide) | refine OwnS.new ?_ (by assumption))) (by (repeat' first | exact hsd | refine Sub.over_drop ?_ (by assumption))) (srcOk_own' (t := 5) (by exact Hp.set_same _ _ _) rfl) (by intro v h; simp only [List.mem_cons, List.not_mem_nil, or_false] at h; subst h; rfl) (by rfl) (by decide) (by omega) (by decide) ?_)
  intro sv2 H2 hown2 hsd2
  try simp only [nf, nf2]
  refine oA ?_
  try simp only [nfa, Nat.reduceAdd]
  refine hops_nil ?_
  try simp only [nfa, Nat.reduceAdd]
  refine hc_region ?_
  refine oM ?_
  try simp only [nfa, Nat.reduceAdd]
  refine hops_cons rfl (hop_add rfl rfl (by omega) ?_)
  try simp only [nfa, Nat.reduceAdd]
  refine oA ?_
  try simp only [nfa, Nat.reduceAdd]
  refine hops_nil ?_
  try simp only [nfa, Nat.reduceAdd]
  refine ⟨n - (k + 1), _, by omega, Sub.refl _, _, _, _, _, _, _, _, _, _, _, _, _, _, _, _, _, _, _, _, _, _, k + 1, _, rfl, ?_⟩
  exact ⟨by rw [fillB_succ, List.map_append]; exact hown2, hsd2, by omega, rfl⟩
 ·
  try simp at hc0
  refine hc_exit ?_
  simp only [hng, hthen, hblock, if_true]
  try simp only [nfa, Nat.reduceAdd]
  refine sR ?_
  refine oM ?_
  refine oA ?_
  try simp only [nfa, Nat.reduceAdd]
  refine hops_nil ?_
  try simp only [nfa, Nat.reduceAdd]
  refine hc_ret ?_
  try simp only [hng, hthen, hblock]
  apply hend_1 rfl ?es RV.tmp ?eR
  case es => exact Sub.refl _
  case eR =>
   obtain rfl : k = n := by omega
   exact own_new hown hsd
theorem ref_Fill {H0 : Hp} {n : Nat} {bv : Value} {bs : List UInt8} (hd : dOk H0 bv bs) (hn : n ≤ 1000) : HT prog 22 #[bv, .int .i64 (n : Int)] H0 (NewS H0 ((fillB bs n).map byv) n 5 1) := by
  rcases hd with ⟨rfl, rfl⟩ | ⟨b, o, c, L, t, rfl, hH, hl, e⟩
  · exact Fill_none rfl hn
  · rcases Nat.eq_zero_or_pos bs.length with h0 | h0
    · have hb := List.length_eq_zero_iff.1 h0
      rw [h0]; exact Fill_none hb hn
    · exact Fill_some hH hl e h0 hn
theorem Few_nil {H0 : Hp} {k : Nat} :
    HT prog 21 #[.slice none 0 0, .int .i64 (k : Int)] H0 (NewS H0 ((([] : List UInt8).take k).map byv) (([] : List UInt8).take k).length 5 1) := by
 refine ht_of_body (args := [.slice none 0 0, .int .i64 (k : Int)]) func21 rfl ?_
 simp only [ntmps21, List.length_cons, List.length_nil, Nat.reduceAdd, Nat.reduceSub, List.replicate_succ, List.replicate_zero, List.cons_append, List.nil_append]
 refine sR ?_
 refine oA ?_
 try simp only [nfa, Nat.reduceAdd]
 refine hops_nil ?_
 try simp only [nfa, Nat.reduceAdd]
 refine sR ?_
 refine oA ?_
 try simp only [nfa, Nat.reduceAdd]
 refine hops_nil ?_
 try simp only [nfa, Nat.reduceAdd]
 refine sR ?_
 refine oM ?_
 refine oM ?_
 refine oM ?_
 try simp only [nfa, Nat.reduceAdd]
 refine hops_cons rfl (hop_lenS rfl ?_)
 try simp only [nfa, Nat.reduceAdd]
 refine oM ?_
 try simp only [nfa, Nat.reduceAdd]
 refine hops_cons rfl (hop_minI rfl rfl ?_)
 rw [show min ((0 : Nat) : Int) (k : Int) = 0 by omega]
 try simp only [nf, nf2]
 refine hops_cons rfl (hop_sliceNil rfl (by simp [bd]) (by simp [bd, ev]) ?_)
 try simp only [nf, nf2]
 refine hops_cons rfl (hop_appendW (H0 := H0) (v := .slice none 0 0) (n := 0) (m := 0) (A := []) (ys := []) rfl (OwnS.nil _ _ _) (Sub.refl _) srcOk_nil (by simp) (by rfl) (by decide) (by omega) (by decide) ?_)
 intro sv2 H2 hown2 hsd2
 try simp only [nf, nf2]
 refine oA ?_
 try simp only [nfa, Nat.reduceAdd]
 refine hops_nil ?_
 try simp only [nfa, Nat.reduceAdd]
 refine hc_ret ?_
 try simp only [hng, hthen, hblock]
 apply hend_1 rfl ?es RV.tmp ?eR
 case es => exact Sub.refl _
 case eR =>
  simpa using own_new hown2 hsd2
theorem Few_some {H0 : Hp} {b o c T k : Nat} {L : List Value} {bs : List UInt8} (hH : H0 b = some (row L T)) (hl : o + bs.length ≤ L.length) (e : bs.map byv = (L.drop o).take bs.length) (hc : bs.length ≤ c) (hk : k ≤ 1000) :
    HT prog 21 #[.slice (some ⟨b, o, none⟩) bs.length c, .int .i64 (k : Int)] H0 (NewS H0 ((bs.take k).map byv) (bs.take k).length 5 1) := by
 have hsrc : ∀ x, srcOk H0 1 (min bs.length k) (.slice (some ⟨b, o, none⟩) (min bs.length k) x) ((bs.take k).map byv) := by
   intro x
   refine .inl ⟨_, _, _, rfl, rfl, rfl, L, T, hH, by omega, ?_⟩
   rw [List.map_take, e, List.take_take, Nat.mul_one]; congr 1; omega
 refine ht_of_body (args := [.slice (some ⟨b, o, none⟩) bs.length c, .int .i64 (k : Int)]) func21 rfl ?_
 simp only [ntmps21, List.length_cons, List.length_nil, Nat.reduceAdd, Nat.reduceSub, List.replicate_succ, List.replicate_zero, List.cons_append, List.nil_append]
 refine sR ?_
 refine oA ?_
 try simp only [nfa, Nat.reduceAdd]
 refine hops_nil ?_
 try simp only [nfa, Nat.reduceAdd]
 refine sR ?_
 refine oA ?_
 try simp only [nfa, Nat.reduceAdd]
 refine hops_nil ?_
 try simp only [nfa, Nat.reduceAdd]
 refine sR ?_
 refine oM ?_
 refine oM ?_
 refine oM ?_
 try simp only [nfa, Nat.reduceAdd]
 refine hops_cons rfl (hop_lenS rfl ?_)
 try simp only [nfa, Nat.reduceAdd]
 refine oM ?_
 try simp only [nfa, Nat.reduceAdd]
 refine hops_cons rfl (hop_minI rfl rfl ?_)
 rw [show min (bs.length : Int) (k : Int) = ((min bs.length k : Nat) : Int) by omega]
 try simp only [nf, nf2]
 refine hops_cons rfl (hop_sliceS (a := 0) (c := min bs.length k) rfl (by simp [bd]) (by simp [bd, ev]) (by omega) (by omega) ?_)
 simp only [Nat.zero_mul, Nat.add_zero, ite_self, Nat.sub_zero]
 try simp only [nf, nf2]
 refine hops_cons rfl (hop_appendW (H0 := H0) (v := .slice none 0 0) (n := 0) (m := min bs.length k) (A := []) (ys := (bs.take k).map byv) rfl (OwnS.nil _ _ _) (Sub.refl _) (hsrc _) (one_map _) (by rfl) (by decide) (by omega) (by decide) ?_)
 intro sv2 H2 hown2 hsd2
 try simp only [nf, nf2]
 refine oA ?_
 try simp only [nfa, Nat.reduceAdd]
 refine hops_nil ?_
 try simp only [nfa, Nat.reduceAdd]
 refine hc_ret ?_
 try simp only [hng, hthen, hblock]
 apply hend_1 rfl ?es RV.tmp ?eR
 case es => exact Sub.refl _
 case eR =>
  have := own_new hown2 hsd2
  rw [show (bs.take k).length = 0 + min bs.length k by simp; omega]
  simpa using this
theorem ref_Few {H0 : Hp} {k : Nat} {bv : Value} {bs : List UInt8} (hd : dOkU H0 bv bs) (hk : k ≤ 1000) : HT prog 21 #[bv, .int .i64 (k : Int)] H0 (NewS H0 ((bs.take k).map byv) (bs.take k).length 5 1) := by
  rcases hd with ⟨rfl, h1, h2⟩ | ⟨b, o, c, L, rfl, hH, hl, e, hc⟩
  · obtain rfl := List.length_eq_zero_iff.1 h1
    exact Few_nil
  · rw [Nat.mul_one] at hl e
    exact Few_some hH hl e hc hk
end Go.Proofs.Try
