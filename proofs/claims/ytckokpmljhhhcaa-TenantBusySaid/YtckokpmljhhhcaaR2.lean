/- A part of the proofs over the tenants of a page cache: lemmas on what is known of the memory, and contracts of the Go functions. -/
import Derived.Test.YtckokpmljhhhcaaR1
set_option linter.unusedVariables false
set_option linter.unusedSimpArgs false
namespace Go.Proofs.Try
open Go Go.H
set_option linter.unusedSimpArgs false
set_option linter.unusedVariables false
set_option maxRecDepth 100000
set_option maxHeartbeats 2000000
theorem NewS.pop {H0 H1 : Hp} {A : List Value} {n sz : Nat} {t : TypeId} {v : Value} {b : Nat} {o o' : Obj} (h : NewS (H0.set b o) A n t sz v H1) (hb : H0 b = none) : NewS H0 A n t sz v (H1.set b o') := by
  obtain ⟨Hn, h1, h2, h3, h4⟩ := h
  have hn : Hn b = none := h3.get (Hp.set_same _ _ _)
  refine ⟨Hn, h1, Sub.over h2 hn _, h3.sub (.refl _) (Sub.set_new hb), ?_⟩
  intro c x hx
  have hc := Hp.ne_of hx hb
  rw [Hp.set_ne _ _ hc]
  exact h4 _ _ (by rw [Hp.set_ne _ _ hc]; exact hx)
theorem NewS.le {H0 H1 : Hp} {A : List Value} {n sz : Nat} {t : TypeId} {v : Value} (h : NewS H0 A n t sz v H1) : Sub H0 H1 := by obtain ⟨_, _, _, _, h⟩ := h; exact h
theorem NewS.own {H0 H1 : Hp} {A : List Value} {n sz : Nat} {t : TypeId} {v : Value} (h : NewS H0 A n t sz v H1) : OwnS H1 v n A t sz := by obtain ⟨_, h1, h2, _⟩ := h; exact h1.sub h2
/-- a frame of the document's -/
def rfc (f : Fr) : List Value := [.bool f.used, .bool f.dirty, .bool f.ref, .int .i64 f.pins, .int .i64 f.page, .string ⟨f.b.toArray⟩]
theorem reps32 : reps 32 (Value.int .u8 0).cells.toList = (List.replicate 32 (0 : UInt8)).map byv := by rfl
theorem one_rfc (f : Fr) : ∀ v ∈ rfc f, v.oneCell' = true := by
  intro v h; simp only [rfc, List.mem_cons, List.not_mem_nil, or_false] at h
  rcases h with rfl | rfl | rfl | rfl | rfl | rfl <;> rfl
theorem ref_Empty {H : Hp} :
    HT prog 45 #[] H (fun v H' => v = .agg (rfc Fr.zero).toArray ∧ H = H') := by
 refine ht_of_body (args := []) func45 rfl ?_
 simp only [ntmps45, List.length_cons, List.length_nil, Nat.reduceAdd, Nat.reduceSub, List.replicate_succ, List.replicate_zero, List.cons_append, List.nil_append]
 refine sR ?_
 refine hops_cons rfl (hop_alloc (zl := [.bool false, .bool false, .bool false, .int .i64 0, .int .i64 0, .string ⟨#[]⟩]) rfl ?_)
 intro b1 hb1
 have hb1' := hb1
 try simp only [Hp.set_none, Hp.del_none] at hb1'
 have hb1_n : H b1 = none := by first | exact hb1' | exact hb1'.2 | exact hb1'.2.2 | exact hb1'.2.2.2 | exact hb1'.2.2.2.2 | exact hb1'.2.2.2.2.2 | exact hb1'.2.2.2.2.2.2
 clear hb1'
 try simp only [nfa, Nat.reduceAdd]
 refine hops_nil ?_
 try simp only [nfa, Nat.reduceAdd]
 refine sR ?_
 refine hops_cons rfl (hop_makeSlice (n := 32) rfl rfl (by rfl) (by decide) (by decide) (by decide) ?_)
 intro b2 hb2
 have hb2' := hb2
 try simp only [Hp.set_none, Hp.del_none] at hb2'
 have hb2_n : H b2 = none := by first | exact hb2' | exact hb2'.2 | exact hb2'.2.2 | exact hb2'.2.2.2 | exact hb2'.2.2.2.2 | exact hb2'.2.2.2.2.2 | exact hb2'.2.2.2.2.2.2
 have hb2_b1 : b2 ≠ b1 := by first | exact hb2'.1 | exact hb2'.2.1 | exact hb2'.2.2.1 | exact hb2'.2.2.2.1 | exact hb2'.2.2.2.2.1 | exact hb2'.2.2.2.2.2.1
 clear hb2'
 rw [reps32]
 try simp only [nf, nf2]
 refine hops_cons rfl (hop_convStr (bs := List.replicate 32 0) rfl ⟨_, _, _, rfl⟩ (srcOk_own' (by (repeat' first | assumption | exact hS | exact Hp.one_get _ _ | refine hT (by first | assumption | exact Ne.symm ‹_›) ?_)) rfl) ?_)
 try simp only [nfa, Nat.reduceAdd]
 refine hops_cons rfl (hop_build (L := rfc Fr.zero) rfl ?_)
 try simp only [nfa, Nat.reduceAdd]
 refine hops_cons rfl (hop_storeA (n := 6) (vs := rfc Fr.zero) rfl rfl rfl (one_rfc _) (by (repeat' first | assumption | exact hS | exact Hp.one_get _ _ | refine hT (by first | assumption | exact Ne.symm ‹_›) ?_)) (by simp) (by decide) ?_)
 simp only [rfc]
 try simp only [nf, nf2]
 refine hops_nil ?_
 try simp only [nfa, Nat.reduceAdd]
 refine hc_ret ?_
 try simp only [hng, hthen, hblock]
 apply hend_1 rfl ?es (RV.cellW rfl (by (repeat' first | assumption | exact hS | exact Hp.one_get _ _ | refine hT (by first | assumption | exact Ne.symm ‹_›) ?_)) (by simp)) ?eR
 case eR =>
  exact ⟨rfl, rfl⟩
 case es => first | ((repeat' first | assumption | exact Sub.refl _ | refine Sub.over ?_ ‹_› _); done) | (intro _ _ h; simp only [Hp.set] at h ⊢; grind)
def zeros (n : Nat) : List Fr := List.replicate n Fr.zero
theorem zeros_succ (n : Nat) : flat rfc (zeros (n + 1)) = flat rfc (zeros n) ++ rfc Fr.zero := by simp [zeros, List.replicate_succ', flat]
theorem zeros_len (n : Nat) : (flat rfc (zeros n)).length = n * 6 := by rw [flat_length (n := 6) _ (fun _ _ => rfl)]; simp [zeros]
theorem ref_New14 {H0 : Hp} {n : Nat} (hn : n ≤ 1000) :
    HT prog 30 #[.int .i64 (n : Int)] H0 (fun v H' => ∃ fv, v = .agg #[fv, .int .i64 0] ∧ NewS H0 (flat rfc (zeros n)) n 111 6 fv H') := by
 refine ht_of_body (args := [.int .i64 (n : Int)]) func30 rfl ?_
 simp only [ntmps30, List.length_cons, List.length_nil, Nat.reduceAdd, Nat.reduceSub, List.replicate_succ, List.replicate_zero, List.cons_append, List.nil_append]
 refine sR ?_
 refine hops_cons rfl (hop_alloc (zl := [.slice none 0 0, .int .i64 0]) rfl ?_)
 intro b1 hb1
 have hb1' := hb1
 try simp only [Hp.set_none, Hp.del_none] at hb1'
 have hb1_n : H0 b1 = none := by first | exact hb1' | exact hb1'.2 | exact hb1'.2.2 | exact hb1'.2.2.2 | exact hb1'.2.2.2.2 | exact hb1'.2.2.2.2.2 | exact hb1'.2.2.2.2.2.2
 clear hb1'
 try simp only [nfa, Nat.reduceAdd]
 refine hops_nil ?_
 try simp only [nfa, Nat.reduceAdd]
 refine sR ?_
 refine hops_cons rfl (hop_alloc (zl := [.slice none 0 0, .int .i64 0]) rfl ?_)
 intro b2 hb2
 have hb2' := hb2
 try simp only [Hp.set_none, Hp.del_none] at hb2'
 have hb2_n : H0 b2 = none := by first | exact hb2' | exact hb2'.2 | exact hb2'.2.2 | exact hb2'.2.2.2 | exact hb2'.2.2.2.2 | exact hb2'.2.2.2.2.2 | exact hb2'.2.2.2.2.2.2
 have hb2_b1 : b2 ≠ b1 := by first | exact hb2'.1 | exact hb2'.2.1 | exact hb2'.2.2.1 | exact hb2'.2.2.2.1 | exact hb2'.2.2.2.2.1 | exact hb2'.2.2.2.2.2.1
 clear hb2'
 try simp only [nfa, Nat.reduceAdd]
 refine hops_nil ?_
 try simp only [nfa, Nat.reduceAdd]
 refine hc_seq ?_
 refine sR ?_
 refine oA ?_
 try simp only [nfa, Nat.reduceAdd]
 refine hops_nil ?_
 try simp only [nfa, Nat.reduceAdd]
 refine hc_block ?_
 refine hc_loop (fun nn l H => ∃ (x5 : Value) (x6 : Value) (x7 : Value) (x8 : Value) (x9 : Value) (x10 : Value) (x11 : Value) (x12 : Value) (x13 : Value) (x14 : Value) (x15 : Value) (k : Nat) (sv : Value), l = [_, _, _, _, .int .i64 (k : Int), x5, x6, x7, x8, x9, x10, x11, x12, x13, x14, x15, _] ∧ OwnS H sv k (flat rfc (zeros k)) 111 6 ∧ Sub H0 (H.drop sv) ∧ H0 b1 = none ∧ H0 b2 = none ∧ b2 ≠ b1 ∧ H b1 = some (row [.slice none 0 0, .int .i64 0] 46) ∧ H b2 = some (row [sv, .int .i64 0] 46) ∧ k ≤ n ∧ nn = n - k) (n) ⟨_, _, _, _, _, _, _, _, _, _, _, 0, .slice none 0 0, rfl, OwnS.nil _ _ _, by first | ((repeat' first | assumption | exact Sub.refl _ | refine Sub.over ?_ ‹_› _); done) | (intro _ _ h; simp only [Hp.set] at h ⊢; grind), hb1_n, hb2_n, hb2_b1, by (repeat' first | assumption | exact hS | exact Hp.one_get _ _ | refine hT (by first | assumption | exact Ne.symm ‹_›) ?_), by (repeat' first | assumption | exact hS | exact Hp.one_get _ _ | refine hT (by first | assumption | exact Ne.symm ‹_›) ?_), by omega, rfl⟩ ?_
 rintro nn l H ⟨x5, x6, x7, x8, x9, x10, x11, x12, x13, x14, x15, k, sv, rfl, hown, hsd, hb10, hb20, h21, hB1, hB2, hk, hnn⟩
 have hs1 := hsd.trans (Sub.drop H sv)
 have hsv1 := hown.one
 refine hc_seq ?_
 refine sR ?_
 refine oM ?_
 refine oM ?_
 try simp only [nfa, Nat.reduceAdd]
 refine hops_cons rfl (hop_bin rfl rfl rfl ?_)
 try simp only [nfa, Nat.reduceAdd]
 refine hops_nil ?_
 try simp only [nfa, Nat.reduceAdd]
 refine hc_cond rfl (fun hc0 => ?_) (fun hc0 => ?_)
 ·
  try simp at hc0
  refine hc_skip ?_
  try simp only [nfa, Nat.reduceAdd]
  refine hc_seq ?_
  refine hc_block ?_
  refine hc_draw (Hp.one b2 (row [sv, .int .i64 0] 46)) follows (by intros; simp [hng, hthen, hblock, hend]) ?_
  refine dT 0 rfl (by decide +kernel) rfl (Sub.one (by (repeat' first | assumption | exact hS | exact Hp.one_get _ _ | refine hT (by first | assumption | exact Ne.symm ‹_›) ?_))) (hop_fieldAddr rfl ?_)
  try simp only [nfa, Nat.reduceAdd]
  refine dT 1 rfl (by decide +kernel) rfl (Sub.one (by (repeat' first | assumption | exact hS | exact Hp.one_get _ _ | refine hT (by first | assumption | exact Ne.symm ‹_›) ?_))) (hop_load rfl (by (repeat' first | assumption | exact hS | exact Hp.one_get _ _ | refine hT (by first | assumption | exact Ne.symm ‹_›) ?_)) (by first | rfl | assumption | exact mid_get0 rfl | exact mid_get rfl | (simp; done)) ?_)
  try simp only [nfa, Nat.reduceAdd]
  refine hD_do 2 rfl (by decide +kernel) rfl (hop_call ?_)
  simp only [nfa, Nat.reduceAdd]
  refine HT.mono (ref_Empty) ?_
  rintro _ _ ⟨rfl, rfl⟩
  try simp only [nfa, Nat.reduceAdd]
  refine ⟨.inr (Sub.one (by (repeat' first | assumption | exact hS | exact Hp.one_get _ _ | refine hT (by first | assumption | exact Ne.symm ‹_›) ?_))), ?_⟩
  try simp only [nfa, Nat.reduceAdd]
  refine hD_do 3 rfl (by decide +kernel) rfl (hop_buildSlice (L := rfc Fr.zero) rfl (by decide) (by decide) rfl ?_)
  intro b3 hb3
  have hb3' := hb3
  try simp only [Hp.set_none, Hp.del_none] at hb3'
  have hb3_n : H b3 = none := by first | exact hb3' | exact hb3'.2 | exact hb3'.2.2 | exact hb3'.2.2.2 | exact hb3'.2.2.2.2 | exact hb3'.2.2.2.2.2 | exact hb3'.2.2.2.2.2.2
  have hb3_b1 : b3 ≠ b1 := (Hp.ne_of hB1 hb3_n).symm
  have hb3_b2 : b3 ≠ b2 := (Hp.ne_of hB2 hb3_n).symm
  have hb3_H0 : H0 b3 = none := Sub.unk (hs1) hb3_n
  clear hb3'
  try simp only [nf, nf2]
  refine ⟨.inr (Sub.one (by (repeat' first | assumption | exact hS | exact Hp.one_get _ _ | refine hT (by first | assumption | exact Ne.symm ‹_›) ?_))), ?_⟩
  try simp only [nfa, Nat.reduceAdd]
  refine hD_do 4 rfl (by decide +kernel) rfl (hop_appendW (H0 := _) (v := sv) (n := k) (m := 1) (A := flat rfc (zeros k)) (ys := rfc Fr.zero) rfl (by (repeat' first | exact hown | refine OwnS.upd ?_ (by (repeat' first | assumption | exact hS | exact Hp.one_get _ _ | refine hT (by first | assumption | exact Ne.symm ‹_›) ?_)) (by decide) | refine OwnS.new ?_ (by assumption))) (Sub.refl _) (srcOk_own' (t := 111) (by (repeat' first | assumption | exact hS | exact Hp.one_get _ _ | refine hT (by first | assumption | exact Ne.symm ‹_›) ?_)) rfl) (one_rfc _) (by rfl) (by decide) (by omega) (by decide) ?_)
  intro sv2 H2 hown2 hsd2
  try simp only [nf, nf2]
  have hsv2 := hown2.one
  have hs2 := hsd2.trans (Sub.drop H2 sv2)
  have H2_b1 := hs2 _ _ (OwnS.drop_get (n := k) (sz := 6) (A := flat rfc (zeros k)) (t := 111) (c := b1) (by (repeat' first | exact hown | refine OwnS.upd ?_ (by (repeat' first | assumption | exact hS | exact Hp.one_get _ _ | refine hT (by first | assumption | exact Ne.symm ‹_›) ?_)) (by decide) | refine OwnS.new ?_ (by assumption))) (by (repeat' first | assumption | exact hS | exact Hp.one_get _ _ | refine hT (by first | assumption | exact Ne.symm ‹_›) ?_)) (by decide))
  have H2_b2 := hs2 _ _ (OwnS.drop_get (n := k) (sz := 6) (A := flat rfc (zeros k)) (t := 111) (c := b2) (by (repeat' first | exact hown | refine OwnS.upd ?_ (by (repeat' first | assumption | exact hS | exact Hp.one_get _ _ | refine hT (by first | assumption | exact Ne.symm ‹_›) ?_)) (by decide) | refine OwnS.new ?_ (by assumption))) (by (repeat' first | assumption | exact hS | exact Hp.one_get _ _ | refine hT (by first | assumption | exact Ne.symm ‹_›) ?_)) (by decide))
  have hsdx : Sub H0 ((H.set b3 (row (rfc Fr.zero) 111)).drop sv) := Sub.over_drop hsd hb3_H0
  refine ⟨.inr (Sub.one (by (repeat' first | assumption | exact hS | exact Hp.one_get _ _ | refine hT (by first | assumption | exact Ne.symm ‹_›) ?_))), ?_⟩
  try simp only [nfa, Nat.reduceAdd]
  refine dT 5 rfl (by decide +kernel) rfl (Sub.one (by (repeat' first | assumption | exact hS | exact Hp.one_get _ _ | refine hT (by first | assumption | exact Ne.symm ‹_›) ?_))) (hop_fieldAddr rfl ?_)
  try simp only [nfa, Nat.reduceAdd]
  refine hD_do 6 rfl (by decide +kernel) rfl (hop_store rfl rfl (by first | rfl | assumption) (by (repeat' first | assumption | exact hS | exact Hp.one_get _ _ | refine hT (by first | assumption | exact Ne.symm ‹_›) ?_)) (by first | assumption | omega | (simp; done) | (simp; omega) | (simp [frc] <;> omega)) ?_)
  try simp only [nfa, Nat.reduceAdd]
  refine ⟨.inl (by decide +kernel), ?_⟩
  try simp only [nfa, Nat.reduceAdd]
  refine hD_done (by decide +kernel) ?_
  try simp only [nfa, Nat.reduceAdd]
  refine hc_region ?_
  refine oM ?_
  try simp only [nfa, Nat.reduceAdd]
  refine hops_cons rfl (hop_add rfl rfl (by omega) ?_)
  try simp only [nfa, Nat.reduceAdd]
  refine oA ?_
  try simp only [nfa, Nat.reduceAdd]
  refine hops_nil ?_
  try simp only [nfa, Nat.reduceAdd]
  refine ⟨n - (k + 1), _, by omega, Sub.refl _, _, _, _, _, _, _, _, _, _, _, _, k + 1, sv2, rfl, ?_⟩
  exact ⟨by rw [zeros_succ]; exact OwnS.upd hown2 H2_b2 (by decide), Sub.over_drop (hsdx.trans hsd2) hb20, hb10, hb20, h21, by rw [Hp.set_ne _ _ h21.symm]; exact H2_b1, Hp.set_same _ _ _, by omega, rfl⟩
 ·
  try simp at hc0
  refine hc_exit ?_
  simp only [hng, hthen, hblock, if_true]
  try simp only [nfa, Nat.reduceAdd]
  refine sR ?_
  refine hops_cons rfl (hop_loadA rfl (by (repeat' first | assumption | exact hS | exact Hp.one_get _ _ | refine hT (by first | assumption | exact Ne.symm ‹_›) ?_)) (by first | assumption | omega | (simp; done) | (simp; omega) | (simp [frc] <;> omega)) ?_)
  try simp only [nfa, Nat.reduceAdd]
  refine hops_cons rfl (hop_storeA rfl rfl (by rfl) (by first | assumption | (repeat' first | (intro _ h; cases h; done) | refine List.forall_mem_cons.2 ⟨by first | rfl | assumption, ?_⟩) | (simp [Value.oneCell']; done) | (simp [Value.oneCell', *]; done)) (by (repeat' first | assumption | exact hS | exact Hp.one_get _ _ | refine hT (by first | assumption | exact Ne.symm ‹_›) ?_)) (by first | assumption | omega | (simp; done) | (simp; omega) | (simp [frc] <;> omega)) (by decide) ?_)
  try simp only [nfa, Nat.reduceAdd]
  refine hops_nil ?_
  try simp only [nfa, Nat.reduceAdd]
  refine hc_ret ?_
  try simp only [hng, hthen, hblock]
  apply hend_1 rfl ?es (RV.cellW rfl (by (repeat' first | assumption | exact hS | exact Hp.one_get _ _ | refine hT (by first | assumption | exact Ne.symm ‹_›) ?_)) (by simp)) ?eR
  case es => exact Sub.refl _
  case eR =>
   obtain rfl : k = n := by omega
   refine ⟨sv, rfl, own_new (OwnS.upd hown hB1 (by decide)) (Sub.over_drop hsd hb10)⟩
theorem ref_New21 {H0 : Hp} {n : Nat} {d pg : Int} (hn : n ≤ 1000) :
    HT prog 20 #[.int .i64 (n : Int), .int .i64 d, .int .i64 pg] H0 (fun v H' => ∃ fv, v = .agg #[fv, .int .i64 0, .int .i64 0, .int .i64 0, .slice none 0 0, .int .i64 0, .slice none 0 0, .int .i64 d, .int .i64 pg, .slice none 0 0, .int .i64 0, .int .u64 0, .int .u64 0, .int .u64 0, .int .u64 0, .int .u64 0, .int .u64 0, .slice none 0 0] ∧ NewS H0 (flat rfc (zeros n)) n 111 6 fv H') := by
 refine ht_of_body (args := [.int .i64 (n : Int), .int .i64 d, .int .i64 pg]) func20 rfl ?_
 simp only [ntmps20, List.length_cons, List.length_nil, Nat.reduceAdd, Nat.reduceSub, List.replicate_succ, List.replicate_zero, List.cons_append, List.nil_append]
 refine sR ?_
 refine hops_cons rfl (hop_alloc (zl := [.slice none 0 0, .int .i64 0, .int .i64 0, .int .i64 0, .slice none 0 0, .int .i64 0, .slice none 0 0, .int .i64 0, .int .i64 0, .slice none 0 0, .int .i64 0, .int .u64 0, .int .u64 0, .int .u64 0, .int .u64 0, .int .u64 0, .int .u64 0, .slice none 0 0]) rfl ?_)
 intro b1 hb1
 have hb1' := hb1
 try simp only [Hp.set_none, Hp.del_none] at hb1'
 have hb1_n : H0 b1 = none := by first | exact hb1' | exact hb1'.2 | exact hb1'.2.2 | exact hb1'.2.2.2 | exact hb1'.2.2.2.2 | exact hb1'.2.2.2.2.2 | exact hb1'.2.2.2.2.2.2
 clear hb1'
 try simp only [nfa, Nat.reduceAdd]
 refine hops_nil ?_
 try simp only [nfa, Nat.reduceAdd]
 refine sR ?_
 refine oM ?_
 refine hops_cons rfl (hop_call ?_)
 simp only [nfa, Nat.reduceAdd]
 refine HT.mono (ref_New14 hn) ?_
 rintro _ H1 ⟨fv, rfl, hN⟩
 have ho1 := hN.own.one
 have sN := hN.le
 try simp only [nf, nf2]
 have H1_b1 := sN b1 _ (by (repeat' first | assumption | exact hS | exact Hp.one_get _ _ | refine hT (by first | assumption | exact Ne.symm ‹_›) ?_))
 refine hops_cons rfl (hop_build (by simp only [fillL, wr, Value.cells, List.map_cons, List.map_nil, nf, nf2]; rfl) ?_)
 try simp only [nfa, Nat.reduceAdd]
 refine oM ?_
 refine oM ?_
 try simp only [nfa, Nat.reduceAdd]
 refine hops_cons rfl (hop_build (by simp only [fillL, wr, Value.cells, List.map_cons, List.map_nil, nf, nf2]; rfl) ?_)
 try simp only [nfa, Nat.reduceAdd]
 refine hops_cons rfl (hop_storeA rfl rfl (by rfl) (by first | assumption | (repeat' first | (intro _ h; cases h; done) | refine List.forall_mem_cons.2 ⟨by first | rfl | assumption, ?_⟩) | (simp [Value.oneCell']; done) | (simp [Value.oneCell', *]; done)) (by (repeat' first | assumption | exact hS | exact Hp.one_get _ _ | refine hT (by first | assumption | exact Ne.symm ‹_›) ?_)) (by first | assumption | omega | (simp; done) | (simp; omega) | (simp [frc] <;> omega)) (by decide) ?_)
 try simp only [nfa, Nat.reduceAdd]
 refine hops_nil ?_
 try simp only [nfa, Nat.reduceAdd]
 refine hc_ret ?_
 try simp only [hng, hthen, hblock]
 apply hend_1 rfl ?es (RV.cellW rfl (by (repeat' first | assumption | exact hS | exact Hp.one_get _ _ | refine hT (by first | assumption | exact Ne.symm ‹_›) ?_)) (by simp)) ?eR
 case es => exact Sub.refl _
 case eR =>
  exact ⟨fv, rfl, hN.pop hb1_n⟩
end Go.Proofs.Try
