/- A part of the proofs over the tenants of a page cache: lemmas on what is known of the memory, and contracts of the Go functions. -/
import Derived.Test.YtckokpmljhhhcaaF3
set_option linter.unusedVariables false
set_option linter.unusedSimpArgs false
namespace Go.Proofs.Try
open Go Go.H
set_option linter.unusedSimpArgs false
set_option linter.unusedVariables false
set_option maxRecDepth 100000
set_option maxHeartbeats 2000000
/-- a slice that holds these bytes -/
def dOk (H : Hp) (v : Value) (bs : List UInt8) : Prop := (v = .slice none 0 0 ∧ bs = []) ∨ ∃ b o c L t, v = .slice (some ⟨b, o, none⟩) bs.length c ∧ H b = some (row L t) ∧ o + bs.length ≤ L.length ∧ bs.map byv = (L.drop o).take bs.length
theorem dOk.src {H : Hp} {v : Value} {bs : List UInt8} (h : dOk H v bs) : srcOk H 1 bs.length v (bs.map byv) := by
  rcases h with ⟨rfl, rfl⟩ | ⟨b, o, c, L, t, rfl, hH, hl, e⟩
  · exact srcOk_nil
  · exact .inl ⟨_, _, _, rfl, rfl, rfl, L, t, hH, by omega, by rw [Nat.mul_one]; exact e⟩
theorem dOk.sub {H H' : Hp} {v : Value} {bs : List UInt8} (h : dOk H v bs) (s : Sub H H') : dOk H' v bs := by
  rcases h with h | ⟨b, o, c, L, t, rfl, hH, hl, e⟩
  · exact .inl h
  · exact .inr ⟨b, o, c, L, t, rfl, s _ _ hH, hl, e⟩
theorem dOk.nil {H : Hp} : dOk H (.slice none 0 0) [] := .inl ⟨rfl, rfl⟩
theorem dOk.slice {H : Hp} {v : Value} {bs : List UInt8} (h : dOk H v bs) : ∃ a n c, v = .slice a n c := by
  rcases h with ⟨rfl, rfl⟩ | ⟨b, o, c, L, t, rfl, hH, hl, e⟩ <;> exact ⟨_, _, _, rfl⟩
theorem dOk.len {H : Hp} {v : Value} {bs : List UInt8} (h : dOk H v bs) : ∃ a c, v = .slice a bs.length c := by
  rcases h with ⟨rfl, rfl⟩ | ⟨b, o, c, L, t, rfl, hH, hl, e⟩ <;> exact ⟨_, _, rfl⟩
theorem dOk.one {H : Hp} {v : Value} {bs : List UInt8} (h : dOk H v bs) : v.oneCell' = true := by
  rcases h with ⟨rfl, rfl⟩ | ⟨b, o, c, L, t, rfl, hH, hl, e⟩ <;> rfl
theorem set_del {H : Hp} {b : Nat} {o : Obj} (h : H b = none) : Sub H ((H.set b o).del b) := by
  intro c x hc
  have hne := Hp.ne_of hc h
  rw [Hp.del_ne _ hne, Hp.set_ne _ _ hne]; exact hc
theorem toList_loop (bs : ByteArray) (i : Nat) (r : List UInt8) : ByteArray.toList.loop bs i r = r.reverse ++ bs.data.toList.drop i := by
  unfold ByteArray.toList.loop
  split
  · rename_i h
    rw [toList_loop bs (i + 1) (bs.get! i :: r)]
    have hi : i < bs.data.size := h
    have e : bs.data.toList.drop i = bs.get! i :: bs.data.toList.drop (i + 1) := by
      rw [List.drop_eq_getElem_cons (by simpa using hi)]
      congr 1
      simp only [ByteArray.get!]
      rw [getElem!_pos bs.data i hi]; simp
    rw [e]; simp
  · rename_i h
    have hi : bs.data.size ≤ i := Nat.le_of_not_lt h
    simp [List.drop_eq_nil_of_le, hi]
    exact hi
termination_by bs.size - i
theorem toList_mk (l : List UInt8) : (⟨l.toArray⟩ : ByteArray).toList = l := by
  unfold ByteArray.toList; rw [toList_loop]; simp
theorem bytes_Equal {H : Hp} {x y : Value} {bs cs : List UInt8} (hx : dOk H x bs) (hy : dOk H y cs) :
    HT prog 47 #[x, y] H (fun v H' => v = .bool (bs == cs) ∧ H = H') := by
 refine ht_of_body (args := [x, y]) func47 rfl ?_
 simp only [ntmps47, List.length_cons, List.length_nil, Nat.reduceAdd, Nat.reduceSub, List.replicate_succ, List.replicate_zero, List.cons_append, List.nil_append]
 refine sR ?_
 refine oA ?_
 try simp only [nf, Nat.reduceAdd]
 refine hops_nil ?_
 try simp only [nf, Nat.reduceAdd]
 refine sR ?_
 refine oM ?_
 try simp only [nf, Nat.reduceAdd]
 refine hops_cons rfl (hop_convStr (bs := bs) rfl hx.slice hx.src ?_)
 try simp only [nf, Nat.reduceAdd]
 refine oM ?_
 try simp only [nf, Nat.reduceAdd]
 refine hops_cons rfl (hop_convStr (bs := cs) rfl hy.slice hy.src ?_)
 try simp only [nf, Nat.reduceAdd]
 refine hops_cons rfl (hop_str rfl rfl rfl ?_)
 try simp only [nf, Nat.reduceAdd]
 refine oA ?_
 try simp only [nf, Nat.reduceAdd]
 refine hops_nil ?_
 try simp only [nf, Nat.reduceAdd]
 refine hc_ret ?_
 try simp only [hng, hthen, hblock]
 refine hend_tmp rfl ?_
 exact ⟨by rw [toList_mk, toList_mk]; rfl, rfl⟩
theorem bytes_Clone_nil {H : Hp} :
    HT prog 35 #[.slice none 0 0] H (RetS H [] 0 5 1) := by
 refine ht_of_body (args := [.slice none 0 0]) func35 rfl ?_
 simp only [ntmps35, List.length_cons, List.length_nil, Nat.reduceAdd, Nat.reduceSub, List.replicate_succ, List.replicate_zero, List.cons_append, List.nil_append]
 refine sR ?_
 refine oA ?_
 try simp only [nf, Nat.reduceAdd]
 refine hops_nil ?_
 try simp only [nf, Nat.reduceAdd]
 refine hc_seq ?_
 refine sR ?_
 refine oM ?_
 try simp only [nf, Nat.reduceAdd]
 refine hops_cons rfl (hop_eqSliceNil rfl rfl ?_)
 try simp only [nf, Nat.reduceAdd]
 refine hops_nil ?_
 try simp only [nf, Nat.reduceAdd]
 refine hc_T rfl (by first | rfl | assumption | (simp; done) | (simp; omega) | (simp [*]; done)) ?_
 refine sR ?_
 refine oA ?_
 try simp only [nf, Nat.reduceAdd]
 refine hops_nil ?_
 try simp only [nf, Nat.reduceAdd]
 refine hc_ret ?_
 try simp only [hng, hthen, hblock]
 refine hend_tmp rfl ?_
 exact RetS.nil _ _ _
theorem bytes_Clone_some {H : Hp} {a : Addr} {n c : Nat} {ys : List Value} (hx : srcOk H 1 n (.slice (some a) n c) ys) (hv : ∀ v ∈ ys, v.oneCell' = true) (hn : n ≤ 16777216) :
    HT prog 35 #[.slice (some a) n c] H (RetS H ys n 5 1) := by
 refine ht_of_body (args := [.slice (some a) n c]) func35 rfl ?_
 simp only [ntmps35, List.length_cons, List.length_nil, Nat.reduceAdd, Nat.reduceSub, List.replicate_succ, List.replicate_zero, List.cons_append, List.nil_append]
 refine sR ?_
 refine oA ?_
 try simp only [nf, Nat.reduceAdd]
 refine hops_nil ?_
 try simp only [nf, Nat.reduceAdd]
 refine hc_seq ?_
 refine sR ?_
 refine oM ?_
 try simp only [nf, Nat.reduceAdd]
 refine hops_cons rfl (hop_eqSliceNil rfl rfl ?_)
 try simp only [nf, Nat.reduceAdd]
 refine hops_nil ?_
 try simp only [nf, Nat.reduceAdd]
 refine hc_F rfl (by first | rfl | assumption | (simp; done) | (simp; omega) | (simp [*]; done)) ?_
 refine hc_skip ?_
 try simp only [nf, Nat.reduceAdd]
 refine sR ?_
 refine hops_cons rfl (hop_buildSlice (L := []) rfl (by decide) (by decide) rfl ?_)
 intro bs hbs
 have s1 := Sub.set_new (o := row [] 5) hbs
 try simp only [nf]
 refine oM ?_
 try simp only [nf, Nat.reduceAdd]
 refine hops_cons rfl (hop_append (A := []) (B := []) (n := 0) (cap := 0) (m := n) (ys := ys) rfl (Hp.set_same _ _ _) rfl rfl (by omega) (hx.new hbs) hv rfl (by decide) (by omega) (by decide) ?_)
 intro b' cap' J' hb' hcap' hJ'
 obtain ⟨fin1, fin2⟩ := app_fin (t := 5) (H0 := H) (sv := .slice (some ⟨bs, 0, none⟩) 0 0) (n := 0) (m := n) (A := []) (ys := ys) (sz := 1) (set_del hbs) (Sub.refl _) hb' hcap' hJ' rfl (srcOk_len hx)
 try simp only [nf]
 refine oA ?_
 try simp only [nf, Nat.reduceAdd]
 refine hops_nil ?_
 try simp only [nf, Nat.reduceAdd]
 refine hc_ret ?_
 try simp only [hng, hthen, hblock]
 refine hend_tmp_sub rfl fin1 ?_
 simpa using fin2
theorem bytes_Clone {H : Hp} {x : Value} {bs : List UInt8} (hx : dOk H x bs) (hn : bs.length ≤ 16777216) : HT prog 35 #[x] H (RetS H (bs.map byv) bs.length 5 1) := by
  have hs := hx.src
  rcases hx with ⟨rfl, rfl⟩ | ⟨b, o, c, L, t, rfl, hH, hl, e⟩
  · exact bytes_Clone_nil
  · exact bytes_Clone_some hs (one_map bs) hn
def namesL : List Value := [.string ⟨#[]⟩, .string ⟨#[102, 101, 116, 99, 104]⟩, .string ⟨#[114, 101, 97, 100]⟩, .string ⟨#[119, 114, 105, 116, 101]⟩, .string ⟨#[117, 110, 112, 105, 110]⟩, .string ⟨#[102, 108, 117, 115, 104]⟩, .string ⟨#[102, 108, 117, 115, 104, 97, 108, 108]⟩, .string ⟨#[100, 105, 115, 99, 97, 114, 100]⟩, .string ⟨#[115, 116, 97, 116, 115]⟩]
def nameOf (op : Int) : List UInt8 := if op < 1 ∨ 9 ≤ op then [] else [1]
theorem hop_allocNm {l : List Value} {H : Hp} {K : Value → Hp → Prop} {d : Option Tmp} {ty : TypeId} {pos : String} {aft : Array Edge} {g : Option (Nat × Bool)} (h : ∀ b, H b = none → K (.pointer (some ⟨b, 0, none⟩)) (H.set b (row (reps 9 [.string ⟨#[]⟩]) 113))) : hop false prog ⟨d, .alloc 113, ty, pos, aft, g⟩ l H K :=
  hop_alloc (zl := reps 9 [.string ⟨#[]⟩]) rfl h
theorem namesL_len : namesL.length = 9 := rfl
theorem namesL_get {k : Nat} (hk : k < 9) : ∃ s : List UInt8, namesL[k]? = some (.string ⟨s.toArray⟩) ∧ (s = [] ↔ k = 0) := by
  rcases k with _ | _ | _ | _ | _ | _ | _ | _ | _ | k
  any_goals exact ⟨_, rfl, by decide⟩
  omega
theorem req_names {H : Hp} :
    HT prog 46 #[] H (fun v H' => v = .agg namesL.toArray ∧ H = H') := by
 refine ht_of_body (args := []) func46 rfl ?_
 simp only [ntmps46, List.length_cons, List.length_nil, Nat.reduceAdd, Nat.reduceSub, List.replicate_succ, List.replicate_zero, List.cons_append, List.nil_append]
 refine sR ?_
 refine hops_cons rfl (hop_allocNm ?_)
 intro r hr
 try simp only [nf]
 refine hops_nil ?_
 try simp only [nf, Nat.reduceAdd]
 refine sR ?_
 refine hops_cons rfl (hop_buildA (L := namesL) rfl ?_)
 try simp only [nf, Nat.reduceAdd]
 refine hops_cons rfl (hop_storeA (n := 9) (vs := namesL) rfl rfl rfl (by decide) (Hp.set_same _ _ _) (by decide) (by decide) ?_)
 try simp only [nf, Nat.reduceAdd]
 refine hops_nil ?_
 try simp only [nf, Nat.reduceAdd]
 refine hc_ret ?_
 try simp only [hng, hthen, hblock]
 rw [wr_all (L := reps 9 [.string ⟨#[]⟩]) (vs := namesL) rfl]
 exact hend_mem (H' := H) (Sub.set_new hr) (hw_res_cell (L := namesL) rfl rfl (Hp.set_same _ _ _) rfl rfl) ⟨rfl, rfl⟩
theorem req_Name {H : Hp} {op : Int} :
    HT prog 31 #[.int .i64 op] H (fun v H' => ∃ s : List UInt8, v = .string ⟨s.toArray⟩ ∧ (s = [] ↔ op < 1 ∨ 9 ≤ op) ∧ H = H') := by
 refine ht_of_body (args := [.int .i64 op]) func31 rfl ?_
 simp only [ntmps31, List.length_cons, List.length_nil, Nat.reduceAdd, Nat.reduceSub, List.replicate_succ, List.replicate_zero, List.cons_append, List.nil_append]
 refine sR ?_
 refine oA ?_
 try simp only [nf, Nat.reduceAdd]
 refine hops_nil ?_
 try simp only [nf, Nat.reduceAdd]
 refine hc_seq ?_
 refine sR ?_
 refine oM ?_
 try simp only [nf, Nat.reduceAdd]
 refine hops_cons rfl (hop_bin rfl rfl rfl ?_)
 try simp only [nf, Nat.reduceAdd]
 refine oM ?_
 try simp only [nf, Nat.reduceAdd]
 first
  | refine hops_off' rfl rfl (by rfl) ?_
  | refine hops_un rfl rfl ?_
  | (refine hops_on' rfl rfl (by rfl) (hop_move ?_))
  | (refine hops_gp (v := ?vg1) rfl rfl (fun hgp => ?hv1) ?hh1; case hv1 => ((try simp only [hgp, if_true, ev, List.getD_cons_zero, List.getD_cons_succ]); refine hop_move ?_; rfl))
 try simp only [nf, Nat.reduceAdd]
 first
  | refine hops_off' rfl rfl (by rfl) ?_
  | refine hops_un rfl rfl ?_
  | (refine hops_on' rfl rfl (by rfl) (hop_bin rfl rfl rfl ?_))
  | (refine hops_gp (v := ?vg2) rfl rfl (fun hgp => ?hv2) ?hh2; case hv2 => ((try simp only [hgp, if_true, ev, List.getD_cons_zero, List.getD_cons_succ]); refine hop_bin rfl rfl rfl ?_; rfl))
 try simp only [nf, Nat.reduceAdd]
 refine hops_cons rfl (hop_pick rfl ?_)
 try simp only [nf, Nat.reduceAdd]
 refine hops_nil ?_
 try simp only [nf, Nat.reduceAdd]
 refine hc_cond rfl (fun hc0 => ?_) (fun hc0 => ?_)
 ·
  try simp at hc0
  refine sR ?_
  refine oA ?_
  try simp only [nf, Nat.reduceAdd]
  refine hops_nil ?_
  try simp only [nf, Nat.reduceAdd]
  refine hc_ret ?_
  try simp only [hng, hthen, hblock]
  refine hend_tmp rfl ?_
  refine ⟨[], rfl, ?_, rfl⟩
  simp
  omega
 ·
  try simp at hc0
  refine hc_skip ?_
  try simp only [nf, Nat.reduceAdd]
  refine sR ?_
  refine hops_cons rfl (hop_call ?_)
  simp only [nf, Nat.reduceAdd]
  refine HT.mono (req_names) ?_
  rintro _ _ ⟨rfl, rfl⟩
  try simp only [nf, Nat.reduceAdd]
  refine oM ?_
  try simp only [nf, Nat.reduceAdd]
  obtain ⟨k, rfl⟩ : ∃ k : Nat, op = k := ⟨op.toNat, by omega⟩
  obtain ⟨s, hs, hs0⟩ := namesL_get (k := k) (by omega)
  refine hops_cons rfl (hop_indexA (i := (k : Int)) (cs := namesL) rfl rfl (by omega) (by omega) (by rw [Nat.mul_one]; exact hs) ?_)
  try simp only [nf]
  refine oA ?_
  try simp only [nf, Nat.reduceAdd]
  refine hops_nil ?_
  try simp only [nf, Nat.reduceAdd]
  refine hc_ret ?_
  try simp only [hng, hthen, hblock]
  refine hend_tmp rfl ?_
  exact ⟨s, rfl, by rw [hs0]; omega, rfl⟩
def namedF : List Nat := [49, 48, 50, 51, 48, 48, 49, 48, 49]
def namedL : List Value := namedF.map fun f => .func (.func f) #[] #[]
theorem hop_allocNf {l : List Value} {H : Hp} {K : Value → Hp → Prop} {d : Option Tmp} {ty : TypeId} {pos : String} {aft : Array Edge} {g : Option (Nat × Bool)} (h : ∀ b, H b = none → K (.pointer (some ⟨b, 0, none⟩)) (H.set b (row (reps 9 [.nilFunc]) 97))) : hop false prog ⟨d, .alloc 97, ty, pos, aft, g⟩ l H K :=
  hop_alloc (zl := reps 9 [.nilFunc]) rfl h
def namedR (r : Rq) : Rq := match r.op.toNat with
  | 1 => ⟨r.op, r.page, 0, 0, .slice none 0 0⟩
  | 2 => ⟨r.op, r.page, r.off, r.len, .slice none 0 0⟩
  | 3 => ⟨r.op, r.page, r.off, 0, r.dv⟩
  | 4 => ⟨r.op, r.page, 0, 0, .slice none 0 0⟩
  | 5 => ⟨r.op, r.page, 0, 0, .slice none 0 0⟩
  | 7 => ⟨r.op, r.page, 0, 0, .slice none 0 0⟩
  | _ => ⟨r.op, 0, 0, 0, .slice none 0 0⟩
theorem one_rqc {r : Rq} (h : r.ok) : ∀ v ∈ rqc r, v.oneCell' = true := by
  intro v hv; simp only [rqc, List.mem_cons, List.not_mem_nil, or_false] at hv
  rcases hv with rfl | rfl | rfl | rfl | rfl <;> first | rfl | exact h
theorem req_named {H : Hp} :
    HT prog 33 #[] H (fun v H' => v = .agg namedL.toArray ∧ H = H') := by
 refine ht_of_body (args := []) func33 rfl ?_
 simp only [ntmps33, List.length_cons, List.length_nil, Nat.reduceAdd, Nat.reduceSub, List.replicate_succ, List.replicate_zero, List.cons_append, List.nil_append]
 refine sR ?_
 refine hops_cons rfl (hop_allocNf ?_)
 intro r hr
 try simp only [nf]
 refine hops_nil ?_
 try simp only [nf, Nat.reduceAdd]
 refine sR ?_
 refine oA ?_
 try simp only [nf, Nat.reduceAdd]
 refine hops_nil ?_
 try simp only [nf, Nat.reduceAdd]
 refine sR ?_
 refine oA ?_
 try simp only [nf, Nat.reduceAdd]
 refine hops_nil ?_
 try simp only [nf, Nat.reduceAdd]
 refine sR ?_
 refine oA ?_
 try simp only [nf, Nat.reduceAdd]
 refine hops_nil ?_
 try simp only [nf, Nat.reduceAdd]
 refine sR ?_
 refine oA ?_
 try simp only [nf, Nat.reduceAdd]
 refine hops_nil ?_
 try simp only [nf, Nat.reduceAdd]
 refine sR ?_
 refine oM ?_
 try simp only [nf, Nat.reduceAdd]
 refine oM ?_
 try simp only [nf, Nat.reduceAdd]
 refine oM ?_
 try simp only [nf, Nat.reduceAdd]
 refine oM ?_
 try simp only [nf, Nat.reduceAdd]
 refine oM ?_
 try simp only [nf, Nat.reduceAdd]
 refine oM ?_
 try simp only [nf, Nat.reduceAdd]
 refine oM ?_
 try simp only [nf, Nat.reduceAdd]
 refine oM ?_
 try simp only [nf, Nat.reduceAdd]
 refine oM ?_
 try simp only [nf, Nat.reduceAdd]
 refine hops_cons rfl (hop_buildA (L := namedL) rfl ?_)
 try simp only [nf, Nat.reduceAdd]
 refine hops_cons rfl (hop_storeA (n := 9) (vs := namedL) rfl rfl rfl (by decide) (Hp.set_same _ _ _) (by decide) (by decide) ?_)
 try simp only [nf, Nat.reduceAdd]
 refine hops_nil ?_
 try simp only [nf, Nat.reduceAdd]
 refine hc_ret ?_
 try simp only [hng, hthen, hblock]
 rw [wr_all (L := reps 9 [.nilFunc]) (vs := namedL) rfl]
 exact hend_mem (H' := H) (Sub.set_new hr) (hw_res_cell (L := namedL) rfl rfl (Hp.set_same _ _ _) rfl rfl) ⟨rfl, rfl⟩
theorem req_named_none {H : Hp} {r : Rq} (hr : r.ok) (hs : ∃ a n c, r.dv = .slice a n c) :
    HT prog 49 #[.agg (rqc r).toArray] H (fun v H' => v = .agg (rqc ⟨r.op, 0, 0, 0, .slice none 0 0⟩).toArray ∧ H = H') := by
 refine ht_of_body (args := [.agg (rqc r).toArray]) func49 rfl ?_
 simp only [ntmps49, List.length_cons, List.length_nil, Nat.reduceAdd, Nat.reduceSub, List.replicate_succ, List.replicate_zero, List.cons_append, List.nil_append]
 refine sR ?_
 refine hops_cons rfl (hop_box (zl := rqc r) rfl rfl ?_)
 intro jb hjb
 have sub := Sub.set_new (o := row (rqc r) 41) hjb
 try simp only [nf]
 refine hops_cons rfl (hop_alloc (zl := rqc Rq.zero) rfl ?_)
 intro rb hrb
 obtain ⟨hrj, hr0⟩ := Hp.set_none.1 hrb
 have hjr := Ne.symm hrj
 have sub2 := sub.trans (Sub.set_new (o := row (rqc Rq.zero) 41) hrb)
 try simp only [nf]
 refine hops_nil ?_
 try simp only [nf, Nat.reduceAdd]
 refine sR ?_
 refine oF rfl ?_
 try simp only [nf, Nat.reduceAdd]
 refine hops_cons rfl (hop_load rfl (by solve_by_elim [hS, hN, hT, hT']) (by first | rfl | assumption | exact mid_get0 rfl | exact mid_get rfl | (simp; done)) ?_)
 try simp only [nf, Nat.reduceAdd]
 refine hops_cons rfl (hop_build (L := rqc ⟨r.op, 0, 0, 0, .slice none 0 0⟩) rfl ?_)
 try simp only [nf, Nat.reduceAdd]
 refine hops_cons rfl (hop_storeA (n := 5) (vs := rqc ⟨r.op, 0, 0, 0, .slice none 0 0⟩) rfl rfl rfl (one_rqc rfl) (by solve_by_elim [hS, hN, hT, hT']) (by decide) (by decide) ?_)
 try simp only [nf, Nat.reduceAdd]
 refine hops_nil ?_
 try simp only [nf, Nat.reduceAdd]
 refine hc_ret ?_
 try simp only [hng, hthen, hblock]
 rw [wr_all (L := rqc Rq.zero) (vs := rqc ⟨r.op, 0, 0, 0, .slice none 0 0⟩) rfl]
 exact hend_mem (H' := H) (Sub.over sub hr0 _) (hw_res_cell (L := rqc ⟨r.op, 0, 0, 0, .slice none 0 0⟩) rfl rfl (Hp.set_same _ _ _) rfl rfl) ⟨rfl, rfl⟩
theorem req_named_page {H : Hp} {r : Rq} (hr : r.ok) (hs : ∃ a n c, r.dv = .slice a n c) :
    HT prog 48 #[.agg (rqc r).toArray] H (fun v H' => v = .agg (rqc ⟨r.op, r.page, 0, 0, .slice none 0 0⟩).toArray ∧ H = H') := by
 refine ht_of_body (args := [.agg (rqc r).toArray]) func48 rfl ?_
 simp only [ntmps48, List.length_cons, List.length_nil, Nat.reduceAdd, Nat.reduceSub, List.replicate_succ, List.replicate_zero, List.cons_append, List.nil_append]
 refine sR ?_
 refine hops_cons rfl (hop_box (zl := rqc r) rfl rfl ?_)
 intro jb hjb
 have sub := Sub.set_new (o := row (rqc r) 41) hjb
 try simp only [nf]
 refine hops_cons rfl (hop_alloc (zl := rqc Rq.zero) rfl ?_)
 intro rb hrb
 obtain ⟨hrj, hr0⟩ := Hp.set_none.1 hrb
 have hjr := Ne.symm hrj
 have sub2 := sub.trans (Sub.set_new (o := row (rqc Rq.zero) 41) hrb)
 try simp only [nf]
 refine hops_nil ?_
 try simp only [nf, Nat.reduceAdd]
 refine sR ?_
 refine oF rfl ?_
 try simp only [nf, Nat.reduceAdd]
 refine hops_cons rfl (hop_load rfl (by solve_by_elim [hS, hN, hT, hT']) (by first | rfl | assumption | exact mid_get0 rfl | exact mid_get rfl | (simp; done)) ?_)
 try simp only [nf, Nat.reduceAdd]
 refine oF rfl ?_
 try simp only [nf, Nat.reduceAdd]
 refine hops_cons rfl (hop_load rfl (by solve_by_elim [hS, hN, hT, hT']) (by first | rfl | assumption | exact mid_get0 rfl | exact mid_get rfl | (simp; done)) ?_)
 try simp only [nf, Nat.reduceAdd]
 refine hops_cons rfl (hop_build (L := rqc ⟨r.op, r.page, 0, 0, .slice none 0 0⟩) rfl ?_)
 try simp only [nf, Nat.reduceAdd]
 refine hops_cons rfl (hop_storeA (n := 5) (vs := rqc ⟨r.op, r.page, 0, 0, .slice none 0 0⟩) rfl rfl rfl (one_rqc rfl) (by solve_by_elim [hS, hN, hT, hT']) (by decide) (by decide) ?_)
 try simp only [nf, Nat.reduceAdd]
 refine hops_nil ?_
 try simp only [nf, Nat.reduceAdd]
 refine hc_ret ?_
 try simp only [hng, hthen, hblock]
 rw [wr_all (L := rqc Rq.zero) (vs := rqc ⟨r.op, r.page, 0, 0, .slice none 0 0⟩) rfl]
 exact hend_mem (H' := H) (Sub.over sub hr0 _) (hw_res_cell (L := rqc ⟨r.op, r.page, 0, 0, .slice none 0 0⟩) rfl rfl (Hp.set_same _ _ _) rfl rfl) ⟨rfl, rfl⟩
theorem req_named_read {H : Hp} {r : Rq} (hr : r.ok) (hs : ∃ a n c, r.dv = .slice a n c) :
    HT prog 50 #[.agg (rqc r).toArray] H (fun v H' => v = .agg (rqc ⟨r.op, r.page, r.off, r.len, .slice none 0 0⟩).toArray ∧ H = H') := by
 refine ht_of_body (args := [.agg (rqc r).toArray]) func50 rfl ?_
 simp only [ntmps50, List.length_cons, List.length_nil, Nat.reduceAdd, Nat.reduceSub, List.replicate_succ, List.replicate_zero, List.cons_append, List.nil_append]
 refine sR ?_
 refine hops_cons rfl (hop_box (zl := rqc r) rfl rfl ?_)
 intro jb hjb
 have sub := Sub.set_new (o := row (rqc r) 41) hjb
 try simp only [nf]
 refine hops_cons rfl (hop_alloc (zl := rqc Rq.zero) rfl ?_)
 intro rb hrb
 obtain ⟨hrj, hr0⟩ := Hp.set_none.1 hrb
 have hjr := Ne.symm hrj
 have sub2 := sub.trans (Sub.set_new (o := row (rqc Rq.zero) 41) hrb)
 try simp only [nf]
 refine hops_nil ?_
 try simp only [nf, Nat.reduceAdd]
 refine sR ?_
 refine oF rfl ?_
 try simp only [nf, Nat.reduceAdd]
 refine hops_cons rfl (hop_load rfl (by solve_by_elim [hS, hN, hT, hT']) (by first | rfl | assumption | exact mid_get0 rfl | exact mid_get rfl | (simp; done)) ?_)
 try simp only [nf, Nat.reduceAdd]
 refine oF rfl ?_
 try simp only [nf, Nat.reduceAdd]
 refine hops_cons rfl (hop_load rfl (by solve_by_elim [hS, hN, hT, hT']) (by first | rfl | assumption | exact mid_get0 rfl | exact mid_get rfl | (simp; done)) ?_)
 try simp only [nf, Nat.reduceAdd]
 refine oF rfl ?_
 try simp only [nf, Nat.reduceAdd]
 refine hops_cons rfl (hop_load rfl (by solve_by_elim [hS, hN, hT, hT']) (by first | rfl | assumption | exact mid_get0 rfl | exact mid_get rfl | (simp; done)) ?_)
 try simp only [nf, Nat.reduceAdd]
 refine oF rfl ?_
 try simp only [nf, Nat.reduceAdd]
 refine hops_cons rfl (hop_load rfl (by solve_by_elim [hS, hN, hT, hT']) (by first | rfl | assumption | exact mid_get0 rfl | exact mid_get rfl | (simp; done)) ?_)
 try simp only [nf, Nat.reduceAdd]
 refine hops_cons rfl (hop_build (L := rqc ⟨r.op, r.page, r.off, r.len, .slice none 0 0⟩) rfl ?_)
 try simp only [nf, Nat.reduceAdd]
 refine hops_cons rfl (hop_storeA (n := 5) (vs := rqc ⟨r.op, r.page, r.off, r.len, .slice none 0 0⟩) rfl rfl rfl (one_rqc rfl) (by solve_by_elim [hS, hN, hT, hT']) (by decide) (by decide) ?_)
 try simp only [nf, Nat.reduceAdd]
 refine hops_nil ?_
 try simp only [nf, Nat.reduceAdd]
 refine hc_ret ?_
 try simp only [hng, hthen, hblock]
 rw [wr_all (L := rqc Rq.zero) (vs := rqc ⟨r.op, r.page, r.off, r.len, .slice none 0 0⟩) rfl]
 exact hend_mem (H' := H) (Sub.over sub hr0 _) (hw_res_cell (L := rqc ⟨r.op, r.page, r.off, r.len, .slice none 0 0⟩) rfl rfl (Hp.set_same _ _ _) rfl rfl) ⟨rfl, rfl⟩
theorem req_named_write {H : Hp} {r : Rq} (hr : r.ok) (hs : ∃ a n c, r.dv = .slice a n c) :
    HT prog 51 #[.agg (rqc r).toArray] H (fun v H' => v = .agg (rqc ⟨r.op, r.page, r.off, 0, r.dv⟩).toArray ∧ H = H') := by
 obtain ⟨op, page, off, len, dv⟩ := r
 obtain ⟨a, n, c, rfl⟩ := hs
 refine ht_of_body (args := [.agg (rqc ⟨op, page, off, len, .slice a n c⟩).toArray]) func51 rfl ?_
 simp only [ntmps51, List.length_cons, List.length_nil, Nat.reduceAdd, Nat.reduceSub, List.replicate_succ, List.replicate_zero, List.cons_append, List.nil_append]
 refine sR ?_
 refine hops_cons rfl (hop_box (zl := rqc ⟨op, page, off, len, .slice a n c⟩) rfl rfl ?_)
 intro jb hjb
 have sub := Sub.set_new (o := row (rqc ⟨op, page, off, len, .slice a n c⟩) 41) hjb
 try simp only [nf]
 refine hops_cons rfl (hop_alloc (zl := rqc Rq.zero) rfl ?_)
 intro rb hrb
 obtain ⟨hrj, hr0⟩ := Hp.set_none.1 hrb
 have hjr := Ne.symm hrj
 have sub2 := sub.trans (Sub.set_new (o := row (rqc Rq.zero) 41) hrb)
 try simp only [nf]
 refine hops_nil ?_
 try simp only [nf, Nat.reduceAdd]
 refine sR ?_
 refine oF rfl ?_
 try simp only [nf, Nat.reduceAdd]
 refine hops_cons rfl (hop_load rfl (by solve_by_elim [hS, hN, hT, hT']) (by first | rfl | assumption | exact mid_get0 rfl | exact mid_get rfl | (simp; done)) ?_)
 try simp only [nf, Nat.reduceAdd]
 refine oF rfl ?_
 try simp only [nf, Nat.reduceAdd]
 refine hops_cons rfl (hop_load rfl (by solve_by_elim [hS, hN, hT, hT']) (by first | rfl | assumption | exact mid_get0 rfl | exact mid_get rfl | (simp; done)) ?_)
 try simp only [nf, Nat.reduceAdd]
 refine oF rfl ?_
 try simp only [nf, Nat.reduceAdd]
 refine hops_cons rfl (hop_load rfl (by solve_by_elim [hS, hN, hT, hT']) (by first | rfl | assumption | exact mid_get0 rfl | exact mid_get rfl | (simp; done)) ?_)
 try simp only [nf, Nat.reduceAdd]
 refine oF rfl ?_
 try simp only [nf, Nat.reduceAdd]
 refine hops_cons rfl (hop_load rfl (by solve_by_elim [hS, hN, hT, hT']) (by first | rfl | assumption | exact mid_get0 rfl | exact mid_get rfl | (simp; done)) ?_)
 try simp only [nf, Nat.reduceAdd]
 refine hops_cons rfl (hop_build (L := rqc ⟨op, page, off, 0, .slice a n c⟩) rfl ?_)
 try simp only [nf, Nat.reduceAdd]
 refine hops_cons rfl (hop_storeA (n := 5) (vs := rqc ⟨op, page, off, 0, .slice a n c⟩) rfl rfl rfl (one_rqc rfl) (by solve_by_elim [hS, hN, hT, hT']) (by decide) (by decide) ?_)
 try simp only [nf, Nat.reduceAdd]
 refine hops_nil ?_
 try simp only [nf, Nat.reduceAdd]
 refine hc_ret ?_
 try simp only [hng, hthen, hblock]
 rw [wr_all (L := rqc Rq.zero) (vs := rqc ⟨op, page, off, 0, .slice a n c⟩) rfl]
 exact hend_mem (H' := H) (Sub.over sub hr0 _) (hw_res_cell (L := rqc ⟨op, page, off, 0, .slice a n c⟩) rfl rfl (Hp.set_same _ _ _) rfl rfl) ⟨rfl, rfl⟩
def sameR (r : Rq) (bs : List UInt8) (q : Rq) (cs : List UInt8) : Bool := r.op == q.op && r.page == q.page && r.off == q.off && r.len == q.len && bs == cs
theorem req_Same {H : Hp} {r q : Rq} {bs cs : List UInt8} (hr : dOk H r.dv bs) (hq : dOk H q.dv cs) :
    HT prog 32 #[.agg (rqc r).toArray, .agg (rqc q).toArray] H (fun v H' => v = .bool (sameR r bs q cs) ∧ H = H') := by
 refine ht_of_body (args := [.agg (rqc r).toArray, .agg (rqc q).toArray]) func32 rfl ?_
 simp only [ntmps32, List.length_cons, List.length_nil, Nat.reduceAdd, Nat.reduceSub, List.replicate_succ, List.replicate_zero, List.cons_append, List.nil_append]
 refine sR ?_
 refine hops_cons rfl (hop_box (zl := rqc r) rfl rfl ?_)
 intro ja hja
 have sub := Sub.set_new (o := row (rqc r) 41) hja
 try simp only [nf]
 refine hops_cons rfl (hop_box (zl := rqc q) rfl rfl ?_)
 intro jb hjb
 obtain ⟨hba, hjb0⟩ := Hp.set_none.1 hjb
 have hab := Ne.symm hba
 have sub2 := sub.trans (Sub.set_new (o := row (rqc q) 41) hjb)
 try simp only [nf]
 refine oA ?_
 try simp only [nf, Nat.reduceAdd]
 refine hops_nil ?_
 try simp only [nf, Nat.reduceAdd]
 refine sR ?_
 refine oF rfl ?_
 try simp only [nf, Nat.reduceAdd]
 refine hops_cons rfl (hop_load rfl (by solve_by_elim [hS, hN, hT, hT']) rfl ?_)
 try simp only [nf, Nat.reduceAdd]
 refine oF rfl ?_
 try simp only [nf, Nat.reduceAdd]
 refine hops_cons rfl (hop_load rfl (by solve_by_elim [hS, hN, hT, hT']) rfl ?_)
 try simp only [nf, Nat.reduceAdd]
 refine hops_cons rfl (hop_bin rfl rfl rfl ?_)
 try simp only [nf, Nat.reduceAdd]
 refine oM ?_
 try simp only [nf, Nat.reduceAdd]
 first
  | refine hops_off' rfl rfl (by rfl) ?_
  | refine hops_un rfl rfl ?_
  | (refine hops_on' rfl rfl (by rfl) (hop_fieldAddr rfl ?_))
  | (refine hops_gp (v := ?vg1) rfl rfl (fun hgp => ?hv1) ?hh1; case hv1 => ((try simp only [hgp, if_true, ev, List.getD_cons_zero, List.getD_cons_succ]); refine hop_fieldAddr rfl ?_; rfl))
 try simp only [nf, Nat.reduceAdd]
 first
  | refine hops_off' rfl rfl (by rfl) ?_
  | refine hops_un rfl rfl ?_
  | (refine hops_on' rfl rfl (by rfl) (hop_load rfl (by solve_by_elim [hS, hN, hT, hT']) rfl ?_))
  | (refine hops_gp (v := ?vg2) rfl rfl (fun hgp => ?hv2) ?hh2; case hv2 => ((try simp only [hgp, if_true, ev, List.getD_cons_zero, List.getD_cons_succ]); refine hop_load rfl (by solve_by_elim [hS, hN, hT, hT']) rfl ?_; rfl))
 try simp only [nf, Nat.reduceAdd]
 first
  | refine hops_off' rfl rfl (by rfl) ?_
  | refine hops_un rfl rfl ?_
  | (refine hops_on' rfl rfl (by rfl) (hop_fieldAddr rfl ?_))
  | (refine hops_gp (v := ?vg3) rfl rfl (fun hgp => ?hv3) ?hh3; case hv3 => ((try simp only [hgp, if_true, ev, List.getD_cons_zero, List.getD_cons_succ]); refine hop_fieldAddr rfl ?_; rfl))
 try simp only [nf, Nat.reduceAdd]
 first
  | refine hops_off' rfl rfl (by rfl) ?_
  | refine hops_un rfl rfl ?_
  | (refine hops_on' rfl rfl (by rfl) (hop_load rfl (by solve_by_elim [hS, hN, hT, hT']) rfl ?_))
  | (refine hops_gp (v := ?vg4) rfl rfl (fun hgp => ?hv4) ?hh4; case hv4 => ((try simp only [hgp, if_true, ev, List.getD_cons_zero, List.getD_cons_succ]); refine hop_load rfl (by solve_by_elim [hS, hN, hT, hT']) rfl ?_; rfl))
 try simp only [nf, Nat.reduceAdd]
 first
  | refine hops_off' rfl rfl (by rfl) ?_
  | refine hops_un rfl rfl ?_
  | (refine hops_on' rfl rfl (by rfl) (hop_bin rfl rfl rfl ?_))
  | (refine hops_gp (v := ?vg5) rfl rfl (fun hgp => ?hv5) ?hh5; case hv5 => ((try simp only [hgp, if_true, ev, List.getD_cons_zero, List.getD_cons_succ]); refine hop_bin rfl rfl rfl ?_; rfl))
 try simp only [nf, Nat.reduceAdd]
 refine hops_cons rfl (hop_pick rfl ?_)
 try simp only [nf, Nat.reduceAdd]
 refine oM ?_
 try simp only [nf, Nat.reduceAdd]
 first
  | refine hops_off' rfl rfl (by rfl) ?_
  | refine hops_un rfl rfl ?_
  | (refine hops_on' rfl rfl (by rfl) (hop_fieldAddr rfl ?_))
  | (refine hops_gp (v := ?vg6) rfl rfl (fun hgp => ?hv6) ?hh6; case hv6 => ((try simp only [hgp, if_true, ev, List.getD_cons_zero, List.getD_cons_succ]); refine hop_fieldAddr rfl ?_; rfl))
 try simp only [nf, Nat.reduceAdd]
 first
  | refine hops_off' rfl rfl (by rfl) ?_
  | refine hops_un rfl rfl ?_
  | (refine hops_on' rfl rfl (by rfl) (hop_load rfl (by solve_by_elim [hS, hN, hT, hT']) rfl ?_))
  | (refine hops_gp (v := ?vg7) rfl rfl (fun hgp => ?hv7) ?hh7; case hv7 => ((try simp only [hgp, if_true, ev, List.getD_cons_zero, List.getD_cons_succ]); refine hop_load rfl (by solve_by_elim [hS, hN, hT, hT']) rfl ?_; rfl))
 try simp only [nf, Nat.reduceAdd]
 first
  | refine hops_off' rfl rfl (by rfl) ?_
  | refine hops_un rfl rfl ?_
  | (refine hops_on' rfl rfl (by rfl) (hop_fieldAddr rfl ?_))
  | (refine hops_gp (v := ?vg8) rfl rfl (fun hgp => ?hv8) ?hh8; case hv8 => ((try simp only [hgp, if_true, ev, List.getD_cons_zero, List.getD_cons_succ]); refine hop_fieldAddr rfl ?_; rfl))
 try simp only [nf, Nat.reduceAdd]
 first
  | refine hops_off' rfl rfl (by rfl) ?_
  | refine hops_un rfl rfl ?_
  | (refine hops_on' rfl rfl (by rfl) (hop_load rfl (by solve_by_elim [hS, hN, hT, hT']) rfl ?_))
  | (refine hops_gp (v := ?vg9) rfl rfl (fun hgp => ?hv9) ?hh9; case hv9 => ((try simp only [hgp, if_true, ev, List.getD_cons_zero, List.getD_cons_succ]); refine hop_load rfl (by solve_by_elim [hS, hN, hT, hT']) rfl ?_; rfl))
 try simp only [nf, Nat.reduceAdd]
 first
  | refine hops_off' rfl rfl (by rfl) ?_
  | refine hops_un rfl rfl ?_
  | (refine hops_on' rfl rfl (by rfl) (hop_bin rfl rfl rfl ?_))
  | (refine hops_gp (v := ?vg10) rfl rfl (fun hgp => ?hv10) ?hh10; case hv10 => ((try simp only [hgp, if_true, ev, List.getD_cons_zero, List.getD_cons_succ]); refine hop_bin rfl rfl rfl ?_; rfl))
 try simp only [nf, Nat.reduceAdd]
 refine hops_cons rfl (hop_pick rfl ?_)
 try simp only [nf, Nat.reduceAdd]
 refine oM ?_
 try simp only [nf, Nat.reduceAdd]
 first
  | refine hops_off' rfl rfl (by rfl) ?_
  | refine hops_un rfl rfl ?_
  | (refine hops_on' rfl rfl (by rfl) (hop_fieldAddr rfl ?_))
  | (refine hops_gp (v := ?vg11) rfl rfl (fun hgp => ?hv11) ?hh11; case hv11 => ((try simp only [hgp, if_true, ev, List.getD_cons_zero, List.getD_cons_succ]); refine hop_fieldAddr rfl ?_; rfl))
 try simp only [nf, Nat.reduceAdd]
 first
  | refine hops_off' rfl rfl (by rfl) ?_
  | refine hops_un rfl rfl ?_
  | (refine hops_on' rfl rfl (by rfl) (hop_load rfl (by solve_by_elim [hS, hN, hT, hT']) rfl ?_))
  | (refine hops_gp (v := ?vg12) rfl rfl (fun hgp => ?hv12) ?hh12; case hv12 => ((try simp only [hgp, if_true, ev, List.getD_cons_zero, List.getD_cons_succ]); refine hop_load rfl (by solve_by_elim [hS, hN, hT, hT']) rfl ?_; rfl))
 try simp only [nf, Nat.reduceAdd]
 first
  | refine hops_off' rfl rfl (by rfl) ?_
  | refine hops_un rfl rfl ?_
  | (refine hops_on' rfl rfl (by rfl) (hop_fieldAddr rfl ?_))
  | (refine hops_gp (v := ?vg13) rfl rfl (fun hgp => ?hv13) ?hh13; case hv13 => ((try simp only [hgp, if_true, ev, List.getD_cons_zero, List.getD_cons_succ]); refine hop_fieldAddr rfl ?_; rfl))
 try simp only [nf, Nat.reduceAdd]
 first
  | refine hops_off' rfl rfl (by rfl) ?_
  | refine hops_un rfl rfl ?_
  | (refine hops_on' rfl rfl (by rfl) (hop_load rfl (by solve_by_elim [hS, hN, hT, hT']) rfl ?_))
  | (refine hops_gp (v := ?vg14) rfl rfl (fun hgp => ?hv14) ?hh14; case hv14 => ((try simp only [hgp, if_true, ev, List.getD_cons_zero, List.getD_cons_succ]); refine hop_load rfl (by solve_by_elim [hS, hN, hT, hT']) rfl ?_; rfl))
 try simp only [nf, Nat.reduceAdd]
 first
  | refine hops_off' rfl rfl (by rfl) ?_
  | refine hops_un rfl rfl ?_
  | (refine hops_on' rfl rfl (by rfl) (hop_bin rfl rfl rfl ?_))
  | (refine hops_gp (v := ?vg15) rfl rfl (fun hgp => ?hv15) ?hh15; case hv15 => ((try simp only [hgp, if_true, ev, List.getD_cons_zero, List.getD_cons_succ]); refine hop_bin rfl rfl rfl ?_; rfl))
 try simp only [nf, Nat.reduceAdd]
 refine hops_cons rfl (hop_pick rfl ?_)
 try simp only [nf, Nat.reduceAdd]
 refine oM ?_
 try simp only [nf, Nat.reduceAdd]
 first
  | refine hops_off' rfl rfl (by rfl) ?_
  | refine hops_un rfl rfl ?_
  | (refine hops_on' rfl rfl (by rfl) (hop_fieldAddr rfl ?_))
  | (refine hops_gp (v := ?vg16) rfl rfl (fun hgp => ?hv16) ?hh16; case hv16 => ((try simp only [hgp, if_true, ev, List.getD_cons_zero, List.getD_cons_succ]); refine hop_fieldAddr rfl ?_; rfl))
 try simp only [nf, Nat.reduceAdd]
 first
  | refine hops_off' rfl rfl (by rfl) ?_
  | refine hops_un rfl rfl ?_
  | (refine hops_on' rfl rfl (by rfl) (hop_load rfl (by solve_by_elim [hS, hN, hT, hT']) rfl ?_))
  | (refine hops_gp (v := ?vg17) rfl rfl (fun hgp => ?hv17) ?hh17; case hv17 => ((try simp only [hgp, if_true, ev, List.getD_cons_zero, List.getD_cons_succ]); refine hop_load rfl (by solve_by_elim [hS, hN, hT, hT']) rfl ?_; rfl))
 try simp only [nf, Nat.reduceAdd]
 first
  | refine hops_off' rfl rfl (by rfl) ?_
  | refine hops_un rfl rfl ?_
  | (refine hops_on' rfl rfl (by rfl) (hop_fieldAddr rfl ?_))
  | (refine hops_gp (v := ?vg18) rfl rfl (fun hgp => ?hv18) ?hh18; case hv18 => ((try simp only [hgp, if_true, ev, List.getD_cons_zero, List.getD_cons_succ]); refine hop_fieldAddr rfl ?_; rfl))
 try simp only [nf, Nat.reduceAdd]
 first
  | refine hops_off' rfl rfl (by rfl) ?_
  | refine hops_un rfl rfl ?_
  | (refine hops_on' rfl rfl (by rfl) (hop_load rfl (by solve_by_elim [hS, hN, hT, hT']) rfl ?_))
  | (refine hops_gp (v := ?vg19) rfl rfl (fun hgp => ?hv19) ?hh19; case hv19 => ((try simp only [hgp, if_true, ev, List.getD_cons_zero, List.getD_cons_succ]); refine hop_load rfl (by solve_by_elim [hS, hN, hT, hT']) rfl ?_; rfl))
 try simp only [nf, Nat.reduceAdd]
 refine hops_split rfl rfl (fun hg20 => ?_) (fun hg20 => ?_)
 ·
  have hg20' := hg20
  try simp at hg20'
  refine (hop_call ?_)
  simp only [nf, Nat.reduceAdd, hg20, Bool.not_false, Bool.not_true, Bool.false_eq_true, if_false]
  refine HT.mono (bytes_Equal (hr.sub sub2) (hq.sub sub2)) ?_
  rintro _ _ ⟨rfl, rfl⟩
  try simp only [nf, Nat.reduceAdd, hg20, Bool.not_false, Bool.not_true, Bool.false_eq_true, if_false]
  refine hops_cons rfl (hop_pick rfl ?_)
  try simp only [nf, Nat.reduceAdd, hg20, Bool.not_false, Bool.not_true, Bool.false_eq_true, if_false]
  refine oA ?_
  try simp only [nf, Nat.reduceAdd, hg20, Bool.not_false, Bool.not_true, Bool.false_eq_true, if_false]
  refine hops_nil ?_
  try simp only [nf, Nat.reduceAdd, hg20, Bool.not_false, Bool.not_true, Bool.false_eq_true, if_false]
  refine hc_ret ?_
  try simp only [hng, hthen, hblock]
  refine hend_tmp_sub rfl sub2 ⟨?_, rfl⟩
  simp_all [sameR]
 ·
  have hg20' := hg20
  try simp at hg20'
  try simp only [nf, Nat.reduceAdd, hg20, Bool.not_false, Bool.not_true, Bool.false_eq_true, if_false]
  refine hops_cons rfl (hop_pick rfl ?_)
  try simp only [nf, Nat.reduceAdd, hg20, Bool.not_false, Bool.not_true, Bool.false_eq_true, if_false]
  refine oA ?_
  try simp only [nf, Nat.reduceAdd, hg20, Bool.not_false, Bool.not_true, Bool.false_eq_true, if_false]
  refine hops_nil ?_
  try simp only [nf, Nat.reduceAdd, hg20, Bool.not_false, Bool.not_true, Bool.false_eq_true, if_false]
  refine hc_ret ?_
  try simp only [hng, hthen, hblock]
  refine hend_tmp_sub rfl sub2 ⟨?_, rfl⟩
  simp_all [sameR]
def namedD (r : Rq) (bs : List UInt8) : List UInt8 := if r.op = 3 then bs else []
theorem named_dOk {H : Hp} {r : Rq} {bs : List UInt8} (h : dOk H r.dv bs) : dOk H (namedR r).dv (namedD r bs) := by
  unfold namedR namedD
  by_cases h3 : r.op = 3
  · rw [if_pos h3, h3]; exact h
  · rw [if_neg h3]
    split <;> first | exact dOk.nil | omega
theorem named_all {k : Nat} (h1 : 1 ≤ k) (h9 : k < 9) : ∃ f, namedL[k]? = some (.func (.func f) #[] #[]) ∧ Ent prog f ∧ ∀ (H : Hp) (r : Rq), r.op = k → r.ok → (∃ a n c, r.dv = .slice a n c) →
    HT prog f #[.agg (rqc r).toArray] H (fun v H' => v = .agg (rqc (namedR r)).toArray ∧ H = H') := by
  rcases k with _ | _ | _ | _ | _ | _ | _ | _ | _ | k
  · omega
  all_goals try omega
  all_goals refine ⟨_, rfl, inferInstance, fun H r ho hk hs => ?_⟩
  all_goals obtain ⟨op, page, off, len, dv⟩ := r
  all_goals simp only at ho
  all_goals subst ho
  all_goals first | exact req_named_none hk hs | exact req_named_page hk hs | exact req_named_read hk hs | exact req_named_write hk hs
theorem eqs (s : List UInt8) : ((⟨s.toArray⟩ : ByteArray).toList == (⟨#[]⟩ : ByteArray).toList) = (s == []) := by
  rw [toList_mk, show (⟨#[]⟩ : ByteArray) = ⟨([] : List UInt8).toArray⟩ from rfl, toList_mk]
theorem take_rqc (r : Rq) : (rqc r).take 5 = rqc r := rfl
def checkE (pages : Int) (r : Rq) (bs : List UInt8) : Int :=
  if r.op < 1 ∨ 9 ≤ r.op ∨ sameR r bs (namedR r) (namedD r bs) = false then 2
  else if r.op ≠ 6 ∧ r.op ≠ 8 ∧ (r.page < 0 ∨ pages ≤ r.page) then 4
  else if r.off < 0 ∨ 32 < r.off ∨ r.len < 0 ∨ 32 - r.off < r.len ∨ 32 - r.off < bs.length then 4 else 0
theorem req_Check_no {H : Hp} {op page off len pages : Int} {a : Option Addr} {c : Nat} {bs : List UInt8} (hd : dOk H (.slice a bs.length c) bs) (ho : op < 1 ∨ 9 ≤ op) :
    HT prog 23 #[.agg (rqc ⟨op, page, off, len, .slice a bs.length c⟩).toArray, .int .i64 pages] H (fun v H' => v = .int .i64 2 ∧ H = H') := by
 refine ht_of_body (args := [.agg (rqc ⟨op, page, off, len, .slice a bs.length c⟩).toArray, .int .i64 pages]) func23 rfl ?_
 simp only [ntmps23, List.length_cons, List.length_nil, Nat.reduceAdd, Nat.reduceSub, List.replicate_succ, List.replicate_zero, List.cons_append, List.nil_append]
 refine sR ?_
 refine hops_cons rfl (hop_box (zl := rqc ⟨op, page, off, len, .slice a bs.length c⟩) rfl rfl ?_)
 intro jb hjb
 have sub := Sub.set_new (o := row (rqc ⟨op, page, off, len, .slice a bs.length c⟩) 41) hjb
 try simp only [nf]
 refine oA ?_
 try simp only [nf, Nat.reduceAdd]
 refine hops_nil ?_
 try simp only [nf, Nat.reduceAdd]
 refine hc_seq ?_
 refine hc_seq ?_
 refine hc_draw0 follows (by intros; simp [hng, hthen, hblock, hend]) ?_
 refine dT 0 rfl (by decide +kernel) rfl (by first | exact Sub.refl _ | exact Sub.del _ _ | exact Sub.del_set _ _ _) (hop_fieldAddr rfl ?_)
 try simp only [nf, Nat.reduceAdd]
 refine dT 1 rfl (by decide +kernel) rfl (by first | exact Sub.refl _ | exact Sub.del _ _ | exact Sub.del_set _ _ _) (hop_load rfl (by solve_by_elim [hS, hN, hT, hT']) rfl ?_)
 try simp only [nf, Nat.reduceAdd]
 refine hD_do 2 rfl (by decide +kernel) rfl (hop_call ?_)
 simp only [nf, Nat.reduceAdd]
 refine HT.mono req_Name ?_
 rintro _ _ ⟨s, rfl, hs0, rfl⟩
 have hb : ((⟨s.toArray⟩ : ByteArray).toList == (⟨#[]⟩ : ByteArray).toList) = true := by rw [eqs, hs0.2 ho]; rfl
 try simp only [nf]
 refine ⟨.inr (by first | exact Sub.refl _ | exact Sub.del _ _ | exact Sub.del_set _ _ _), ?_⟩
 try simp only [nf, Nat.reduceAdd]
 refine dT 3 rfl (by decide +kernel) rfl (by first | exact Sub.refl _ | exact Sub.del _ _ | exact Sub.del_set _ _ _) (hop_str rfl rfl rfl ?_)
 rw [hb]
 try simp only [nf]
 refine dT 4 rfl (by decide +kernel) rfl (by first | exact Sub.refl _ | exact Sub.del _ _ | exact Sub.del_set _ _ _) (hop_move ?_)
 try simp only [nf, Nat.reduceAdd]
 refine dF 5 rfl (by decide +kernel) rfl (by first | rfl | (simp [yv, yielded, *]; done)) (by first | exact Sub.refl _ | exact Sub.del _ _ | exact Sub.del_set _ _ _) ?_
 refine dF 7 rfl (by decide +kernel) rfl (by first | rfl | (simp [yv, yielded, *]; done)) (by first | exact Sub.refl _ | exact Sub.del _ _ | exact Sub.del_set _ _ _) ?_
 refine dF 8 rfl (by decide +kernel) rfl (by first | rfl | (simp [yv, yielded, *]; done)) (by first | exact Sub.refl _ | exact Sub.del _ _ | exact Sub.del_set _ _ _) ?_
 refine dF 10 rfl (by decide +kernel) rfl (by first | rfl | (simp [yv, yielded, *]; done)) (by first | exact Sub.refl _ | exact Sub.del _ _ | exact Sub.del_set _ _ _) ?_
 refine hD_do_off 6 rfl (by decide +kernel) rfl rfl (by first | rfl | assumption | (simp; done) | (simp; omega) | (simp [*]; done)) (.inr (by first | exact Sub.refl _ | exact Sub.del _ _ | exact Sub.del_set _ _ _)) ?_
 try simp only [nf, Nat.reduceAdd]
 refine dF 9 rfl (by decide +kernel) rfl (by first | rfl | (simp [yv, yielded, *]; done)) (by first | exact Sub.refl _ | exact Sub.del _ _ | exact Sub.del_set _ _ _) ?_
 refine hD_do_off 11 rfl (by decide +kernel) rfl rfl (by first | rfl | assumption | (simp; done) | (simp; omega) | (simp [*]; done)) (.inr (by first | exact Sub.refl _ | exact Sub.del _ _ | exact Sub.del_set _ _ _)) ?_
 try simp only [nf, Nat.reduceAdd]
 refine hD_do_off 12 rfl (by decide +kernel) rfl rfl (by first | rfl | assumption | (simp; done) | (simp; omega) | (simp [*]; done)) (.inr (by first | exact Sub.refl _ | exact Sub.del _ _ | exact Sub.del_set _ _ _)) ?_
 try simp only [nf, Nat.reduceAdd]
 refine dF 13 rfl (by decide +kernel) rfl (by first | rfl | (simp [yv, yielded, *]; done)) (by first | exact Sub.refl _ | exact Sub.del _ _ | exact Sub.del_set _ _ _) ?_
 refine dT 14 rfl (by decide +kernel) rfl (by first | exact Sub.refl _ | exact Sub.del _ _ | exact Sub.del_set _ _ _) (hop_pick rfl ?_)
 try simp only [nf, Nat.reduceAdd]
 refine hD_done (by decide +kernel) ?_
 try simp only [nf, Nat.reduceAdd]
 refine hc_T rfl (by first | rfl | assumption | (simp; done) | (simp; omega) | (simp [*]; done)) ?_
 refine sR ?_
 refine oA ?_
 try simp only [nf, Nat.reduceAdd]
 refine hops_nil ?_
 try simp only [nf, Nat.reduceAdd]
 refine hc_ret ?_
 try simp only [hng, hthen, hblock]
 exact hend_tmp_sub rfl sub ⟨rfl, rfl⟩
theorem req_Check_a {H : Hp} {op page off len pages : Int} {a : Option Addr} {c : Nat} {bs : List UInt8} (hd : dOk H (.slice a bs.length c) bs) (hk : op = 6 ∨ op = 8) (ho : 1 ≤ op) (ho9 : op < 9) :
    HT prog 23 #[.agg (rqc ⟨op, page, off, len, .slice a bs.length c⟩).toArray, .int .i64 pages] H (fun v H' => v = .int .i64 (checkE pages ⟨op, page, off, len, .slice a bs.length c⟩ bs) ∧ H = H') := by
 obtain ⟨k, rfl⟩ : ∃ k : Nat, op = k := ⟨op.toNat, by omega⟩
 obtain ⟨fz, hfz, hent, hft⟩ := named_all (k := k) (by omega) (by omega)
 have hd2 := named_dOk (r := ⟨(k : Int), page, off, len, .slice a bs.length c⟩) hd
 have h68 : (((k : Int) != 6) && ((k : Int) != 8)) = false := by simp; omega
 refine ht_of_body (args := [.agg (rqc ⟨(k : Int), page, off, len, .slice a bs.length c⟩).toArray, .int .i64 pages]) func23 rfl ?_
 simp only [ntmps23, List.length_cons, List.length_nil, Nat.reduceAdd, Nat.reduceSub, List.replicate_succ, List.replicate_zero, List.cons_append, List.nil_append]
 refine sR ?_
 refine hops_cons rfl (hop_box (zl := rqc ⟨(k : Int), page, off, len, .slice a bs.length c⟩) rfl rfl ?_)
 intro jb hjb
 have sub := Sub.set_new (o := row (rqc ⟨(k : Int), page, off, len, .slice a bs.length c⟩) 41) hjb
 try simp only [nf]
 refine oA ?_
 try simp only [nf, Nat.reduceAdd, List.drop_zero, take_rqc, h68]
 refine hops_nil ?_
 try simp only [nf, Nat.reduceAdd, List.drop_zero, take_rqc, h68]
 refine hc_seq ?_
 refine hc_seq ?_
 refine hc_draw0 follows (by intros; simp [hng, hthen, hblock, hend]) ?_
 refine dT 0 rfl (by decide +kernel) rfl (by first | exact Sub.refl _ | exact Sub.del _ _ | exact Sub.del_set _ _ _) (hop_fieldAddr rfl ?_)
 try simp only [nf, Nat.reduceAdd, List.drop_zero, take_rqc, h68]
 refine dT 1 rfl (by decide +kernel) rfl (by first | exact Sub.refl _ | exact Sub.del _ _ | exact Sub.del_set _ _ _) (hop_load rfl (by solve_by_elim [hS, hN, hT, hT']) rfl ?_)
 try simp only [nf, Nat.reduceAdd, List.drop_zero, take_rqc, h68]
 refine hD_do 2 rfl (by decide +kernel) rfl (hop_call ?_)
 simp only [nf, Nat.reduceAdd, List.drop_zero, take_rqc, h68]
 refine HT.mono req_Name ?_
 rintro _ _ ⟨s, rfl, hs0, rfl⟩
 have hb : ((⟨s.toArray⟩ : ByteArray).toList == (⟨#[]⟩ : ByteArray).toList) = false := by rw [eqs]; cases s with | nil => exact absurd (hs0.1 rfl) (by omega) | cons _ _ => rfl
 try simp only [nf]
 refine ⟨.inr (by first | exact Sub.refl _ | exact Sub.del _ _ | exact Sub.del_set _ _ _), ?_⟩
 try simp only [nf, Nat.reduceAdd, List.drop_zero, take_rqc, h68]
 refine dT 3 rfl (by decide +kernel) rfl (by first | exact Sub.refl _ | exact Sub.del _ _ | exact Sub.del_set _ _ _) (hop_str rfl rfl rfl ?_)
 rw [hb]
 try simp only [nf]
 refine dT 4 rfl (by decide +kernel) rfl (by first | exact Sub.refl _ | exact Sub.del _ _ | exact Sub.del_set _ _ _) (hop_move ?_)
 try simp only [nf, Nat.reduceAdd, List.drop_zero, take_rqc, h68]
 refine dN 5 rfl (by decide +kernel) rfl (by first | rfl | (simp [yv, yielded, *]; done)) (by first | exact Sub.refl _ | exact Sub.del _ _ | exact Sub.del_set _ _ _) (hop_loadA rfl (by solve_by_elim [hS, hN, hT, hT']) (by simp [rqc]) ?_)
 try simp only [nf, Nat.reduceAdd, List.drop_zero, take_rqc, h68]
 refine dN 7 rfl (by decide +kernel) rfl (by first | rfl | (simp [yv, yielded, *]; done)) (by first | exact Sub.refl _ | exact Sub.del _ _ | exact Sub.del_set _ _ _) (hop_fieldAddr rfl ?_)
 try simp only [nf, Nat.reduceAdd, List.drop_zero, take_rqc, h68]
 refine dN 8 rfl (by decide +kernel) rfl (by first | rfl | (simp [yv, yielded, *]; done)) (by first | exact Sub.refl _ | exact Sub.del _ _ | exact Sub.del_set _ _ _) (hop_load rfl (by solve_by_elim [hS, hN, hT, hT']) (by first | rfl | assumption | exact mid_get0 rfl | exact mid_get rfl | (simp; done)) ?_)
 try simp only [nf, Nat.reduceAdd, List.drop_zero, take_rqc, h68]
 refine dN 10 rfl (by decide +kernel) rfl (by first | rfl | (simp [yv, yielded, *]; done)) (by first | exact Sub.refl _ | exact Sub.del _ _ | exact Sub.del_set _ _ _) (hop_loadA rfl (by solve_by_elim [hS, hN, hT, hT']) (by simp [rqc]) ?_)
 try simp only [nf, Nat.reduceAdd, List.drop_zero, take_rqc, h68]
 refine hD_do_on 6 rfl (by decide +kernel) rfl rfl (by first | rfl | assumption | (simp; done) | (simp; omega) | (simp [*]; done)) (hop_call ?_)
 simp only [nf, Nat.reduceAdd, List.drop_zero, take_rqc, h68]
 refine HT.mono (req_named) ?_
 rintro _ _ ⟨rfl, rfl⟩
 try simp only [nf, Nat.reduceAdd, List.drop_zero, take_rqc, h68]
 refine ⟨.inr (by first | exact Sub.refl _ | exact Sub.del _ _ | exact Sub.del_set _ _ _), ?_⟩
 try simp only [nf, Nat.reduceAdd, List.drop_zero, take_rqc, h68]
 refine dN 9 rfl (by decide +kernel) rfl (by first | rfl | (simp [yv, yielded, *]; done)) (by first | exact Sub.refl _ | exact Sub.del _ _ | exact Sub.del_set _ _ _) (hop_indexA (i := (k : Int)) (cs := namedL) rfl rfl (by omega) (by omega) (by rw [Nat.mul_one]; exact hfz) ?_)
 try simp only [nf, Nat.reduceAdd, List.drop_zero, take_rqc, h68]
 refine hD_do_on 11 rfl (by decide +kernel) rfl rfl (by first | rfl | assumption | (simp; done) | (simp; omega) | (simp [*]; done)) (hop_callv (f := fz) rfl ?_)
 simp only [nf, Nat.reduceAdd, List.drop_zero, take_rqc]
 refine HT.mono (hft _ ⟨(k : Int), page, off, len, .slice a bs.length c⟩ rfl rfl ⟨_, _, _, rfl⟩) ?_
 rintro _ _ ⟨rfl, rfl⟩
 try simp only [nf]
 refine ⟨.inr (by first | exact Sub.refl _ | exact Sub.del _ _ | exact Sub.del_set _ _ _), ?_⟩
 try simp only [nf, Nat.reduceAdd, List.drop_zero, take_rqc, h68]
 refine hD_do_on 12 rfl (by decide +kernel) rfl rfl (by first | rfl | assumption | (simp; done) | (simp; omega) | (simp [*]; done)) (hop_call ?_)
 simp only [nf, Nat.reduceAdd, List.drop_zero, take_rqc, h68]
 try simp only [List.drop_zero, take_rqc]
 refine HT.mono (req_Same (r := ⟨(k : Int), page, off, len, .slice a bs.length c⟩) (q := namedR ⟨(k : Int), page, off, len, .slice a bs.length c⟩) (hd.sub sub) (hd2.sub sub)) ?_
 rintro _ _ ⟨rfl, rfl⟩
 try simp only [nf]
 refine ⟨.inr (by first | exact Sub.refl _ | exact Sub.del _ _ | exact Sub.del_set _ _ _), ?_⟩
 try simp only [nf, Nat.reduceAdd, List.drop_zero, take_rqc, h68]
 refine dN 13 rfl (by decide +kernel) rfl (by first | rfl | (simp [yv, yielded, *]; done)) (by first | exact Sub.refl _ | exact Sub.del _ _ | exact Sub.del_set _ _ _) (hop_not rfl ?_)
 try simp only [nf, Nat.reduceAdd, List.drop_zero, take_rqc, h68]
 refine dT 14 rfl (by decide +kernel) rfl (by first | exact Sub.refl _ | exact Sub.del _ _ | exact Sub.del_set _ _ _) (hop_pick rfl ?_)
 try simp only [nf, Nat.reduceAdd, List.drop_zero, take_rqc, h68]
 refine hD_done (by decide +kernel) ?_
 try simp only [nf, Nat.reduceAdd, List.drop_zero, take_rqc, h68]
 refine hc_cond rfl (fun hc0 => ?_) (fun hc0 => ?_)
 ·
  try simp at hc0
  refine sR ?_
  refine oA ?_
  try simp only [nf, Nat.reduceAdd, List.drop_zero, take_rqc, h68]
  refine hops_nil ?_
  try simp only [nf, Nat.reduceAdd, List.drop_zero, take_rqc, h68]
  refine hc_ret ?_
  try simp only [hng, hthen, hblock]
  refine hend_tmp_sub rfl sub ⟨?_, rfl⟩
  simp_all [checkE] <;> omega
 ·
  try simp at hc0
  refine hc_skip ?_
  try simp only [nf, Nat.reduceAdd, List.drop_zero, take_rqc, h68]
  refine hc_seq ?_
  refine sR ?_
  refine oF rfl ?_
  try simp only [nf, Nat.reduceAdd, List.drop_zero, take_rqc, h68]
  refine hops_cons rfl (hop_load rfl (by solve_by_elim [hS, hN, hT, hT']) (by first | rfl | assumption | exact mid_get0 rfl | exact mid_get rfl | (simp; done)) ?_)
  try simp only [nf, Nat.reduceAdd, List.drop_zero, take_rqc, h68]
  refine hops_cons rfl (hop_bin rfl rfl rfl ?_)
  try simp only [nf, Nat.reduceAdd, List.drop_zero, take_rqc, h68]
  refine oM ?_
  try simp only [nf, Nat.reduceAdd, List.drop_zero, take_rqc, h68]
  first
   | refine hops_off' rfl rfl (by rfl) ?_
   | refine hops_un rfl rfl ?_
   | (refine hops_on' rfl rfl (by rfl) (hop_fieldAddr rfl ?_))
   | (refine hops_gp (v := ?vg1) rfl rfl (fun hgp => ?hv1) ?hh1; case hv1 => ((try simp only [hgp, if_true, ev, List.getD_cons_zero, List.getD_cons_succ]); refine hop_fieldAddr rfl ?_; rfl))
  try simp only [nf, Nat.reduceAdd, List.drop_zero, take_rqc, h68]
  first
   | refine hops_off' rfl rfl (by rfl) ?_
   | refine hops_un rfl rfl ?_
   | (refine hops_on' rfl rfl (by rfl) (hop_load rfl (by solve_by_elim [hS, hN, hT, hT']) (by first | rfl | assumption | exact mid_get0 rfl | exact mid_get rfl | (simp; done)) ?_))
   | (refine hops_gp (v := ?vg2) rfl rfl (fun hgp => ?hv2) ?hh2; case hv2 => ((try simp only [hgp, if_true, ev, List.getD_cons_zero, List.getD_cons_succ]); refine hop_load rfl (by solve_by_elim [hS, hN, hT, hT']) (by first | rfl | assumption | exact mid_get0 rfl | exact mid_get rfl | (simp; done)) ?_; rfl))
  try simp only [nf, Nat.reduceAdd, List.drop_zero, take_rqc, h68]
  first
   | refine hops_off' rfl rfl (by rfl) ?_
   | refine hops_un rfl rfl ?_
   | (refine hops_on' rfl rfl (by rfl) (hop_bin rfl rfl rfl ?_))
   | (refine hops_gp (v := ?vg3) rfl rfl (fun hgp => ?hv3) ?hh3; case hv3 => ((try simp only [hgp, if_true, ev, List.getD_cons_zero, List.getD_cons_succ]); refine hop_bin rfl rfl rfl ?_; rfl))
  try simp only [nf, Nat.reduceAdd, List.drop_zero, take_rqc, h68]
  refine hops_cons rfl (hop_pick rfl ?_)
  try simp only [nf, Nat.reduceAdd, List.drop_zero, take_rqc, h68]
  refine oM ?_
  try simp only [nf, Nat.reduceAdd, List.drop_zero, take_rqc, h68]
  first
   | refine hops_off' rfl rfl (by rfl) ?_
   | refine hops_un rfl rfl ?_
   | (refine hops_on' rfl rfl (by rfl) (hop_fieldAddr rfl ?_))
   | (refine hops_gp (v := ?vg4) rfl rfl (fun hgp => ?hv4) ?hh4; case hv4 => ((try simp only [hgp, if_true, ev, List.getD_cons_zero, List.getD_cons_succ]); refine hop_fieldAddr rfl ?_; rfl))
  try simp only [nf, Nat.reduceAdd, List.drop_zero, take_rqc, h68]
  first
   | refine hops_off' rfl rfl (by rfl) ?_
   | refine hops_un rfl rfl ?_
   | (refine hops_on' rfl rfl (by rfl) (hop_load rfl (by solve_by_elim [hS, hN, hT, hT']) (by first | rfl | assumption | exact mid_get0 rfl | exact mid_get rfl | (simp; done)) ?_))
   | (refine hops_gp (v := ?vg5) rfl rfl (fun hgp => ?hv5) ?hh5; case hv5 => ((try simp only [hgp, if_true, ev, List.getD_cons_zero, List.getD_cons_succ]); refine hop_load rfl (by solve_by_elim [hS, hN, hT, hT']) (by first | rfl | assumption | exact mid_get0 rfl | exact mid_get rfl | (simp; done)) ?_; rfl))
  try simp only [nf, Nat.reduceAdd, List.drop_zero, take_rqc, h68]
  first
   | refine hops_off' rfl rfl (by rfl) ?_
   | refine hops_un rfl rfl ?_
   | (refine hops_on' rfl rfl (by rfl) (hop_bin rfl rfl rfl ?_))
   | (refine hops_gp (v := ?vg6) rfl rfl (fun hgp => ?hv6) ?hh6; case hv6 => ((try simp only [hgp, if_true, ev, List.getD_cons_zero, List.getD_cons_succ]); refine hop_bin rfl rfl rfl ?_; rfl))
  try simp only [nf, Nat.reduceAdd, List.drop_zero, take_rqc, h68]
  first
   | refine hops_off' rfl rfl (by rfl) ?_
   | refine hops_un rfl rfl ?_
   | (refine hops_on' rfl rfl (by rfl) (hop_move ?_))
   | (refine hops_gp (v := ?vg7) rfl rfl (fun hgp => ?hv7) ?hh7; case hv7 => ((try simp only [hgp, if_true, ev, List.getD_cons_zero, List.getD_cons_succ]); refine hop_move ?_; rfl))
  try simp only [nf, Nat.reduceAdd, List.drop_zero, take_rqc, h68]
  first
   | refine hops_off' rfl rfl (by rfl) ?_
   | refine hops_un rfl rfl ?_
   | (refine hops_on' rfl rfl (by rfl) (hop_fieldAddr rfl ?_))
   | (refine hops_gp (v := ?vg8) rfl rfl (fun hgp => ?hv8) ?hh8; case hv8 => ((try simp only [hgp, if_true, ev, List.getD_cons_zero, List.getD_cons_succ]); refine hop_fieldAddr rfl ?_; rfl))
  try simp only [nf, Nat.reduceAdd, List.drop_zero, take_rqc, h68]
  first
   | refine hops_off' rfl rfl (by rfl) ?_
   | refine hops_un rfl rfl ?_
   | (refine hops_on' rfl rfl (by rfl) (hop_load rfl (by solve_by_elim [hS, hN, hT, hT']) (by first | rfl | assumption | exact mid_get0 rfl | exact mid_get rfl | (simp; done)) ?_))
   | (refine hops_gp (v := ?vg9) rfl rfl (fun hgp => ?hv9) ?hh9; case hv9 => ((try simp only [hgp, if_true, ev, List.getD_cons_zero, List.getD_cons_succ]); refine hop_load rfl (by solve_by_elim [hS, hN, hT, hT']) (by first | rfl | assumption | exact mid_get0 rfl | exact mid_get rfl | (simp; done)) ?_; rfl))
  try simp only [nf, Nat.reduceAdd, List.drop_zero, take_rqc, h68]
  first
   | refine hops_off' rfl rfl (by rfl) ?_
   | refine hops_un rfl rfl ?_
   | (refine hops_on' rfl rfl (by rfl) (hop_move ?_))
   | (refine hops_gp (v := ?vg10) rfl rfl (fun hgp => ?hv10) ?hh10; case hv10 => ((try simp only [hgp, if_true, ev, List.getD_cons_zero, List.getD_cons_succ]); refine hop_move ?_; rfl))
  try simp only [nf, Nat.reduceAdd, List.drop_zero, take_rqc, h68]
  first
   | refine hops_off' rfl rfl (by rfl) ?_
   | refine hops_un rfl rfl ?_
   | (refine hops_on' rfl rfl (by rfl) (hop_bin rfl rfl rfl ?_))
   | (refine hops_gp (v := ?vg11) rfl rfl (fun hgp => ?hv11) ?hh11; case hv11 => ((try simp only [hgp, if_true, ev, List.getD_cons_zero, List.getD_cons_succ]); refine hop_bin rfl rfl rfl ?_; rfl))
  try simp only [nf, Nat.reduceAdd, List.drop_zero, take_rqc, h68]
  first
   | refine hops_off' rfl rfl (by rfl) ?_
   | refine hops_un rfl rfl ?_
   | (refine hops_on' rfl rfl (by rfl) (hop_pick rfl ?_))
   | (refine hops_gp (v := ?vg12) rfl rfl (fun hgp => ?hv12) ?hh12; case hv12 => ((try simp only [hgp, if_true, ev, List.getD_cons_zero, List.getD_cons_succ]); refine hop_pick rfl ?_; rfl))
  try simp only [nf, Nat.reduceAdd, List.drop_zero, take_rqc, h68]
  refine hops_cons rfl (hop_pick rfl ?_)
  try simp only [nf, Nat.reduceAdd, List.drop_zero, take_rqc, h68]
  refine hops_nil ?_
  try simp only [nf, Nat.reduceAdd, List.drop_zero, take_rqc, h68]
  refine hc_F rfl (by first | rfl | assumption | (simp; done) | (simp; omega) | (simp [*]; done)) ?_
  refine hc_skip ?_
  try simp only [nf, Nat.reduceAdd, List.drop_zero, take_rqc, h68]
  refine hc_seq ?_
  refine sR ?_
  refine oF rfl ?_
  try simp only [nf, Nat.reduceAdd, List.drop_zero, take_rqc, h68]
  refine hops_cons rfl (hop_load rfl (by solve_by_elim [hS, hN, hT, hT']) (by first | rfl | assumption | exact mid_get0 rfl | exact mid_get rfl | (simp; done)) ?_)
  try simp only [nf, Nat.reduceAdd, List.drop_zero, take_rqc, h68]
  refine hops_cons rfl (hop_bin rfl rfl rfl ?_)
  try simp only [nf, Nat.reduceAdd, List.drop_zero, take_rqc, h68]
  refine oM ?_
  try simp only [nf, Nat.reduceAdd, List.drop_zero, take_rqc, h68]
  first
   | refine hops_off' rfl rfl (by rfl) ?_
   | refine hops_un rfl rfl ?_
   | (refine hops_on' rfl rfl (by rfl) (hop_fieldAddr rfl ?_))
   | (refine hops_gp (v := ?vg13) rfl rfl (fun hgp => ?hv13) ?hh13; case hv13 => ((try simp only [hgp, if_true, ev, List.getD_cons_zero, List.getD_cons_succ]); refine hop_fieldAddr rfl ?_; rfl))
  try simp only [nf, Nat.reduceAdd, List.drop_zero, take_rqc, h68]
  first
   | refine hops_off' rfl rfl (by rfl) ?_
   | refine hops_un rfl rfl ?_
   | (refine hops_on' rfl rfl (by rfl) (hop_load rfl (by solve_by_elim [hS, hN, hT, hT']) (by first | rfl | assumption | exact mid_get0 rfl | exact mid_get rfl | (simp; done)) ?_))
   | (refine hops_gp (v := ?vg14) rfl rfl (fun hgp => ?hv14) ?hh14; case hv14 => ((try simp only [hgp, if_true, ev, List.getD_cons_zero, List.getD_cons_succ]); refine hop_load rfl (by solve_by_elim [hS, hN, hT, hT']) (by first | rfl | assumption | exact mid_get0 rfl | exact mid_get rfl | (simp; done)) ?_; rfl))
  try simp only [nf, Nat.reduceAdd, List.drop_zero, take_rqc, h68]
  first
   | refine hops_off' rfl rfl (by rfl) ?_
   | refine hops_un rfl rfl ?_
   | (refine hops_on' rfl rfl (by rfl) (hop_bin rfl rfl rfl ?_))
   | (refine hops_gp (v := ?vg15) rfl rfl (fun hgp => ?hv15) ?hh15; case hv15 => ((try simp only [hgp, if_true, ev, List.getD_cons_zero, List.getD_cons_succ]); refine hop_bin rfl rfl rfl ?_; rfl))
  try simp only [nf, Nat.reduceAdd, List.drop_zero, take_rqc, h68]
  refine hops_cons rfl (hop_pick rfl ?_)
  try simp only [nf, Nat.reduceAdd, List.drop_zero, take_rqc, h68]
  refine oM ?_
  try simp only [nf, Nat.reduceAdd, List.drop_zero, take_rqc, h68]
  first
   | refine hops_off' rfl rfl (by rfl) ?_
   | refine hops_un rfl rfl ?_
   | (refine hops_on' rfl rfl (by rfl) (hop_fieldAddr rfl ?_))
   | (refine hops_gp (v := ?vg16) rfl rfl (fun hgp => ?hv16) ?hh16; case hv16 => ((try simp only [hgp, if_true, ev, List.getD_cons_zero, List.getD_cons_succ]); refine hop_fieldAddr rfl ?_; rfl))
  try simp only [nf, Nat.reduceAdd, List.drop_zero, take_rqc, h68]
  first
   | refine hops_off' rfl rfl (by rfl) ?_
   | refine hops_un rfl rfl ?_
   | (refine hops_on' rfl rfl (by rfl) (hop_load rfl (by solve_by_elim [hS, hN, hT, hT']) (by first | rfl | assumption | exact mid_get0 rfl | exact mid_get rfl | (simp; done)) ?_))
   | (refine hops_gp (v := ?vg17) rfl rfl (fun hgp => ?hv17) ?hh17; case hv17 => ((try simp only [hgp, if_true, ev, List.getD_cons_zero, List.getD_cons_succ]); refine hop_load rfl (by solve_by_elim [hS, hN, hT, hT']) (by first | rfl | assumption | exact mid_get0 rfl | exact mid_get rfl | (simp; done)) ?_; rfl))
  try simp only [nf, Nat.reduceAdd, List.drop_zero, take_rqc, h68]
  first
   | refine hops_off' rfl rfl (by rfl) ?_
   | refine hops_un rfl rfl ?_
   | (refine hops_on' rfl rfl (by rfl) (hop_bin rfl rfl rfl ?_))
   | (refine hops_gp (v := ?vg18) rfl rfl (fun hgp => ?hv18) ?hh18; case hv18 => ((try simp only [hgp, if_true, ev, List.getD_cons_zero, List.getD_cons_succ]); refine hop_bin rfl rfl rfl ?_; rfl))
  try simp only [nf, Nat.reduceAdd, List.drop_zero, take_rqc, h68]
  refine hops_cons rfl (hop_pick rfl ?_)
  try simp only [nf, Nat.reduceAdd, List.drop_zero, take_rqc, h68]
  refine oM ?_
  try simp only [nf, Nat.reduceAdd, List.drop_zero, take_rqc, h68]
  first
   | refine hops_off' rfl rfl (by rfl) ?_
   | refine hops_un rfl rfl ?_
   | (refine hops_on' rfl rfl (by rfl) (hop_fieldAddr rfl ?_))
   | (refine hops_gp (v := ?vg19) rfl rfl (fun hgp => ?hv19) ?hh19; case hv19 => ((try simp only [hgp, if_true, ev, List.getD_cons_zero, List.getD_cons_succ]); refine hop_fieldAddr rfl ?_; rfl))
  try simp only [nf, Nat.reduceAdd, List.drop_zero, take_rqc, h68]
  first
   | refine hops_off' rfl rfl (by rfl) ?_
   | refine hops_un rfl rfl ?_
   | (refine hops_on' rfl rfl (by rfl) (hop_load rfl (by solve_by_elim [hS, hN, hT, hT']) (by first | rfl | assumption | exact mid_get0 rfl | exact mid_get rfl | (simp; done)) ?_))
   | (refine hops_gp (v := ?vg20) rfl rfl (fun hgp => ?hv20) ?hh20; case hv20 => ((try simp only [hgp, if_true, ev, List.getD_cons_zero, List.getD_cons_succ]); refine hop_load rfl (by solve_by_elim [hS, hN, hT, hT']) (by first | rfl | assumption | exact mid_get0 rfl | exact mid_get rfl | (simp; done)) ?_; rfl))
  try simp only [nf, Nat.reduceAdd, List.drop_zero, take_rqc, h68]
  first
   | refine hops_off' rfl rfl (by rfl) ?_
   | refine hops_un rfl rfl ?_
   | (refine hops_on' rfl rfl (by rfl) (hop_fieldAddr rfl ?_))
   | (refine hops_gp (v := ?vg21) rfl rfl (fun hgp => ?hv21) ?hh21; case hv21 => ((try simp only [hgp, if_true, ev, List.getD_cons_zero, List.getD_cons_succ]); refine hop_fieldAddr rfl ?_; rfl))
  try simp only [nf, Nat.reduceAdd, List.drop_zero, take_rqc, h68]
  first
   | refine hops_off' rfl rfl (by rfl) ?_
   | refine hops_un rfl rfl ?_
   | (refine hops_on' rfl rfl (by rfl) (hop_load rfl (by solve_by_elim [hS, hN, hT, hT']) (by first | rfl | assumption | exact mid_get0 rfl | exact mid_get rfl | (simp; done)) ?_))
   | (refine hops_gp (v := ?vg22) rfl rfl (fun hgp => ?hv22) ?hh22; case hv22 => ((try simp only [hgp, if_true, ev, List.getD_cons_zero, List.getD_cons_succ]); refine hop_load rfl (by solve_by_elim [hS, hN, hT, hT']) (by first | rfl | assumption | exact mid_get0 rfl | exact mid_get rfl | (simp; done)) ?_; rfl))
  try simp only [nf, Nat.reduceAdd, List.drop_zero, take_rqc, h68]
  first
   | refine hops_off' rfl rfl (by rfl) ?_
   | refine hops_un rfl rfl ?_
   | (refine hops_on' rfl rfl (by rfl) (hop_sub rfl rfl (by simp at hgp; omega) ?_))
   | (refine hops_gp (v := ?vg23) rfl rfl (fun hgp => ?hv23) ?hh23; case hv23 => ((try simp only [hgp, if_true, ev, List.getD_cons_zero, List.getD_cons_succ]); refine hop_sub rfl rfl (by simp at hgp; omega) ?_; rfl))
  try simp only [nf, Nat.reduceAdd, List.drop_zero, take_rqc, h68]
  first
   | refine hops_off' rfl rfl (by rfl) ?_
   | refine hops_un rfl rfl ?_
   | (refine hops_on' rfl rfl (by rfl) (hop_bin rfl rfl rfl ?_))
   | (refine hops_gp (v := ?vg24) rfl rfl (fun hgp => ?hv24) ?hh24; case hv24 => ((try simp only [hgp, if_true, ev, List.getD_cons_zero, List.getD_cons_succ]); refine hop_bin rfl rfl rfl ?_; rfl))
  try simp only [nf, Nat.reduceAdd, List.drop_zero, take_rqc, h68]
  refine hops_cons rfl (hop_pick rfl ?_)
  try simp only [nf, Nat.reduceAdd, List.drop_zero, take_rqc, h68]
  refine oM ?_
  try simp only [nf, Nat.reduceAdd, List.drop_zero, take_rqc, h68]
  first
   | refine hops_off' rfl rfl (by rfl) ?_
   | refine hops_un rfl rfl ?_
   | (refine hops_on' rfl rfl (by rfl) (hop_fieldAddr rfl ?_))
   | (refine hops_gp (v := ?vg25) rfl rfl (fun hgp => ?hv25) ?hh25; case hv25 => ((try simp only [hgp, if_true, ev, List.getD_cons_zero, List.getD_cons_succ]); refine hop_fieldAddr rfl ?_; rfl))
  try simp only [nf, Nat.reduceAdd, List.drop_zero, take_rqc, h68]
  first
   | refine hops_off' rfl rfl (by rfl) ?_
   | refine hops_un rfl rfl ?_
   | (refine hops_on' rfl rfl (by rfl) (hop_load rfl (by solve_by_elim [hS, hN, hT, hT']) (by first | rfl | assumption | exact mid_get0 rfl | exact mid_get rfl | (simp; done)) ?_))
   | (refine hops_gp (v := ?vg26) rfl rfl (fun hgp => ?hv26) ?hh26; case hv26 => ((try simp only [hgp, if_true, ev, List.getD_cons_zero, List.getD_cons_succ]); refine hop_load rfl (by solve_by_elim [hS, hN, hT, hT']) (by first | rfl | assumption | exact mid_get0 rfl | exact mid_get rfl | (simp; done)) ?_; rfl))
  try simp only [nf, Nat.reduceAdd, List.drop_zero, take_rqc, h68]
  first
   | refine hops_off' rfl rfl (by rfl) ?_
   | refine hops_un rfl rfl ?_
   | (refine hops_on' rfl rfl (by rfl) (hop_lenS rfl ?_))
   | (refine hops_gp (v := ?vg27) rfl rfl (fun hgp => ?hv27) ?hh27; case hv27 => ((try simp only [hgp, if_true, ev, List.getD_cons_zero, List.getD_cons_succ]); refine hop_lenS rfl ?_; rfl))
  try simp only [nf, Nat.reduceAdd, List.drop_zero, take_rqc, h68]
  first
   | refine hops_off' rfl rfl (by rfl) ?_
   | refine hops_un rfl rfl ?_
   | (refine hops_on' rfl rfl (by rfl) (hop_fieldAddr rfl ?_))
   | (refine hops_gp (v := ?vg28) rfl rfl (fun hgp => ?hv28) ?hh28; case hv28 => ((try simp only [hgp, if_true, ev, List.getD_cons_zero, List.getD_cons_succ]); refine hop_fieldAddr rfl ?_; rfl))
  try simp only [nf, Nat.reduceAdd, List.drop_zero, take_rqc, h68]
  first
   | refine hops_off' rfl rfl (by rfl) ?_
   | refine hops_un rfl rfl ?_
   | (refine hops_on' rfl rfl (by rfl) (hop_load rfl (by solve_by_elim [hS, hN, hT, hT']) (by first | rfl | assumption | exact mid_get0 rfl | exact mid_get rfl | (simp; done)) ?_))
   | (refine hops_gp (v := ?vg29) rfl rfl (fun hgp => ?hv29) ?hh29; case hv29 => ((try simp only [hgp, if_true, ev, List.getD_cons_zero, List.getD_cons_succ]); refine hop_load rfl (by solve_by_elim [hS, hN, hT, hT']) (by first | rfl | assumption | exact mid_get0 rfl | exact mid_get rfl | (simp; done)) ?_; rfl))
  try simp only [nf, Nat.reduceAdd, List.drop_zero, take_rqc, h68]
  first
   | refine hops_off' rfl rfl (by rfl) ?_
   | refine hops_un rfl rfl ?_
   | (refine hops_on' rfl rfl (by rfl) (hop_sub rfl rfl (by simp at hgp; omega) ?_))
   | (refine hops_gp (v := ?vg30) rfl rfl (fun hgp => ?hv30) ?hh30; case hv30 => ((try simp only [hgp, if_true, ev, List.getD_cons_zero, List.getD_cons_succ]); refine hop_sub rfl rfl (by simp at hgp; omega) ?_; rfl))
  try simp only [nf, Nat.reduceAdd, List.drop_zero, take_rqc, h68]
  first
   | refine hops_off' rfl rfl (by rfl) ?_
   | refine hops_un rfl rfl ?_
   | (refine hops_on' rfl rfl (by rfl) (hop_bin rfl rfl rfl ?_))
   | (refine hops_gp (v := ?vg31) rfl rfl (fun hgp => ?hv31) ?hh31; case hv31 => ((try simp only [hgp, if_true, ev, List.getD_cons_zero, List.getD_cons_succ]); refine hop_bin rfl rfl rfl ?_; rfl))
  try simp only [nf, Nat.reduceAdd, List.drop_zero, take_rqc, h68]
  refine hops_cons rfl (hop_pick rfl ?_)
  try simp only [nf, Nat.reduceAdd, List.drop_zero, take_rqc, h68]
  refine hops_nil ?_
  try simp only [nf, Nat.reduceAdd, List.drop_zero, take_rqc, h68]
  refine hc_cond rfl (fun hc2 => ?_) (fun hc2 => ?_)
  ·
   try simp at hc2
   refine sR ?_
   refine oA ?_
   try simp only [nf, Nat.reduceAdd, List.drop_zero, take_rqc, h68]
   refine hops_nil ?_
   try simp only [nf, Nat.reduceAdd, List.drop_zero, take_rqc, h68]
   refine hc_ret ?_
   try simp only [hng, hthen, hblock]
   refine hend_tmp_sub rfl sub ⟨?_, rfl⟩
   simp_all [checkE] <;> omega
  ·
   try simp at hc2
   refine hc_skip ?_
   try simp only [nf, Nat.reduceAdd, List.drop_zero, take_rqc, h68]
   refine sR ?_
   refine oA ?_
   try simp only [nf, Nat.reduceAdd, List.drop_zero, take_rqc, h68]
   refine hops_nil ?_
   try simp only [nf, Nat.reduceAdd, List.drop_zero, take_rqc, h68]
   refine hc_ret ?_
   try simp only [hng, hthen, hblock]
   refine hend_tmp_sub rfl sub ⟨?_, rfl⟩
   simp_all [checkE] <;> omega
theorem req_Check_b {H : Hp} {op page off len pages : Int} {a : Option Addr} {c : Nat} {bs : List UInt8} (hd : dOk H (.slice a bs.length c) bs) (hk : op ≠ 6 ∧ op ≠ 8) (ho : 1 ≤ op) (ho9 : op < 9) :
    HT prog 23 #[.agg (rqc ⟨op, page, off, len, .slice a bs.length c⟩).toArray, .int .i64 pages] H (fun v H' => v = .int .i64 (checkE pages ⟨op, page, off, len, .slice a bs.length c⟩ bs) ∧ H = H') := by
 obtain ⟨k, rfl⟩ : ∃ k : Nat, op = k := ⟨op.toNat, by omega⟩
 obtain ⟨fz, hfz, hent, hft⟩ := named_all (k := k) (by omega) (by omega)
 have hd2 := named_dOk (r := ⟨(k : Int), page, off, len, .slice a bs.length c⟩) hd
 have h68 : (((k : Int) != 6) && ((k : Int) != 8)) = true := by simp; omega
 refine ht_of_body (args := [.agg (rqc ⟨(k : Int), page, off, len, .slice a bs.length c⟩).toArray, .int .i64 pages]) func23 rfl ?_
 simp only [ntmps23, List.length_cons, List.length_nil, Nat.reduceAdd, Nat.reduceSub, List.replicate_succ, List.replicate_zero, List.cons_append, List.nil_append]
 refine sR ?_
 refine hops_cons rfl (hop_box (zl := rqc ⟨(k : Int), page, off, len, .slice a bs.length c⟩) rfl rfl ?_)
 intro jb hjb
 have sub := Sub.set_new (o := row (rqc ⟨(k : Int), page, off, len, .slice a bs.length c⟩) 41) hjb
 try simp only [nf]
 refine oA ?_
 try simp only [nf, Nat.reduceAdd, List.drop_zero, take_rqc, h68]
 refine hops_nil ?_
 try simp only [nf, Nat.reduceAdd, List.drop_zero, take_rqc, h68]
 refine hc_seq ?_
 refine hc_seq ?_
 refine hc_draw0 follows (by intros; simp [hng, hthen, hblock, hend]) ?_
 refine dT 0 rfl (by decide +kernel) rfl (by first | exact Sub.refl _ | exact Sub.del _ _ | exact Sub.del_set _ _ _) (hop_fieldAddr rfl ?_)
 try simp only [nf, Nat.reduceAdd, List.drop_zero, take_rqc, h68]
 refine dT 1 rfl (by decide +kernel) rfl (by first | exact Sub.refl _ | exact Sub.del _ _ | exact Sub.del_set _ _ _) (hop_load rfl (by solve_by_elim [hS, hN, hT, hT']) rfl ?_)
 try simp only [nf, Nat.reduceAdd, List.drop_zero, take_rqc, h68]
 refine hD_do 2 rfl (by decide +kernel) rfl (hop_call ?_)
 simp only [nf, Nat.reduceAdd, List.drop_zero, take_rqc, h68]
 refine HT.mono req_Name ?_
 rintro _ _ ⟨s, rfl, hs0, rfl⟩
 have hb : ((⟨s.toArray⟩ : ByteArray).toList == (⟨#[]⟩ : ByteArray).toList) = false := by rw [eqs]; cases s with | nil => exact absurd (hs0.1 rfl) (by omega) | cons _ _ => rfl
 try simp only [nf]
 refine ⟨.inr (by first | exact Sub.refl _ | exact Sub.del _ _ | exact Sub.del_set _ _ _), ?_⟩
 try simp only [nf, Nat.reduceAdd, List.drop_zero, take_rqc, h68]
 refine dT 3 rfl (by decide +kernel) rfl (by first | exact Sub.refl _ | exact Sub.del _ _ | exact Sub.del_set _ _ _) (hop_str rfl rfl rfl ?_)
 rw [hb]
 try simp only [nf]
 refine dT 4 rfl (by decide +kernel) rfl (by first | exact Sub.refl _ | exact Sub.del _ _ | exact Sub.del_set _ _ _) (hop_move ?_)
 try simp only [nf, Nat.reduceAdd, List.drop_zero, take_rqc, h68]
 refine dN 5 rfl (by decide +kernel) rfl (by first | rfl | (simp [yv, yielded, *]; done)) (by first | exact Sub.refl _ | exact Sub.del _ _ | exact Sub.del_set _ _ _) (hop_loadA rfl (by solve_by_elim [hS, hN, hT, hT']) (by simp [rqc]) ?_)
 try simp only [nf, Nat.reduceAdd, List.drop_zero, take_rqc, h68]
 refine dN 7 rfl (by decide +kernel) rfl (by first | rfl | (simp [yv, yielded, *]; done)) (by first | exact Sub.refl _ | exact Sub.del _ _ | exact Sub.del_set _ _ _) (hop_fieldAddr rfl ?_)
 try simp only [nf, Nat.reduceAdd, List.drop_zero, take_rqc, h68]
 refine dN 8 rfl (by decide +kernel) rfl (by first | rfl | (simp [yv, yielded, *]; done)) (by first | exact Sub.refl _ | exact Sub.del _ _ | exact Sub.del_set _ _ _) (hop_load rfl (by solve_by_elim [hS, hN, hT, hT']) (by first | rfl | assumption | exact mid_get0 rfl | exact mid_get rfl | (simp; done)) ?_)
 try simp only [nf, Nat.reduceAdd, List.drop_zero, take_rqc, h68]
 refine dN 10 rfl (by decide +kernel) rfl (by first | rfl | (simp [yv, yielded, *]; done)) (by first | exact Sub.refl _ | exact Sub.del _ _ | exact Sub.del_set _ _ _) (hop_loadA rfl (by solve_by_elim [hS, hN, hT, hT']) (by simp [rqc]) ?_)
 try simp only [nf, Nat.reduceAdd, List.drop_zero, take_rqc, h68]
 refine hD_do_on 6 rfl (by decide +kernel) rfl rfl (by first | rfl | assumption | (simp; done) | (simp; omega) | (simp [*]; done)) (hop_call ?_)
 simp only [nf, Nat.reduceAdd, List.drop_zero, take_rqc, h68]
 refine HT.mono (req_named) ?_
 rintro _ _ ⟨rfl, rfl⟩
 try simp only [nf, Nat.reduceAdd, List.drop_zero, take_rqc, h68]
 refine ⟨.inr (by first | exact Sub.refl _ | exact Sub.del _ _ | exact Sub.del_set _ _ _), ?_⟩
 try simp only [nf, Nat.reduceAdd, List.drop_zero, take_rqc, h68]
 refine dN 9 rfl (by decide +kernel) rfl (by first | rfl | (simp [yv, yielded, *]; done)) (by first | exact Sub.refl _ | exact Sub.del _ _ | exact Sub.del_set _ _ _) (hop_indexA (i := (k : Int)) (cs := namedL) rfl rfl (by omega) (by omega) (by rw [Nat.mul_one]; exact hfz) ?_)
 try simp only [nf, Nat.reduceAdd, List.drop_zero, take_rqc, h68]
 refine hD_do_on 11 rfl (by decide +kernel) rfl rfl (by first | rfl | assumption | (simp; done) | (simp; omega) | (simp [*]; done)) (hop_callv (f := fz) rfl ?_)
 simp only [nf, Nat.reduceAdd, List.drop_zero, take_rqc]
 refine HT.mono (hft _ ⟨(k : Int), page, off, len, .slice a bs.length c⟩ rfl rfl ⟨_, _, _, rfl⟩) ?_
 rintro _ _ ⟨rfl, rfl⟩
 try simp only [nf]
 refine ⟨.inr (by first | exact Sub.refl _ | exact Sub.del _ _ | exact Sub.del_set _ _ _), ?_⟩
 try simp only [nf, Nat.reduceAdd, List.drop_zero, take_rqc, h68]
 refine hD_do_on 12 rfl (by decide +kernel) rfl rfl (by first | rfl | assumption | (simp; done) | (simp; omega) | (simp [*]; done)) (hop_call ?_)
 simp only [nf, Nat.reduceAdd, List.drop_zero, take_rqc, h68]
 try simp only [List.drop_zero, take_rqc]
 refine HT.mono (req_Same (r := ⟨(k : Int), page, off, len, .slice a bs.length c⟩) (q := namedR ⟨(k : Int), page, off, len, .slice a bs.length c⟩) (hd.sub sub) (hd2.sub sub)) ?_
 rintro _ _ ⟨rfl, rfl⟩
 try simp only [nf]
 refine ⟨.inr (by first | exact Sub.refl _ | exact Sub.del _ _ | exact Sub.del_set _ _ _), ?_⟩
 try simp only [nf, Nat.reduceAdd, List.drop_zero, take_rqc, h68]
 refine dN 13 rfl (by decide +kernel) rfl (by first | rfl | (simp [yv, yielded, *]; done)) (by first | exact Sub.refl _ | exact Sub.del _ _ | exact Sub.del_set _ _ _) (hop_not rfl ?_)
 try simp only [nf, Nat.reduceAdd, List.drop_zero, take_rqc, h68]
 refine dT 14 rfl (by decide +kernel) rfl (by first | exact Sub.refl _ | exact Sub.del _ _ | exact Sub.del_set _ _ _) (hop_pick rfl ?_)
 try simp only [nf, Nat.reduceAdd, List.drop_zero, take_rqc, h68]
 refine hD_done (by decide +kernel) ?_
 try simp only [nf, Nat.reduceAdd, List.drop_zero, take_rqc, h68]
 refine hc_cond rfl (fun hc0 => ?_) (fun hc0 => ?_)
 ·
  try simp at hc0
  refine sR ?_
  refine oA ?_
  try simp only [nf, Nat.reduceAdd, List.drop_zero, take_rqc, h68]
  refine hops_nil ?_
  try simp only [nf, Nat.reduceAdd, List.drop_zero, take_rqc, h68]
  refine hc_ret ?_
  try simp only [hng, hthen, hblock]
  refine hend_tmp_sub rfl sub ⟨?_, rfl⟩
  simp_all [checkE] <;> omega
 ·
  try simp at hc0
  refine hc_skip ?_
  try simp only [nf, Nat.reduceAdd, List.drop_zero, take_rqc, h68]
  refine hc_seq ?_
  refine sR ?_
  refine oF rfl ?_
  try simp only [nf, Nat.reduceAdd, List.drop_zero, take_rqc, h68]
  refine hops_cons rfl (hop_load rfl (by solve_by_elim [hS, hN, hT, hT']) (by first | rfl | assumption | exact mid_get0 rfl | exact mid_get rfl | (simp; done)) ?_)
  try simp only [nf, Nat.reduceAdd, List.drop_zero, take_rqc, h68]
  refine hops_cons rfl (hop_bin rfl rfl rfl ?_)
  try simp only [nf, Nat.reduceAdd, List.drop_zero, take_rqc, h68]
  refine oM ?_
  try simp only [nf, Nat.reduceAdd, List.drop_zero, take_rqc, h68]
  first
   | refine hops_off' rfl rfl (by rfl) ?_
   | refine hops_un rfl rfl ?_
   | (refine hops_on' rfl rfl (by rfl) (hop_fieldAddr rfl ?_))
   | (refine hops_gp (v := ?vg1) rfl rfl (fun hgp => ?hv1) ?hh1; case hv1 => ((try simp only [hgp, if_true, ev, List.getD_cons_zero, List.getD_cons_succ]); refine hop_fieldAddr rfl ?_; rfl))
  try simp only [nf, Nat.reduceAdd, List.drop_zero, take_rqc, h68]
  first
   | refine hops_off' rfl rfl (by rfl) ?_
   | refine hops_un rfl rfl ?_
   | (refine hops_on' rfl rfl (by rfl) (hop_load rfl (by solve_by_elim [hS, hN, hT, hT']) (by first | rfl | assumption | exact mid_get0 rfl | exact mid_get rfl | (simp; done)) ?_))
   | (refine hops_gp (v := ?vg2) rfl rfl (fun hgp => ?hv2) ?hh2; case hv2 => ((try simp only [hgp, if_true, ev, List.getD_cons_zero, List.getD_cons_succ]); refine hop_load rfl (by solve_by_elim [hS, hN, hT, hT']) (by first | rfl | assumption | exact mid_get0 rfl | exact mid_get rfl | (simp; done)) ?_; rfl))
  try simp only [nf, Nat.reduceAdd, List.drop_zero, take_rqc, h68]
  first
   | refine hops_off' rfl rfl (by rfl) ?_
   | refine hops_un rfl rfl ?_
   | (refine hops_on' rfl rfl (by rfl) (hop_bin rfl rfl rfl ?_))
   | (refine hops_gp (v := ?vg3) rfl rfl (fun hgp => ?hv3) ?hh3; case hv3 => ((try simp only [hgp, if_true, ev, List.getD_cons_zero, List.getD_cons_succ]); refine hop_bin rfl rfl rfl ?_; rfl))
  try simp only [nf, Nat.reduceAdd, List.drop_zero, take_rqc, h68]
  refine hops_cons rfl (hop_pick rfl ?_)
  try simp only [nf, Nat.reduceAdd, List.drop_zero, take_rqc, h68]
  refine oM ?_
  try simp only [nf, Nat.reduceAdd, List.drop_zero, take_rqc, h68]
  first
   | refine hops_off' rfl rfl (by rfl) ?_
   | refine hops_un rfl rfl ?_
   | (refine hops_on' rfl rfl (by rfl) (hop_fieldAddr rfl ?_))
   | (refine hops_gp (v := ?vg4) rfl rfl (fun hgp => ?hv4) ?hh4; case hv4 => ((try simp only [hgp, if_true, ev, List.getD_cons_zero, List.getD_cons_succ]); refine hop_fieldAddr rfl ?_; rfl))
  try simp only [nf, Nat.reduceAdd, List.drop_zero, take_rqc, h68]
  first
   | refine hops_off' rfl rfl (by rfl) ?_
   | refine hops_un rfl rfl ?_
   | (refine hops_on' rfl rfl (by rfl) (hop_load rfl (by solve_by_elim [hS, hN, hT, hT']) (by first | rfl | assumption | exact mid_get0 rfl | exact mid_get rfl | (simp; done)) ?_))
   | (refine hops_gp (v := ?vg5) rfl rfl (fun hgp => ?hv5) ?hh5; case hv5 => ((try simp only [hgp, if_true, ev, List.getD_cons_zero, List.getD_cons_succ]); refine hop_load rfl (by solve_by_elim [hS, hN, hT, hT']) (by first | rfl | assumption | exact mid_get0 rfl | exact mid_get rfl | (simp; done)) ?_; rfl))
  try simp only [nf, Nat.reduceAdd, List.drop_zero, take_rqc, h68]
  first
   | refine hops_off' rfl rfl (by rfl) ?_
   | refine hops_un rfl rfl ?_
   | (refine hops_on' rfl rfl (by rfl) (hop_bin rfl rfl rfl ?_))
   | (refine hops_gp (v := ?vg6) rfl rfl (fun hgp => ?hv6) ?hh6; case hv6 => ((try simp only [hgp, if_true, ev, List.getD_cons_zero, List.getD_cons_succ]); refine hop_bin rfl rfl rfl ?_; rfl))
  try simp only [nf, Nat.reduceAdd, List.drop_zero, take_rqc, h68]
  first
   | refine hops_off' rfl rfl (by rfl) ?_
   | refine hops_un rfl rfl ?_
   | (refine hops_on' rfl rfl (by rfl) (hop_move ?_))
   | (refine hops_gp (v := ?vg7) rfl rfl (fun hgp => ?hv7) ?hh7; case hv7 => ((try simp only [hgp, if_true, ev, List.getD_cons_zero, List.getD_cons_succ]); refine hop_move ?_; rfl))
  try simp only [nf, Nat.reduceAdd, List.drop_zero, take_rqc, h68]
  first
   | refine hops_off' rfl rfl (by rfl) ?_
   | refine hops_un rfl rfl ?_
   | (refine hops_on' rfl rfl (by rfl) (hop_fieldAddr rfl ?_))
   | (refine hops_gp (v := ?vg8) rfl rfl (fun hgp => ?hv8) ?hh8; case hv8 => ((try simp only [hgp, if_true, ev, List.getD_cons_zero, List.getD_cons_succ]); refine hop_fieldAddr rfl ?_; rfl))
  try simp only [nf, Nat.reduceAdd, List.drop_zero, take_rqc, h68]
  first
   | refine hops_off' rfl rfl (by rfl) ?_
   | refine hops_un rfl rfl ?_
   | (refine hops_on' rfl rfl (by rfl) (hop_load rfl (by solve_by_elim [hS, hN, hT, hT']) (by first | rfl | assumption | exact mid_get0 rfl | exact mid_get rfl | (simp; done)) ?_))
   | (refine hops_gp (v := ?vg9) rfl rfl (fun hgp => ?hv9) ?hh9; case hv9 => ((try simp only [hgp, if_true, ev, List.getD_cons_zero, List.getD_cons_succ]); refine hop_load rfl (by solve_by_elim [hS, hN, hT, hT']) (by first | rfl | assumption | exact mid_get0 rfl | exact mid_get rfl | (simp; done)) ?_; rfl))
  try simp only [nf, Nat.reduceAdd, List.drop_zero, take_rqc, h68]
  first
   | refine hops_off' rfl rfl (by rfl) ?_
   | refine hops_un rfl rfl ?_
   | (refine hops_on' rfl rfl (by rfl) (hop_move ?_))
   | (refine hops_gp (v := ?vg10) rfl rfl (fun hgp => ?hv10) ?hh10; case hv10 => ((try simp only [hgp, if_true, ev, List.getD_cons_zero, List.getD_cons_succ]); refine hop_move ?_; rfl))
  try simp only [nf, Nat.reduceAdd, List.drop_zero, take_rqc, h68]
  first
   | refine hops_off' rfl rfl (by rfl) ?_
   | refine hops_un rfl rfl ?_
   | (refine hops_on' rfl rfl (by rfl) (hop_bin rfl rfl rfl ?_))
   | (refine hops_gp (v := ?vg11) rfl rfl (fun hgp => ?hv11) ?hh11; case hv11 => ((try simp only [hgp, if_true, ev, List.getD_cons_zero, List.getD_cons_succ]); refine hop_bin rfl rfl rfl ?_; rfl))
  try simp only [nf, Nat.reduceAdd, List.drop_zero, take_rqc, h68]
  first
   | refine hops_off' rfl rfl (by rfl) ?_
   | refine hops_un rfl rfl ?_
   | (refine hops_on' rfl rfl (by rfl) (hop_pick rfl ?_))
   | (refine hops_gp (v := ?vg12) rfl rfl (fun hgp => ?hv12) ?hh12; case hv12 => ((try simp only [hgp, if_true, ev, List.getD_cons_zero, List.getD_cons_succ]); refine hop_pick rfl ?_; rfl))
  try simp only [nf, Nat.reduceAdd, List.drop_zero, take_rqc, h68]
  refine hops_cons rfl (hop_pick rfl ?_)
  try simp only [nf, Nat.reduceAdd, List.drop_zero, take_rqc, h68]
  refine hops_nil ?_
  try simp only [nf, Nat.reduceAdd, List.drop_zero, take_rqc, h68]
  refine hc_cond rfl (fun hc1 => ?_) (fun hc1 => ?_)
  ·
   try simp at hc1
   refine sR ?_
   refine oA ?_
   try simp only [nf, Nat.reduceAdd, List.drop_zero, take_rqc, h68]
   refine hops_nil ?_
   try simp only [nf, Nat.reduceAdd, List.drop_zero, take_rqc, h68]
   refine hc_ret ?_
   try simp only [hng, hthen, hblock]
   refine hend_tmp_sub rfl sub ⟨?_, rfl⟩
   simp_all [checkE] <;> omega
  ·
   try simp at hc1
   refine hc_skip ?_
   try simp only [nf, Nat.reduceAdd, List.drop_zero, take_rqc, h68]
   refine hc_seq ?_
   refine sR ?_
   refine oF rfl ?_
   try simp only [nf, Nat.reduceAdd, List.drop_zero, take_rqc, h68]
   refine hops_cons rfl (hop_load rfl (by solve_by_elim [hS, hN, hT, hT']) (by first | rfl | assumption | exact mid_get0 rfl | exact mid_get rfl | (simp; done)) ?_)
   try simp only [nf, Nat.reduceAdd, List.drop_zero, take_rqc, h68]
   refine hops_cons rfl (hop_bin rfl rfl rfl ?_)
   try simp only [nf, Nat.reduceAdd, List.drop_zero, take_rqc, h68]
   refine oM ?_
   try simp only [nf, Nat.reduceAdd, List.drop_zero, take_rqc, h68]
   first
    | refine hops_off' rfl rfl (by rfl) ?_
    | refine hops_un rfl rfl ?_
    | (refine hops_on' rfl rfl (by rfl) (hop_fieldAddr rfl ?_))
    | (refine hops_gp (v := ?vg13) rfl rfl (fun hgp => ?hv13) ?hh13; case hv13 => ((try simp only [hgp, if_true, ev, List.getD_cons_zero, List.getD_cons_succ]); refine hop_fieldAddr rfl ?_; rfl))
   try simp only [nf, Nat.reduceAdd, List.drop_zero, take_rqc, h68]
   first
    | refine hops_off' rfl rfl (by rfl) ?_
    | refine hops_un rfl rfl ?_
    | (refine hops_on' rfl rfl (by rfl) (hop_load rfl (by solve_by_elim [hS, hN, hT, hT']) (by first | rfl | assumption | exact mid_get0 rfl | exact mid_get rfl | (simp; done)) ?_))
    | (refine hops_gp (v := ?vg14) rfl rfl (fun hgp => ?hv14) ?hh14; case hv14 => ((try simp only [hgp, if_true, ev, List.getD_cons_zero, List.getD_cons_succ]); refine hop_load rfl (by solve_by_elim [hS, hN, hT, hT']) (by first | rfl | assumption | exact mid_get0 rfl | exact mid_get rfl | (simp; done)) ?_; rfl))
   try simp only [nf, Nat.reduceAdd, List.drop_zero, take_rqc, h68]
   first
    | refine hops_off' rfl rfl (by rfl) ?_
    | refine hops_un rfl rfl ?_
    | (refine hops_on' rfl rfl (by rfl) (hop_bin rfl rfl rfl ?_))
    | (refine hops_gp (v := ?vg15) rfl rfl (fun hgp => ?hv15) ?hh15; case hv15 => ((try simp only [hgp, if_true, ev, List.getD_cons_zero, List.getD_cons_succ]); refine hop_bin rfl rfl rfl ?_; rfl))
   try simp only [nf, Nat.reduceAdd, List.drop_zero, take_rqc, h68]
   refine hops_cons rfl (hop_pick rfl ?_)
   try simp only [nf, Nat.reduceAdd, List.drop_zero, take_rqc, h68]
   refine oM ?_
   try simp only [nf, Nat.reduceAdd, List.drop_zero, take_rqc, h68]
   first
    | refine hops_off' rfl rfl (by rfl) ?_
    | refine hops_un rfl rfl ?_
    | (refine hops_on' rfl rfl (by rfl) (hop_fieldAddr rfl ?_))
    | (refine hops_gp (v := ?vg16) rfl rfl (fun hgp => ?hv16) ?hh16; case hv16 => ((try simp only [hgp, if_true, ev, List.getD_cons_zero, List.getD_cons_succ]); refine hop_fieldAddr rfl ?_; rfl))
   try simp only [nf, Nat.reduceAdd, List.drop_zero, take_rqc, h68]
   first
    | refine hops_off' rfl rfl (by rfl) ?_
    | refine hops_un rfl rfl ?_
    | (refine hops_on' rfl rfl (by rfl) (hop_load rfl (by solve_by_elim [hS, hN, hT, hT']) (by first | rfl | assumption | exact mid_get0 rfl | exact mid_get rfl | (simp; done)) ?_))
    | (refine hops_gp (v := ?vg17) rfl rfl (fun hgp => ?hv17) ?hh17; case hv17 => ((try simp only [hgp, if_true, ev, List.getD_cons_zero, List.getD_cons_succ]); refine hop_load rfl (by solve_by_elim [hS, hN, hT, hT']) (by first | rfl | assumption | exact mid_get0 rfl | exact mid_get rfl | (simp; done)) ?_; rfl))
   try simp only [nf, Nat.reduceAdd, List.drop_zero, take_rqc, h68]
   first
    | refine hops_off' rfl rfl (by rfl) ?_
    | refine hops_un rfl rfl ?_
    | (refine hops_on' rfl rfl (by rfl) (hop_bin rfl rfl rfl ?_))
    | (refine hops_gp (v := ?vg18) rfl rfl (fun hgp => ?hv18) ?hh18; case hv18 => ((try simp only [hgp, if_true, ev, List.getD_cons_zero, List.getD_cons_succ]); refine hop_bin rfl rfl rfl ?_; rfl))
   try simp only [nf, Nat.reduceAdd, List.drop_zero, take_rqc, h68]
   refine hops_cons rfl (hop_pick rfl ?_)
   try simp only [nf, Nat.reduceAdd, List.drop_zero, take_rqc, h68]
   refine oM ?_
   try simp only [nf, Nat.reduceAdd, List.drop_zero, take_rqc, h68]
   first
    | refine hops_off' rfl rfl (by rfl) ?_
    | refine hops_un rfl rfl ?_
    | (refine hops_on' rfl rfl (by rfl) (hop_fieldAddr rfl ?_))
    | (refine hops_gp (v := ?vg19) rfl rfl (fun hgp => ?hv19) ?hh19; case hv19 => ((try simp only [hgp, if_true, ev, List.getD_cons_zero, List.getD_cons_succ]); refine hop_fieldAddr rfl ?_; rfl))
   try simp only [nf, Nat.reduceAdd, List.drop_zero, take_rqc, h68]
   first
    | refine hops_off' rfl rfl (by rfl) ?_
    | refine hops_un rfl rfl ?_
    | (refine hops_on' rfl rfl (by rfl) (hop_load rfl (by solve_by_elim [hS, hN, hT, hT']) (by first | rfl | assumption | exact mid_get0 rfl | exact mid_get rfl | (simp; done)) ?_))
    | (refine hops_gp (v := ?vg20) rfl rfl (fun hgp => ?hv20) ?hh20; case hv20 => ((try simp only [hgp, if_true, ev, List.getD_cons_zero, List.getD_cons_succ]); refine hop_load rfl (by solve_by_elim [hS, hN, hT, hT']) (by first | rfl | assumption | exact mid_get0 rfl | exact mid_get rfl | (simp; done)) ?_; rfl))
   try simp only [nf, Nat.reduceAdd, List.drop_zero, take_rqc, h68]
   first
    | refine hops_off' rfl rfl (by rfl) ?_
    | refine hops_un rfl rfl ?_
    | (refine hops_on' rfl rfl (by rfl) (hop_fieldAddr rfl ?_))
    | (refine hops_gp (v := ?vg21) rfl rfl (fun hgp => ?hv21) ?hh21; case hv21 => ((try simp only [hgp, if_true, ev, List.getD_cons_zero, List.getD_cons_succ]); refine hop_fieldAddr rfl ?_; rfl))
   try simp only [nf, Nat.reduceAdd, List.drop_zero, take_rqc, h68]
   first
    | refine hops_off' rfl rfl (by rfl) ?_
    | refine hops_un rfl rfl ?_
    | (refine hops_on' rfl rfl (by rfl) (hop_load rfl (by solve_by_elim [hS, hN, hT, hT']) (by first | rfl | assumption | exact mid_get0 rfl | exact mid_get rfl | (simp; done)) ?_))
    | (refine hops_gp (v := ?vg22) rfl rfl (fun hgp => ?hv22) ?hh22; case hv22 => ((try simp only [hgp, if_true, ev, List.getD_cons_zero, List.getD_cons_succ]); refine hop_load rfl (by solve_by_elim [hS, hN, hT, hT']) (by first | rfl | assumption | exact mid_get0 rfl | exact mid_get rfl | (simp; done)) ?_; rfl))
   try simp only [nf, Nat.reduceAdd, List.drop_zero, take_rqc, h68]
   first
    | refine hops_off' rfl rfl (by rfl) ?_
    | refine hops_un rfl rfl ?_
    | (refine hops_on' rfl rfl (by rfl) (hop_sub rfl rfl (by simp at hgp; omega) ?_))
    | (refine hops_gp (v := ?vg23) rfl rfl (fun hgp => ?hv23) ?hh23; case hv23 => ((try simp only [hgp, if_true, ev, List.getD_cons_zero, List.getD_cons_succ]); refine hop_sub rfl rfl (by simp at hgp; omega) ?_; rfl))
   try simp only [nf, Nat.reduceAdd, List.drop_zero, take_rqc, h68]
   first
    | refine hops_off' rfl rfl (by rfl) ?_
    | refine hops_un rfl rfl ?_
    | (refine hops_on' rfl rfl (by rfl) (hop_bin rfl rfl rfl ?_))
    | (refine hops_gp (v := ?vg24) rfl rfl (fun hgp => ?hv24) ?hh24; case hv24 => ((try simp only [hgp, if_true, ev, List.getD_cons_zero, List.getD_cons_succ]); refine hop_bin rfl rfl rfl ?_; rfl))
   try simp only [nf, Nat.reduceAdd, List.drop_zero, take_rqc, h68]
   refine hops_cons rfl (hop_pick rfl ?_)
   try simp only [nf, Nat.reduceAdd, List.drop_zero, take_rqc, h68]
   refine oM ?_
   try simp only [nf, Nat.reduceAdd, List.drop_zero, take_rqc, h68]
   first
    | refine hops_off' rfl rfl (by rfl) ?_
    | refine hops_un rfl rfl ?_
    | (refine hops_on' rfl rfl (by rfl) (hop_fieldAddr rfl ?_))
    | (refine hops_gp (v := ?vg25) rfl rfl (fun hgp => ?hv25) ?hh25; case hv25 => ((try simp only [hgp, if_true, ev, List.getD_cons_zero, List.getD_cons_succ]); refine hop_fieldAddr rfl ?_; rfl))
   try simp only [nf, Nat.reduceAdd, List.drop_zero, take_rqc, h68]
   first
    | refine hops_off' rfl rfl (by rfl) ?_
    | refine hops_un rfl rfl ?_
    | (refine hops_on' rfl rfl (by rfl) (hop_load rfl (by solve_by_elim [hS, hN, hT, hT']) (by first | rfl | assumption | exact mid_get0 rfl | exact mid_get rfl | (simp; done)) ?_))
    | (refine hops_gp (v := ?vg26) rfl rfl (fun hgp => ?hv26) ?hh26; case hv26 => ((try simp only [hgp, if_true, ev, List.getD_cons_zero, List.getD_cons_succ]); refine hop_load rfl (by solve_by_elim [hS, hN, hT, hT']) (by first | rfl | assumption | exact mid_get0 rfl | exact mid_get rfl | (simp; done)) ?_; rfl))
   try simp only [nf, Nat.reduceAdd, List.drop_zero, take_rqc, h68]
   first
    | refine hops_off' rfl rfl (by rfl) ?_
    | refine hops_un rfl rfl ?_
    | (refine hops_on' rfl rfl (by rfl) (hop_lenS rfl ?_))
    | (refine hops_gp (v := ?vg27) rfl rfl (fun hgp => ?hv27) ?hh27; case hv27 => ((try simp only [hgp, if_true, ev, List.getD_cons_zero, List.getD_cons_succ]); refine hop_lenS rfl ?_; rfl))
   try simp only [nf, Nat.reduceAdd, List.drop_zero, take_rqc, h68]
   first
    | refine hops_off' rfl rfl (by rfl) ?_
    | refine hops_un rfl rfl ?_
    | (refine hops_on' rfl rfl (by rfl) (hop_fieldAddr rfl ?_))
    | (refine hops_gp (v := ?vg28) rfl rfl (fun hgp => ?hv28) ?hh28; case hv28 => ((try simp only [hgp, if_true, ev, List.getD_cons_zero, List.getD_cons_succ]); refine hop_fieldAddr rfl ?_; rfl))
   try simp only [nf, Nat.reduceAdd, List.drop_zero, take_rqc, h68]
   first
    | refine hops_off' rfl rfl (by rfl) ?_
    | refine hops_un rfl rfl ?_
    | (refine hops_on' rfl rfl (by rfl) (hop_load rfl (by solve_by_elim [hS, hN, hT, hT']) (by first | rfl | assumption | exact mid_get0 rfl | exact mid_get rfl | (simp; done)) ?_))
    | (refine hops_gp (v := ?vg29) rfl rfl (fun hgp => ?hv29) ?hh29; case hv29 => ((try simp only [hgp, if_true, ev, List.getD_cons_zero, List.getD_cons_succ]); refine hop_load rfl (by solve_by_elim [hS, hN, hT, hT']) (by first | rfl | assumption | exact mid_get0 rfl | exact mid_get rfl | (simp; done)) ?_; rfl))
   try simp only [nf, Nat.reduceAdd, List.drop_zero, take_rqc, h68]
   first
    | refine hops_off' rfl rfl (by rfl) ?_
    | refine hops_un rfl rfl ?_
    | (refine hops_on' rfl rfl (by rfl) (hop_sub rfl rfl (by simp at hgp; omega) ?_))
    | (refine hops_gp (v := ?vg30) rfl rfl (fun hgp => ?hv30) ?hh30; case hv30 => ((try simp only [hgp, if_true, ev, List.getD_cons_zero, List.getD_cons_succ]); refine hop_sub rfl rfl (by simp at hgp; omega) ?_; rfl))
   try simp only [nf, Nat.reduceAdd, List.drop_zero, take_rqc, h68]
   first
    | refine hops_off' rfl rfl (by rfl) ?_
    | refine hops_un rfl rfl ?_
    | (refine hops_on' rfl rfl (by rfl) (hop_bin rfl rfl rfl ?_))
    | (refine hops_gp (v := ?vg31) rfl rfl (fun hgp => ?hv31) ?hh31; case hv31 => ((try simp only [hgp, if_true, ev, List.getD_cons_zero, List.getD_cons_succ]); refine hop_bin rfl rfl rfl ?_; rfl))
   try simp only [nf, Nat.reduceAdd, List.drop_zero, take_rqc, h68]
   refine hops_cons rfl (hop_pick rfl ?_)
   try simp only [nf, Nat.reduceAdd, List.drop_zero, take_rqc, h68]
   refine hops_nil ?_
   try simp only [nf, Nat.reduceAdd, List.drop_zero, take_rqc, h68]
   refine hc_cond rfl (fun hc2 => ?_) (fun hc2 => ?_)
   ·
    try simp at hc2
    refine sR ?_
    refine oA ?_
    try simp only [nf, Nat.reduceAdd, List.drop_zero, take_rqc, h68]
    refine hops_nil ?_
    try simp only [nf, Nat.reduceAdd, List.drop_zero, take_rqc, h68]
    refine hc_ret ?_
    try simp only [hng, hthen, hblock]
    refine hend_tmp_sub rfl sub ⟨?_, rfl⟩
    simp_all [checkE] <;> omega
   ·
    try simp at hc2
    refine hc_skip ?_
    try simp only [nf, Nat.reduceAdd, List.drop_zero, take_rqc, h68]
    refine sR ?_
    refine oA ?_
    try simp only [nf, Nat.reduceAdd, List.drop_zero, take_rqc, h68]
    refine hops_nil ?_
    try simp only [nf, Nat.reduceAdd, List.drop_zero, take_rqc, h68]
    refine hc_ret ?_
    try simp only [hng, hthen, hblock]
    refine hend_tmp_sub rfl sub ⟨?_, rfl⟩
    simp_all [checkE] <;> omega
end Go.Proofs.Try
