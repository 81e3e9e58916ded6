/- A part of the proofs over the tenants of a page cache: lemmas on what is known of the memory, and contracts of the Go functions. -/
import Derived.Test.YtckokpmljhhhcaaF1
import Derived.Test.YtckokpmljhhhcaaF2
set_option linter.unusedVariables false
set_option linter.unusedSimpArgs false
namespace Go.Proofs.Try
open Go Go.H
set_option linter.unusedSimpArgs false
set_option linter.unusedVariables false
set_option maxRecDepth 100000
set_option maxHeartbeats 2000000
def partRow (fb n tb hand : Nat) : List Value := [.slice (some ⟨fb, 0, none⟩) n n, .map (some tb), .int .i64 (hand : Int)]
theorem hop_allocFr {l : List Value} {H : Hp} {K : Value → Hp → Prop} {d : Option Tmp} {ty : TypeId} {pos : String} {aft : Array Edge} {g : Option (Nat × Bool)} (h : ∀ b, H b = none → K (.pointer (some ⟨b, 0, none⟩)) (H.set b (row (frc Fr.zero) 129))) : hop false prog ⟨d, .alloc 129, ty, pos, aft, g⟩ l H K :=
  hop_alloc (zl := frc Fr.zero) (by rw [frc_zero]; rfl) h
theorem frc37 {fr : List Fr} (hb : ∀ f ∈ fr, f.b.length = 32) : ∀ f ∈ fr, (frc f).length = 37 := fun f h => frc_length (hb f h)
theorem frA {fr : List Fr} (hb : ∀ f ∈ fr, f.b.length = 32) {i : Nat} (hi : i ≤ fr.length) : (flat frc (fr.take i)).length = i * 37 := by
  rw [flat_length (n := 37) _ (fun f h => frc37 hb f (List.mem_of_mem_take h)), List.length_take, Nat.min_eq_left hi]
theorem one_fr (fr : List Fr) : ∀ v ∈ flat frc fr, v.oneCell' = true := by
  intro v h
  simp only [flat, List.mem_flatten, List.mem_map] at h
  obtain ⟨_, ⟨f, _, rfl⟩, h⟩ := h
  exact one_frc f v h
theorem part_in {H : Hp} {p fb tb n : Nat} {hand : Nat} (hp : H p = some (row (partRow fb n tb hand) 72)) {i : Int} :
    HT prog 58 #[.pointer (some ⟨p, 0, none⟩), .int .i64 i] H (fun v H' => v = .bool (decide (0 ≤ i) && decide (i < n)) ∧ H = H') := by
 refine ht_of_body (args := [.pointer (some ⟨p, 0, none⟩), .int .i64 i]) func58 rfl ?_
 simp only [ntmps58, List.length_cons, List.length_nil, Nat.reduceAdd, Nat.reduceSub, List.replicate_succ, List.replicate_zero, List.cons_append, List.nil_append]
 refine sR ?_
 refine oA ?_
 try simp only [nf, Nat.reduceAdd, ge_iff_le]
 refine hops_nil ?_
 try simp only [nf, Nat.reduceAdd, ge_iff_le]
 refine sR ?_
 refine oM ?_
 try simp only [nf, Nat.reduceAdd, ge_iff_le]
 refine hops_cons rfl (hop_bin rfl rfl rfl ?_)
 try simp only [nf, Nat.reduceAdd, ge_iff_le]
 refine oM ?_
 try simp only [nf, Nat.reduceAdd, ge_iff_le]
 first
  | refine hops_off' rfl rfl (by rfl) ?_
  | refine hops_un rfl rfl ?_
  | (refine hops_on' rfl rfl (by rfl) (hop_move ?_))
  | (refine hops_gp (v := ?vg1) rfl rfl (fun hgp => ?hv1) ?hh1; case hv1 => ((try simp only [hgp, if_true, ev, List.getD_cons_zero, List.getD_cons_succ]); refine hop_move ?_; rfl))
 try simp only [nf, Nat.reduceAdd, ge_iff_le]
 first
  | refine hops_off' rfl rfl (by rfl) ?_
  | refine hops_un rfl rfl ?_
  | (refine hops_on' rfl rfl (by rfl) (hop_move ?_))
  | (refine hops_gp (v := ?vg2) rfl rfl (fun hgp => ?hv2) ?hh2; case hv2 => ((try simp only [hgp, if_true, ev, List.getD_cons_zero, List.getD_cons_succ]); refine hop_move ?_; rfl))
 try simp only [nf, Nat.reduceAdd, ge_iff_le]
 first
  | refine hops_off' rfl rfl (by rfl) ?_
  | refine hops_un rfl rfl ?_
  | (refine hops_on' rfl rfl (by rfl) (hop_nilCheck rfl ?_))
  | (refine hops_gp (v := ?vg3) rfl rfl (fun hgp => ?hv3) ?hh3; case hv3 => ((try simp only [hgp, if_true, ev, List.getD_cons_zero, List.getD_cons_succ]); refine hop_nilCheck rfl ?_; rfl))
 try simp only [nf, Nat.reduceAdd, ge_iff_le]
 first
  | refine hops_off' rfl rfl (by rfl) ?_
  | refine hops_un rfl rfl ?_
  | (refine hops_on' rfl rfl (by rfl) (hop_fieldAddr rfl ?_))
  | (refine hops_gp (v := ?vg4) rfl rfl (fun hgp => ?hv4) ?hh4; case hv4 => ((try simp only [hgp, if_true, ev, List.getD_cons_zero, List.getD_cons_succ]); refine hop_fieldAddr rfl ?_; rfl))
 try simp only [nf, Nat.reduceAdd, ge_iff_le]
 first
  | refine hops_off' rfl rfl (by rfl) ?_
  | refine hops_un rfl rfl ?_
  | (refine hops_on' rfl rfl (by rfl) (hop_load rfl (by solve_by_elim [hS, hN, hT, hT']) (by first | rfl | assumption | exact mid_get0 rfl | exact mid_get rfl | (simp; done)) ?_))
  | (refine hops_gp (v := ?vg5) rfl rfl (fun hgp => ?hv5) ?hh5; case hv5 => ((try simp only [hgp, if_true, ev, List.getD_cons_zero, List.getD_cons_succ]); refine hop_load rfl (by solve_by_elim [hS, hN, hT, hT']) (by first | rfl | assumption | exact mid_get0 rfl | exact mid_get rfl | (simp; done)) ?_; rfl))
 try simp only [nf, Nat.reduceAdd, ge_iff_le]
 first
  | refine hops_off' rfl rfl (by rfl) ?_
  | refine hops_un rfl rfl ?_
  | (refine hops_on' rfl rfl (by rfl) (hop_lenS rfl ?_))
  | (refine hops_gp (v := ?vg6) rfl rfl (fun hgp => ?hv6) ?hh6; case hv6 => ((try simp only [hgp, if_true, ev, List.getD_cons_zero, List.getD_cons_succ]); refine hop_lenS rfl ?_; rfl))
 try simp only [nf, Nat.reduceAdd, ge_iff_le]
 first
  | refine hops_off' rfl rfl (by rfl) ?_
  | refine hops_un rfl rfl ?_
  | (refine hops_on' rfl rfl (by rfl) (hop_bin rfl rfl rfl ?_))
  | (refine hops_gp (v := ?vg7) rfl rfl (fun hgp => ?hv7) ?hh7; case hv7 => ((try simp only [hgp, if_true, ev, List.getD_cons_zero, List.getD_cons_succ]); refine hop_bin rfl rfl rfl ?_; rfl))
 try simp only [nf, Nat.reduceAdd, ge_iff_le]
 refine hops_cons rfl (hop_pick rfl ?_)
 try simp only [nf, Nat.reduceAdd, ge_iff_le]
 refine oA ?_
 try simp only [nf, Nat.reduceAdd, ge_iff_le]
 refine hops_nil ?_
 try simp only [nf, Nat.reduceAdd, ge_iff_le]
 refine hc_ret ?_
 try simp only [hng, hthen, hblock]
 refine hend_tmp rfl ?_
 exact ⟨by simp, rfl⟩
theorem part_Find {H : Hp} {p fb tb n : Nat} {fr : List Fr} {hand : Nat} {ot : Obj} (hp : H p = some (row (partRow fb n tb hand) 72)) (hf : H fb = some (row (flat frc fr) 129)) (ho : H tb = some ot) (hm : MapI ot (tabF fr)) (hn : fr.length = n) (hb : ∀ f ∈ fr, f.b.length = 32) {pg : Int} :
    HT prog 55 #[.pointer (some ⟨p, 0, none⟩), .int .i64 pg] H (fun v H' => v = .tuple #[(tabF fr pg).getD (.int .i64 0), .bool (tabF fr pg).isSome] ∧ H = H') := by
 refine ht_of_body (args := [.pointer (some ⟨p, 0, none⟩), .int .i64 pg]) func55 rfl ?_
 simp only [ntmps55, List.length_cons, List.length_nil, Nat.reduceAdd, Nat.reduceSub, List.replicate_succ, List.replicate_zero, List.cons_append, List.nil_append]
 refine sR ?_
 refine oA ?_
 try simp only [nf, Nat.reduceAdd]
 refine oA ?_
 try simp only [nf, Nat.reduceAdd]
 refine hops_nil ?_
 try simp only [nf, Nat.reduceAdd]
 refine sR ?_
 refine oM ?_
 try simp only [nf, Nat.reduceAdd]
 refine oN rfl ?_
 try simp only [nf, Nat.reduceAdd]
 refine oF rfl ?_
 try simp only [nf, Nat.reduceAdd]
 refine hops_cons rfl (hop_load rfl (by solve_by_elim [hS, hN, hT, hT']) (by first | rfl | assumption | exact mid_get0 rfl | exact mid_get rfl | (simp; done)) ?_)
 try simp only [nf, Nat.reduceAdd]
 refine oM ?_
 try simp only [nf, Nat.reduceAdd]
 refine hops_cons rfl (hop_lookup rfl rfl ho hm rfl ?_)
 try simp only [nf, Nat.reduceAdd]
 refine oM ?_
 try simp only [nf, Nat.reduceAdd]
 refine hops_cons rfl (hop_extract rfl rfl ?_)
 try simp only [nf, Nat.reduceAdd]
 refine hops_cons rfl (hop_extract rfl rfl ?_)
 try simp only [nf, Nat.reduceAdd]
 refine oA ?_
 try simp only [nf, Nat.reduceAdd]
 refine oA ?_
 try simp only [nf, Nat.reduceAdd]
 refine hops_nil ?_
 try simp only [nf, Nat.reduceAdd]
 refine sR ?_
 refine oM ?_
 try simp only [nf, Nat.reduceAdd]
 refine oM ?_
 try simp only [nf, Nat.reduceAdd]
 refine oA ?_
 try simp only [nf, Nat.reduceAdd]
 refine oA ?_
 try simp only [nf, Nat.reduceAdd]
 refine hops_nil ?_
 try simp only [nf, Nat.reduceAdd]
 refine hc_ret ?_
 try simp only [hng, hthen, hblock]
 refine hend_tmp2 rfl ?_
 exact ⟨rfl, rfl⟩
theorem part_Find_no {H : Hp} {p fb tb n : Nat} {fr : List Fr} {hand : Nat} {ot : Obj} (hp : H p = some (row (partRow fb n tb hand) 72)) (hf : H fb = some (row (flat frc fr) 129)) (ho : H tb = some ot) (hm : MapI ot (tabF fr)) (hn : fr.length = n) (hb : ∀ f ∈ fr, f.b.length = 32) {pg : Int} (h : findPage fr pg = none) :
    HT prog 55 #[.pointer (some ⟨p, 0, none⟩), .int .i64 pg] H (fun v H' => v = .tuple #[.int .i64 0, .bool false] ∧ H = H') :=
  (part_Find hp hf ho hm hn hb).mono (by rintro _ _ ⟨rfl, rfl⟩; simp [tabF, h])
theorem part_Find_yes {H : Hp} {p fb tb n : Nat} {fr : List Fr} {hand : Nat} {ot : Obj} (hp : H p = some (row (partRow fb n tb hand) 72)) (hf : H fb = some (row (flat frc fr) 129)) (ho : H tb = some ot) (hm : MapI ot (tabF fr)) (hn : fr.length = n) (hb : ∀ f ∈ fr, f.b.length = 32) {pg : Int} {i : Nat} (h : findPage fr pg = some i) :
    HT prog 55 #[.pointer (some ⟨p, 0, none⟩), .int .i64 pg] H (fun v H' => v = .tuple #[.int .i64 (i : Nat), .bool true] ∧ H = H') :=
  (part_Find hp hf ho hm hn hb).mono (by rintro _ _ ⟨rfl, rfl⟩; simp [tabF, h])
theorem part_of_no {H : Hp} {p fb tb n : Nat} {fr : List Fr} {hand : Nat} {ot : Obj} (hp : H p = some (row (partRow fb n tb hand) 72)) (hf : H fb = some (row (flat frc fr) 129)) (ho : H tb = some ot) (hm : MapI ot (tabF fr)) (hn : fr.length = n) (hb : ∀ f ∈ fr, f.b.length = 32) {pg : Int} (h : findPage fr pg = none) {fv : Value} :
    HT prog 61 #[.pointer (some ⟨p, 0, none⟩), .int .i64 pg, fv] H (fun v H' => v = .int .i64 6 ∧ H = H') := by
 refine ht_of_body (args := [.pointer (some ⟨p, 0, none⟩), .int .i64 pg, fv]) func61 rfl ?_
 simp only [ntmps61, List.length_cons, List.length_nil, Nat.reduceAdd, Nat.reduceSub, List.replicate_succ, List.replicate_zero, List.cons_append, List.nil_append]
 refine sR ?_
 refine oA ?_
 try simp only [nf, Nat.reduceAdd]
 refine hops_nil ?_
 try simp only [nf, Nat.reduceAdd]
 refine sR ?_
 refine oM ?_
 try simp only [nf, Nat.reduceAdd]
 refine oM ?_
 try simp only [nf, Nat.reduceAdd]
 refine hops_cons rfl (hop_call ?_)
 simp only [nf, Nat.reduceAdd]
 refine HT.mono (part_Find_no hp hf ho hm hn hb h) ?_
 rintro _ _ ⟨rfl, rfl⟩
 try simp only [nf, Nat.reduceAdd]
 refine oM ?_
 try simp only [nf, Nat.reduceAdd]
 refine hops_cons rfl (hop_extract rfl rfl ?_)
 try simp only [nf, Nat.reduceAdd]
 refine hops_cons rfl (hop_extract rfl rfl ?_)
 try simp only [nf, Nat.reduceAdd]
 refine oA ?_
 try simp only [nf, Nat.reduceAdd]
 refine oA ?_
 try simp only [nf, Nat.reduceAdd]
 refine hops_nil ?_
 try simp only [nf, Nat.reduceAdd]
 refine hc_seq ?_
 refine sR ?_
 refine oM ?_
 try simp only [nf, Nat.reduceAdd]
 refine hops_cons rfl (hop_not rfl ?_)
 try simp only [nf, Nat.reduceAdd]
 refine hops_nil ?_
 try simp only [nf, Nat.reduceAdd]
 refine hc_T rfl (by first | rfl | assumption | (simp; done) | (simp; omega) | (simp [*]; done)) ?_
 refine sR ?_
 refine oA ?_
 try simp only [nf, Nat.reduceAdd]
 refine hops_nil ?_
 try simp only [nf, Nat.reduceAdd]
 refine hc_ret ?_
 try simp only [hng, hthen, hblock]
 refine hend_tmp rfl ?_
 exact ⟨rfl, rfl⟩
theorem part_of_fn {H : Hp} {p fb tb n : Nat} {fr : List Fr} {hand : Nat} {ot : Obj} (hp : H p = some (row (partRow fb n tb hand) 72)) (hf : H fb = some (row (flat frc fr) 129)) (ho : H tb = some ot) (hm : MapI ot (tabF fr)) (hn : fr.length = n) (hb : ∀ f ∈ fr, f.b.length = 32) {i : Nat} {f : Fr} (hi : fr[i]? = some f) {Q : Value → Hp → Prop} {pg : Int} (h : findPage fr pg = some i) {g : FuncId} {first capt : Array Value} [Ent prog g] (hq : HT prog g (first ++ #[.pointer (some ⟨fb, i * 37, none⟩)] ++ capt) H Q) :
    HT prog 61 #[.pointer (some ⟨p, 0, none⟩), .int .i64 pg, .func (.func g) first capt] H Q := by
 have hil : i < fr.length := (List.getElem?_eq_some_iff.1 hi).1
 have hA := frA hb (Nat.le_of_lt hil)
 have hf32 := hb f (List.mem_of_getElem? hi)
 have hsp := flat_split (c := frc) hi
 have hpf := ne_row hp hf (by decide)
 have hpt := ne_map hp ho hm
 have hft := ne_map hf ho hm
 have hfs : H fb = some (row (flat frc (fr.take i) ++ frc f ++ flat frc (fr.drop (i + 1))) 129) := by rw [← hsp]; exact hf
 have htf := Ne.symm hft
 have htp := Ne.symm hpt
 have hfp := Ne.symm hpf
 have hlen : i * 37 + 37 ≤ (flat frc fr).length := by
   rw [flat_length (n := 37) _ (frc37 hb)]
   have := Nat.mul_le_mul_right 37 hil
   omega
 refine ht_of_body (args := [.pointer (some ⟨p, 0, none⟩), .int .i64 pg, .func (.func g) first capt]) func61 rfl ?_
 simp only [ntmps61, List.length_cons, List.length_nil, Nat.reduceAdd, Nat.reduceSub, List.replicate_succ, List.replicate_zero, List.cons_append, List.nil_append]
 refine sR ?_
 refine oA ?_
 try simp only [nf, Nat.reduceAdd]
 refine hops_nil ?_
 try simp only [nf, Nat.reduceAdd]
 refine sR ?_
 refine oM ?_
 try simp only [nf, Nat.reduceAdd]
 refine oM ?_
 try simp only [nf, Nat.reduceAdd]
 refine hops_cons rfl (hop_call ?_)
 simp only [nf, Nat.reduceAdd]
 refine HT.mono (part_Find_yes hp hf ho hm hn hb h) ?_
 rintro _ _ ⟨rfl, rfl⟩
 try simp only [nf, Nat.reduceAdd]
 refine oM ?_
 try simp only [nf, Nat.reduceAdd]
 refine hops_cons rfl (hop_extract rfl rfl ?_)
 try simp only [nf, Nat.reduceAdd]
 refine hops_cons rfl (hop_extract rfl rfl ?_)
 try simp only [nf, Nat.reduceAdd]
 refine oA ?_
 try simp only [nf, Nat.reduceAdd]
 refine oA ?_
 try simp only [nf, Nat.reduceAdd]
 refine hops_nil ?_
 try simp only [nf, Nat.reduceAdd]
 refine hc_seq ?_
 refine sR ?_
 refine oM ?_
 try simp only [nf, Nat.reduceAdd]
 refine hops_cons rfl (hop_not rfl ?_)
 try simp only [nf, Nat.reduceAdd]
 refine hops_nil ?_
 try simp only [nf, Nat.reduceAdd]
 refine hc_F rfl (by first | rfl | assumption | (simp; done) | (simp; omega) | (simp [*]; done)) ?_
 refine hc_skip ?_
 try simp only [nf, Nat.reduceAdd]
 refine sR ?_
 refine oM ?_
 try simp only [nf, Nat.reduceAdd]
 refine oM ?_
 try simp only [nf, Nat.reduceAdd]
 refine oN rfl ?_
 try simp only [nf, Nat.reduceAdd]
 refine oF rfl ?_
 try simp only [nf, Nat.reduceAdd]
 refine hops_cons rfl (hop_load rfl (by solve_by_elim [hS, hN, hT, hT']) (by first | rfl | assumption | exact mid_get0 rfl | exact mid_get rfl | (simp; done)) ?_)
 try simp only [nf, Nat.reduceAdd]
 refine oM ?_
 try simp only [nf, Nat.reduceAdd]
 refine hops_cons rfl (hop_indexAddr (i := (i : Int)) (b := fb) (o := 0) (n := 37) (len := n) (cap := n) rfl rfl (by omega) (by omega) ?_)
 simp only [Int.toNat_natCast, Nat.zero_add]
 try simp only [pt, ev, List.getD_cons_zero, List.getD_cons_succ, List.set_cons_zero, List.set_cons_succ]
 refine hops_cons rfl (hop_callv rfl ?_)
 simp only [nf, Nat.reduceAdd]
 refine HT.mono hq ?_
 intro v H1 hq1
 refine oA ?_
 try simp only [nf, Nat.reduceAdd]
 refine hops_nil ?_
 try simp only [nf, Nat.reduceAdd]
 refine hc_ret ?_
 try simp only [hng, hthen, hblock]
 refine hend_tmp rfl ?_
 exact hq1
theorem part_of_m {H : Hp} {p fb tb n : Nat} {fr : List Fr} {hand : Nat} {ot : Obj} (hp : H p = some (row (partRow fb n tb hand) 72)) (hf : H fb = some (row (flat frc fr) 129)) (ho : H tb = some ot) (hm : MapI ot (tabF fr)) (hn : fr.length = n) (hb : ∀ f ∈ fr, f.b.length = 32) {i : Nat} {f : Fr} (hi : fr[i]? = some f) {Q : Value → Hp → Prop} {pg : Int} (h : findPage fr pg = some i) {t : TypeId} {name : String} {g : FuncId} [Mth prog t name g 0] [Ent prog g] (hq : HT prog g #[.pointer (some ⟨fb, i * 37, none⟩)] H Q) :
    HT prog 61 #[.pointer (some ⟨p, 0, none⟩), .int .i64 pg, .func (.methodOf t name) #[] #[]] H Q := by
 have hil : i < fr.length := (List.getElem?_eq_some_iff.1 hi).1
 have hA := frA hb (Nat.le_of_lt hil)
 have hf32 := hb f (List.mem_of_getElem? hi)
 have hsp := flat_split (c := frc) hi
 have hpf := ne_row hp hf (by decide)
 have hpt := ne_map hp ho hm
 have hft := ne_map hf ho hm
 have hfs : H fb = some (row (flat frc (fr.take i) ++ frc f ++ flat frc (fr.drop (i + 1))) 129) := by rw [← hsp]; exact hf
 have htf := Ne.symm hft
 have htp := Ne.symm hpt
 have hfp := Ne.symm hpf
 have hlen : i * 37 + 37 ≤ (flat frc fr).length := by
   rw [flat_length (n := 37) _ (frc37 hb)]
   have := Nat.mul_le_mul_right 37 hil
   omega
 refine ht_of_body (args := [.pointer (some ⟨p, 0, none⟩), .int .i64 pg, .func (.methodOf t name) #[] #[]]) func61 rfl ?_
 simp only [ntmps61, List.length_cons, List.length_nil, Nat.reduceAdd, Nat.reduceSub, List.replicate_succ, List.replicate_zero, List.cons_append, List.nil_append]
 refine sR ?_
 refine oA ?_
 try simp only [nf, Nat.reduceAdd]
 refine hops_nil ?_
 try simp only [nf, Nat.reduceAdd]
 refine sR ?_
 refine oM ?_
 try simp only [nf, Nat.reduceAdd]
 refine oM ?_
 try simp only [nf, Nat.reduceAdd]
 refine hops_cons rfl (hop_call ?_)
 simp only [nf, Nat.reduceAdd]
 refine HT.mono (part_Find_yes hp hf ho hm hn hb h) ?_
 rintro _ _ ⟨rfl, rfl⟩
 try simp only [nf, Nat.reduceAdd]
 refine oM ?_
 try simp only [nf, Nat.reduceAdd]
 refine hops_cons rfl (hop_extract rfl rfl ?_)
 try simp only [nf, Nat.reduceAdd]
 refine hops_cons rfl (hop_extract rfl rfl ?_)
 try simp only [nf, Nat.reduceAdd]
 refine oA ?_
 try simp only [nf, Nat.reduceAdd]
 refine oA ?_
 try simp only [nf, Nat.reduceAdd]
 refine hops_nil ?_
 try simp only [nf, Nat.reduceAdd]
 refine hc_seq ?_
 refine sR ?_
 refine oM ?_
 try simp only [nf, Nat.reduceAdd]
 refine hops_cons rfl (hop_not rfl ?_)
 try simp only [nf, Nat.reduceAdd]
 refine hops_nil ?_
 try simp only [nf, Nat.reduceAdd]
 refine hc_F rfl (by first | rfl | assumption | (simp; done) | (simp; omega) | (simp [*]; done)) ?_
 refine hc_skip ?_
 try simp only [nf, Nat.reduceAdd]
 refine sR ?_
 refine oM ?_
 try simp only [nf, Nat.reduceAdd]
 refine oM ?_
 try simp only [nf, Nat.reduceAdd]
 refine oN rfl ?_
 try simp only [nf, Nat.reduceAdd]
 refine oF rfl ?_
 try simp only [nf, Nat.reduceAdd]
 refine hops_cons rfl (hop_load rfl (by solve_by_elim [hS, hN, hT, hT']) (by first | rfl | assumption | exact mid_get0 rfl | exact mid_get rfl | (simp; done)) ?_)
 try simp only [nf, Nat.reduceAdd]
 refine oM ?_
 try simp only [nf, Nat.reduceAdd]
 refine hops_cons rfl (hop_indexAddr (i := (i : Int)) (b := fb) (o := 0) (n := 37) (len := n) (cap := n) rfl rfl (by omega) (by omega) ?_)
 simp only [Int.toNat_natCast, Nat.zero_add]
 try simp only [pt, ev, List.getD_cons_zero, List.getD_cons_succ, List.set_cons_zero, List.set_cons_succ]
 refine hops_cons rfl (hop_callm rfl rfl ?_)
 refine HT.mono hq ?_
 intro v H1 hq1
 refine oA ?_
 try simp only [nf, Nat.reduceAdd]
 refine hops_nil ?_
 try simp only [nf, Nat.reduceAdd]
 refine hc_ret ?_
 try simp only [hng, hthen, hblock]
 refine hend_tmp rfl ?_
 exact hq1
theorem part_Pin_no {H : Hp} {p fb tb n : Nat} {fr : List Fr} {hand : Nat} {ot : Obj} (hp : H p = some (row (partRow fb n tb hand) 72)) (hf : H fb = some (row (flat frc fr) 129)) (ho : H tb = some ot) (hm : MapI ot (tabF fr)) (hn : fr.length = n) (hb : ∀ f ∈ fr, f.b.length = 32) {pg : Int} (h : findPage fr pg = none) :
    HT prog 44 #[.pointer (some ⟨p, 0, none⟩), .int .i64 pg] H (fun v H' => v = .int .i64 6 ∧ H = H') := by
 refine ht_of_body (args := [.pointer (some ⟨p, 0, none⟩), .int .i64 pg]) func44 rfl ?_
 simp only [ntmps44, List.length_cons, List.length_nil, Nat.reduceAdd, Nat.reduceSub, List.replicate_succ, List.replicate_zero, List.cons_append, List.nil_append]
 refine sR ?_
 refine oA ?_
 try simp only [nf, Nat.reduceAdd]
 refine hops_nil ?_
 try simp only [nf, Nat.reduceAdd]
 refine sR ?_
 refine oM ?_
 try simp only [nf, Nat.reduceAdd]
 refine oM ?_
 try simp only [nf, Nat.reduceAdd]
 refine hops_cons rfl (hop_makeFunc ?_)
 try simp only [nf, Nat.reduceAdd]
 refine hops_cons rfl (hop_call ?_)
 simp only [nf, Nat.reduceAdd]
 refine HT.mono (part_of_no hp hf ho hm hn hb h) ?_
 rintro _ _ ⟨rfl, rfl⟩
 try simp only [nf, Nat.reduceAdd]
 refine oA ?_
 try simp only [nf, Nat.reduceAdd]
 refine hops_nil ?_
 try simp only [nf, Nat.reduceAdd]
 refine hc_ret ?_
 try simp only [hng, hthen, hblock]
 refine hend_tmp rfl ?_
 exact ⟨rfl, rfl⟩
theorem part_Pin_q {H : Hp} {p fb tb n : Nat} {fr : List Fr} {hand : Nat} {ot : Obj} (hp : H p = some (row (partRow fb n tb hand) 72)) (hf : H fb = some (row (flat frc fr) 129)) (ho : H tb = some ot) (hm : MapI ot (tabF fr)) (hn : fr.length = n) (hb : ∀ f ∈ fr, f.b.length = 32) {i : Nat} {f : Fr} (hi : fr[i]? = some f) {Q : Value → Hp → Prop} {pg : Int} (h : findPage fr pg = some i) (hq : HT prog 62 #[.pointer (some ⟨fb, i * 37, none⟩)] H Q) :
    HT prog 44 #[.pointer (some ⟨p, 0, none⟩), .int .i64 pg] H Q := by
 refine ht_of_body (args := [.pointer (some ⟨p, 0, none⟩), .int .i64 pg]) func44 rfl ?_
 simp only [ntmps44, List.length_cons, List.length_nil, Nat.reduceAdd, Nat.reduceSub, List.replicate_succ, List.replicate_zero, List.cons_append, List.nil_append]
 refine sR ?_
 refine oA ?_
 try simp only [nf, Nat.reduceAdd]
 refine hops_nil ?_
 try simp only [nf, Nat.reduceAdd]
 refine sR ?_
 refine oM ?_
 try simp only [nf, Nat.reduceAdd]
 refine oM ?_
 try simp only [nf, Nat.reduceAdd]
 refine hops_cons rfl (hop_makeFunc ?_)
 try simp only [nf, Nat.reduceAdd]
 refine hops_cons rfl (hop_call ?_)
 simp only [nf, Nat.reduceAdd]
 refine HT.mono (part_of_m hp hf ho hm hn hb hi h hq) ?_
 intro v H1 hq1
 refine oA ?_
 try simp only [nf, Nat.reduceAdd]
 refine hops_nil ?_
 try simp only [nf, Nat.reduceAdd]
 refine hc_ret ?_
 try simp only [hng, hthen, hblock]
 refine hend_tmp rfl ?_
 exact hq1
theorem part_Unpin_no {H : Hp} {p fb tb n : Nat} {fr : List Fr} {hand : Nat} {ot : Obj} (hp : H p = some (row (partRow fb n tb hand) 72)) (hf : H fb = some (row (flat frc fr) 129)) (ho : H tb = some ot) (hm : MapI ot (tabF fr)) (hn : fr.length = n) (hb : ∀ f ∈ fr, f.b.length = 32) {pg : Int} (h : findPage fr pg = none) :
    HT prog 70 #[.pointer (some ⟨p, 0, none⟩), .int .i64 pg] H (fun v H' => v = .int .i64 6 ∧ H = H') := by
 refine ht_of_body (args := [.pointer (some ⟨p, 0, none⟩), .int .i64 pg]) func70 rfl ?_
 simp only [ntmps70, List.length_cons, List.length_nil, Nat.reduceAdd, Nat.reduceSub, List.replicate_succ, List.replicate_zero, List.cons_append, List.nil_append]
 refine sR ?_
 refine oA ?_
 try simp only [nf, Nat.reduceAdd]
 refine hops_nil ?_
 try simp only [nf, Nat.reduceAdd]
 refine sR ?_
 refine oM ?_
 try simp only [nf, Nat.reduceAdd]
 refine oM ?_
 try simp only [nf, Nat.reduceAdd]
 refine hops_cons rfl (hop_makeFunc ?_)
 try simp only [nf, Nat.reduceAdd]
 refine hops_cons rfl (hop_call ?_)
 simp only [nf, Nat.reduceAdd]
 refine HT.mono (part_of_no hp hf ho hm hn hb h) ?_
 rintro _ _ ⟨rfl, rfl⟩
 try simp only [nf, Nat.reduceAdd]
 refine oA ?_
 try simp only [nf, Nat.reduceAdd]
 refine hops_nil ?_
 try simp only [nf, Nat.reduceAdd]
 refine hc_ret ?_
 try simp only [hng, hthen, hblock]
 refine hend_tmp rfl ?_
 exact ⟨rfl, rfl⟩
theorem part_Unpin_q {H : Hp} {p fb tb n : Nat} {fr : List Fr} {hand : Nat} {ot : Obj} (hp : H p = some (row (partRow fb n tb hand) 72)) (hf : H fb = some (row (flat frc fr) 129)) (ho : H tb = some ot) (hm : MapI ot (tabF fr)) (hn : fr.length = n) (hb : ∀ f ∈ fr, f.b.length = 32) {i : Nat} {f : Fr} (hi : fr[i]? = some f) {Q : Value → Hp → Prop} {pg : Int} (h : findPage fr pg = some i) (hq : HT prog 87 #[.pointer (some ⟨fb, i * 37, none⟩)] H Q) :
    HT prog 70 #[.pointer (some ⟨p, 0, none⟩), .int .i64 pg] H Q := by
 refine ht_of_body (args := [.pointer (some ⟨p, 0, none⟩), .int .i64 pg]) func70 rfl ?_
 simp only [ntmps70, List.length_cons, List.length_nil, Nat.reduceAdd, Nat.reduceSub, List.replicate_succ, List.replicate_zero, List.cons_append, List.nil_append]
 refine sR ?_
 refine oA ?_
 try simp only [nf, Nat.reduceAdd]
 refine hops_nil ?_
 try simp only [nf, Nat.reduceAdd]
 refine sR ?_
 refine oM ?_
 try simp only [nf, Nat.reduceAdd]
 refine oM ?_
 try simp only [nf, Nat.reduceAdd]
 refine hops_cons rfl (hop_makeFunc ?_)
 try simp only [nf, Nat.reduceAdd]
 refine hops_cons rfl (hop_call ?_)
 simp only [nf, Nat.reduceAdd]
 refine HT.mono (part_of_m hp hf ho hm hn hb hi h hq) ?_
 intro v H1 hq1
 refine oA ?_
 try simp only [nf, Nat.reduceAdd]
 refine hops_nil ?_
 try simp only [nf, Nat.reduceAdd]
 refine hc_ret ?_
 try simp only [hng, hthen, hblock]
 refine hend_tmp rfl ?_
 exact hq1
theorem part_Pin_yes {H : Hp} {p fb tb n : Nat} {fr : List Fr} {hand : Nat} {ot : Obj} (hp : H p = some (row (partRow fb n tb hand) 72)) (hf : H fb = some (row (flat frc fr) 129)) (ho : H tb = some ot) (hm : MapI ot (tabF fr)) (hn : fr.length = n) (hb : ∀ f ∈ fr, f.b.length = 32) (hpin : ∀ f ∈ fr, 0 ≤ f.pins) {i : Nat} {f : Fr} (hi : fr[i]? = some f) {pg : Int} (h : findPage fr pg = some i) :
    HT prog 44 #[.pointer (some ⟨p, 0, none⟩), .int .i64 pg] H (fun v H' => v = .int .i64 (pinFr f).1 ∧ H' = H.set fb (row (flat frc (fr.set i (pinFr f).2)) 129)) := by
  have hil : i < fr.length := (List.getElem?_eq_some_iff.1 hi).1
  have hA := frA hb (Nat.le_of_lt hil)
  have hf32 := hb f (List.mem_of_getElem? hi)
  have hsp := flat_split (c := frc) hi
  have hpf := ne_row hp hf (by decide)
  have hpt := ne_map hp ho hm
  have hft := ne_map hf ho hm
  have hfs : H fb = some (row (flat frc (fr.take i) ++ frc f ++ flat frc (fr.drop (i + 1))) 129) := by rw [← hsp]; exact hf
  have htf := Ne.symm hft
  have htp := Ne.symm hpt
  have hfp := Ne.symm hpf
  have hlen : i * 37 + 37 ≤ (flat frc fr).length := by
    rw [flat_length (n := 37) _ (frc37 hb)]
    have := Nat.mul_le_mul_right 37 hil
    omega
  have hp0 := hpin f (List.mem_of_getElem? hi)
  rw [flat_set hi]
  refine part_Pin_q hp hf ho hm hn hb hi h ?_
  rw [← hA]
  unfold pinFr
  by_cases hu : f.used = false
  · rw [if_pos hu]
    refine (Flags_Pin_no hfs hu).mono ?_
    rintro _ _ ⟨rfl, rfl⟩; exact ⟨rfl, (Hp.set_eq _ hfs).symm⟩
  · rw [if_neg hu]
    have hu' : f.used = true := by simpa using hu
    by_cases h1 : 100 ≤ f.pins
    · rw [if_pos h1]
      refine (Flags_Pin_full hfs hu' h1).mono ?_
      rintro _ _ ⟨rfl, rfl⟩; exact ⟨rfl, (Hp.set_eq _ hfs).symm⟩
    · rw [if_neg h1]
      exact Flags_Pin_ok hfs hu' (by omega) hp0
theorem part_Unpin_yes {H : Hp} {p fb tb n : Nat} {fr : List Fr} {hand : Nat} {ot : Obj} (hp : H p = some (row (partRow fb n tb hand) 72)) (hf : H fb = some (row (flat frc fr) 129)) (ho : H tb = some ot) (hm : MapI ot (tabF fr)) (hn : fr.length = n) (hb : ∀ f ∈ fr, f.b.length = 32) (hpin : ∀ f ∈ fr, 0 ≤ f.pins ∧ f.pins ≤ 100) {i : Nat} {f : Fr} (hi : fr[i]? = some f) {pg : Int} (h : findPage fr pg = some i) :
    HT prog 70 #[.pointer (some ⟨p, 0, none⟩), .int .i64 pg] H (fun v H' => v = .int .i64 (unpinFr f).1 ∧ H' = H.set fb (row (flat frc (fr.set i (unpinFr f).2)) 129)) := by
  have hil : i < fr.length := (List.getElem?_eq_some_iff.1 hi).1
  have hA := frA hb (Nat.le_of_lt hil)
  have hf32 := hb f (List.mem_of_getElem? hi)
  have hsp := flat_split (c := frc) hi
  have hpf := ne_row hp hf (by decide)
  have hpt := ne_map hp ho hm
  have hft := ne_map hf ho hm
  have hfs : H fb = some (row (flat frc (fr.take i) ++ frc f ++ flat frc (fr.drop (i + 1))) 129) := by rw [← hsp]; exact hf
  have htf := Ne.symm hft
  have htp := Ne.symm hpt
  have hfp := Ne.symm hpf
  have hlen : i * 37 + 37 ≤ (flat frc fr).length := by
    rw [flat_length (n := 37) _ (frc37 hb)]
    have := Nat.mul_le_mul_right 37 hil
    omega
  have hp0 := hpin f (List.mem_of_getElem? hi)
  rw [flat_set hi]
  refine part_Unpin_q hp hf ho hm hn hb hi h ?_
  rw [← hA]
  unfold unpinFr
  by_cases hu : f.pins = 0
  · rw [if_pos hu]
    refine (Flags_Unpin_no hfs hu).mono ?_
    rintro _ _ ⟨rfl, rfl⟩; exact ⟨rfl, (Hp.set_eq _ hfs).symm⟩
  · rw [if_neg hu]
    exact Flags_Unpin_ok hfs (by omega) (by omega)
theorem hw_res_cell {l : List Value} {fn : Func} {H : Hp} {t : Tmp} {ty n b : Nat} {L : List Value} {t' : TypeId} [Ag prog ty true] [Sz prog ty n] (hr : fn.results = #[.cell t ty]) (ht : l.getD t undef = .pointer (some ⟨b, 0, none⟩)) (hH : H b = some (row L t')) (hl : n = L.length) {v : Value} (hv : v = .agg L.toArray) :
    hw true prog (results fn l.toArray) (fun v' _ => v' = v) H := by
  subst hv
  have e : results fn l.toArray = loadVar ty ⟨b, 0, none⟩ := by
    have ht' : l[t]?.getD undef = .pointer (some ⟨b, 0, none⟩) := by simpa using ht
    simp [results, hr, ht', asAddr]
  rw [e]
  simp only [loadVar, hw_bind', hw_isAgg, if_true, hw_sizeOf]
  refine hw_loadCells hH (by omega) ?_
  subst hl
  simp
theorem part_At {H : Hp} {p fb tb n : Nat} {fr : List Fr} {hand : Nat} {ot : Obj} (hp : H p = some (row (partRow fb n tb hand) 72)) (hf : H fb = some (row (flat frc fr) 129)) (ho : H tb = some ot) (hm : MapI ot (tabF fr)) (hn : fr.length = n) (hb : ∀ f ∈ fr, f.b.length = 32) {i : Nat} {f : Fr} (hi : fr[i]? = some f) :
    HT prog 81 #[.pointer (some ⟨p, 0, none⟩), .int .i64 (i : Int)] H (fun v H' => v = .agg (frc f).toArray ∧ H = H') := by
 have hil : i < fr.length := (List.getElem?_eq_some_iff.1 hi).1
 have hA := frA hb (Nat.le_of_lt hil)
 have hf32 := hb f (List.mem_of_getElem? hi)
 have hsp := flat_split (c := frc) hi
 have hpf := ne_row hp hf (by decide)
 have hpt := ne_map hp ho hm
 have hft := ne_map hf ho hm
 have hfs : H fb = some (row (flat frc (fr.take i) ++ frc f ++ flat frc (fr.drop (i + 1))) 129) := by rw [← hsp]; exact hf
 have htf := Ne.symm hft
 have htp := Ne.symm hpt
 have hfp := Ne.symm hpf
 have hlen : i * 37 + 37 ≤ (flat frc fr).length := by
   rw [flat_length (n := 37) _ (frc37 hb)]
   have := Nat.mul_le_mul_right 37 hil
   omega
 refine ht_of_body (args := [.pointer (some ⟨p, 0, none⟩), .int .i64 (i : Int)]) func81 rfl ?_
 simp only [ntmps81, List.length_cons, List.length_nil, Nat.reduceAdd, Nat.reduceSub, List.replicate_succ, List.replicate_zero, List.cons_append, List.nil_append]
 refine sR ?_
 refine hops_cons rfl (hop_allocFr ?_)
 intro r hr
 have hrp := Hp.ne_of hp hr
 have hrf := Hp.ne_of hf hr
 try simp only [pt, ev, List.getD_cons_zero, List.getD_cons_succ, List.set_cons_zero, List.set_cons_succ]
 refine hops_nil ?_
 try simp only [nf, Nat.reduceAdd]
 refine hc_seq ?_
 refine sR ?_
 refine oM ?_
 try simp only [nf, Nat.reduceAdd]
 refine oM ?_
 try simp only [nf, Nat.reduceAdd]
 refine hops_cons rfl (hop_call ?_)
 simp only [nf, Nat.reduceAdd]
 refine HT.mono (part_in (Hp.get_there hrp hp) (i := (i : Int))) ?_
 rintro _ _ ⟨rfl, rfl⟩
 rw [show (decide (0 ≤ (i : Int)) && decide ((i : Int) < n)) = true by simp; omega]
 try simp only [nf, Nat.reduceAdd]
 refine hops_cons rfl (hop_not rfl ?_)
 try simp only [nf, Nat.reduceAdd]
 refine hops_nil ?_
 try simp only [nf, Nat.reduceAdd]
 refine hc_F rfl (by first | rfl | assumption | (simp; done) | (simp; omega) | (simp [*]; done)) ?_
 refine hc_skip ?_
 try simp only [nf, Nat.reduceAdd]
 refine sR ?_
 refine oM ?_
 try simp only [nf, Nat.reduceAdd]
 refine oN rfl ?_
 try simp only [nf, Nat.reduceAdd]
 refine oF rfl ?_
 try simp only [nf, Nat.reduceAdd]
 refine hops_cons rfl (hop_load rfl (by solve_by_elim [hS, hN, hT, hT']) (by first | rfl | assumption | exact mid_get0 rfl | exact mid_get rfl | (simp; done)) ?_)
 try simp only [nf, Nat.reduceAdd]
 refine oM ?_
 try simp only [nf, Nat.reduceAdd]
 refine hops_cons rfl (hop_indexAddr (i := (i : Int)) (b := fb) (o := 0) (n := 37) (len := n) (cap := n) rfl rfl (by omega) (by omega) ?_)
 simp only [Int.toNat_natCast, Nat.zero_add, ← hA]
 try simp only [pt, ev, List.getD_cons_zero, List.getD_cons_succ, List.set_cons_zero, List.set_cons_succ]
 refine hops_cons rfl (hop_loadA rfl (Hp.get_there hrf hf) (by rw [hA]; exact hlen) ?_)
 try simp only [nf, Nat.reduceAdd]
 refine hops_cons rfl (hop_storeA (n := 37) (vs := ((flat frc fr).drop (flat frc (fr.take i)).length).take 37) rfl rfl (by rw [hA]; simp; omega) (fun v h => one_fr _ v (List.mem_of_mem_drop (List.mem_of_mem_take h))) (Hp.set_same _ _ _) (by rw [frz_len]; omega) (by decide) ?_)
 try simp only [nf, Nat.reduceAdd]
 refine hops_nil ?_
 try simp only [nf, Nat.reduceAdd]
 refine hc_ret ?_
 try simp only [hng, hthen, hblock]
 have e37 : ((flat frc fr).drop (flat frc (fr.take i)).length).take 37 = frc f := by rw [hsp]; exact mid_take (frc_length hf32)
 rw [e37, wr_all (by rw [frc_length hf32, frz_len])]
 exact hend_mem (Sub.set_new hr) (hw_res_cell rfl rfl (Hp.set_same _ _ _) (by rw [frc_length hf32]) rfl) ⟨rfl, rfl⟩
theorem part_Clean {H : Hp} {p fb tb n : Nat} {fr : List Fr} {hand : Nat} {ot : Obj} (hp : H p = some (row (partRow fb n tb hand) 72)) (hf : H fb = some (row (flat frc fr) 129)) (ho : H tb = some ot) (hm : MapI ot (tabF fr)) (hn : fr.length = n) (hb : ∀ f ∈ fr, f.b.length = 32) {i : Nat} {f : Fr} (hi : fr[i]? = some f) :
    HT prog 56 #[.pointer (some ⟨p, 0, none⟩), .int .i64 (i : Int)] H (fun v H' => v = .int .i64 0 ∧ H' = H.set fb (row (flat frc (fr.set i { f with dirty := false })) 129)) := by
 have hil : i < fr.length := (List.getElem?_eq_some_iff.1 hi).1
 have hA := frA hb (Nat.le_of_lt hil)
 have hf32 := hb f (List.mem_of_getElem? hi)
 have hsp := flat_split (c := frc) hi
 have hpf := ne_row hp hf (by decide)
 have hpt := ne_map hp ho hm
 have hft := ne_map hf ho hm
 have hfs : H fb = some (row (flat frc (fr.take i) ++ frc f ++ flat frc (fr.drop (i + 1))) 129) := by rw [← hsp]; exact hf
 have htf := Ne.symm hft
 have htp := Ne.symm hpt
 have hfp := Ne.symm hpf
 have hlen : i * 37 + 37 ≤ (flat frc fr).length := by
   rw [flat_length (n := 37) _ (frc37 hb)]
   have := Nat.mul_le_mul_right 37 hil
   omega
 refine ht_of_body (args := [.pointer (some ⟨p, 0, none⟩), .int .i64 (i : Int)]) func56 rfl ?_
 simp only [ntmps56, List.length_cons, List.length_nil, Nat.reduceAdd, Nat.reduceSub, List.replicate_succ, List.replicate_zero, List.cons_append, List.nil_append]
 refine sR ?_
 refine oA ?_
 try simp only [nf, Nat.reduceAdd]
 refine hops_nil ?_
 try simp only [nf, Nat.reduceAdd]
 refine hc_seq ?_
 refine sR ?_
 refine oM ?_
 try simp only [nf, Nat.reduceAdd]
 refine oM ?_
 try simp only [nf, Nat.reduceAdd]
 refine hops_cons rfl (hop_call ?_)
 simp only [nf, Nat.reduceAdd]
 refine HT.mono (part_in hp (i := (i : Int))) ?_
 rintro _ _ ⟨rfl, rfl⟩
 rw [show (decide (0 ≤ (i : Int)) && decide ((i : Int) < n)) = true by simp; omega]
 try simp only [nf, Nat.reduceAdd]
 refine hops_cons rfl (hop_not rfl ?_)
 try simp only [nf, Nat.reduceAdd]
 refine hops_nil ?_
 try simp only [nf, Nat.reduceAdd]
 refine hc_F rfl (by first | rfl | assumption | (simp; done) | (simp; omega) | (simp [*]; done)) ?_
 refine hc_skip ?_
 try simp only [nf, Nat.reduceAdd]
 refine sR ?_
 refine oM ?_
 try simp only [nf, Nat.reduceAdd]
 refine oN rfl ?_
 try simp only [nf, Nat.reduceAdd]
 refine oF rfl ?_
 try simp only [nf, Nat.reduceAdd]
 refine hops_cons rfl (hop_load rfl (by solve_by_elim [hS, hN, hT, hT']) (by first | rfl | assumption | exact mid_get0 rfl | exact mid_get rfl | (simp; done)) ?_)
 try simp only [nf, Nat.reduceAdd]
 refine oM ?_
 try simp only [nf, Nat.reduceAdd]
 refine hops_cons rfl (hop_indexAddr (i := (i : Int)) (b := fb) (o := 0) (n := 37) (len := n) (cap := n) rfl rfl (by omega) (by omega) ?_)
 simp only [Int.toNat_natCast, Nat.zero_add, ← hA]
 try simp only [pt, ev, List.getD_cons_zero, List.getD_cons_succ, List.set_cons_zero, List.set_cons_succ]
 refine oF rfl ?_
 try simp only [nf, Nat.reduceAdd]
 refine oF rfl ?_
 try simp only [nf, Nat.reduceAdd]
 refine hops_cons rfl (hop_store rfl rfl rfl hfs (by simp [frc]) ?_)
 try simp only [nf, Nat.reduceAdd]
 refine hops_nil ?_
 try simp only [nf, Nat.reduceAdd]
 refine sR ?_
 refine oA ?_
 try simp only [nf, Nat.reduceAdd]
 refine hops_nil ?_
 try simp only [nf, Nat.reduceAdd]
 refine hc_ret ?_
 try simp only [hng, hthen, hblock]
 refine hend_tmp rfl ?_
 refine ⟨rfl, ?_⟩
 rw [fset (by omega), flat_set hi]
 rfl
theorem part_forget_no {H : Hp} {p fb tb n : Nat} {fr : List Fr} {hand : Nat} {ot : Obj} (hp : H p = some (row (partRow fb n tb hand) 72)) (hf : H fb = some (row (flat frc fr) 129)) (ho : H tb = some ot) (hm : MapI ot (tabF fr)) (hn : fr.length = n) (hb : ∀ f ∈ fr, f.b.length = 32) {i : Nat} {f : Fr} (hi : fr[i]? = some f) (hu : f.used = false) :
    HT prog 59 #[.pointer (some ⟨p, 0, none⟩), .int .i64 (i : Int)] H (fun v H' => v = .tuple #[] ∧ H = H') := by
 have hil : i < fr.length := (List.getElem?_eq_some_iff.1 hi).1
 have hA := frA hb (Nat.le_of_lt hil)
 have hf32 := hb f (List.mem_of_getElem? hi)
 have hsp := flat_split (c := frc) hi
 have hpf := ne_row hp hf (by decide)
 have hpt := ne_map hp ho hm
 have hft := ne_map hf ho hm
 have hfs : H fb = some (row (flat frc (fr.take i) ++ frc f ++ flat frc (fr.drop (i + 1))) 129) := by rw [← hsp]; exact hf
 have htf := Ne.symm hft
 have htp := Ne.symm hpt
 have hfp := Ne.symm hpf
 have hlen : i * 37 + 37 ≤ (flat frc fr).length := by
   rw [flat_length (n := 37) _ (frc37 hb)]
   have := Nat.mul_le_mul_right 37 hil
   omega
 refine ht_of_body (args := [.pointer (some ⟨p, 0, none⟩), .int .i64 (i : Int)]) func59 rfl ?_
 simp only [ntmps59, List.length_cons, List.length_nil, Nat.reduceAdd, Nat.reduceSub, List.replicate_succ, List.replicate_zero, List.cons_append, List.nil_append]
 refine sR ?_
 refine oM ?_
 try simp only [nf, Nat.reduceAdd, hu]
 refine oN rfl ?_
 try simp only [nf, Nat.reduceAdd, hu]
 refine oF rfl ?_
 try simp only [nf, Nat.reduceAdd, hu]
 refine hops_cons rfl (hop_load rfl (by solve_by_elim [hS, hN, hT, hT']) (by first | rfl | assumption | exact mid_get0 rfl | exact mid_get rfl | (simp; done)) ?_)
 try simp only [nf, Nat.reduceAdd, hu]
 refine oM ?_
 try simp only [nf, Nat.reduceAdd, hu]
 refine hops_cons rfl (hop_indexAddr (i := (i : Int)) (b := fb) (o := 0) (n := 37) (len := n) (cap := n) rfl rfl (by omega) (by omega) ?_)
 simp only [Int.toNat_natCast, Nat.zero_add, ← hA]
 try simp only [pt, ev, List.getD_cons_zero, List.getD_cons_succ, List.set_cons_zero, List.set_cons_succ]
 refine oF rfl ?_
 try simp only [nf, Nat.reduceAdd, hu]
 refine oF rfl ?_
 try simp only [nf, Nat.reduceAdd, hu]
 refine hops_cons rfl (hop_load rfl hfs (mid_get0 rfl) ?_)
 try simp only [nf, Nat.reduceAdd, hu]
 refine hops_nil ?_
 try simp only [nf, Nat.reduceAdd, hu]
 refine hc_F rfl (by first | rfl | assumption | (simp; done) | (simp; omega) | (simp [*]; done)) ?_
 refine hc_skip ?_
 try simp only [nf, Nat.reduceAdd, hu]
 refine hend_none rfl ?_
 exact ⟨rfl, rfl⟩
theorem part_forget_yes {H : Hp} {p fb tb n : Nat} {fr : List Fr} {hand : Nat} {ot : Obj} (hp : H p = some (row (partRow fb n tb hand) 72)) (hf : H fb = some (row (flat frc fr) 129)) (ho : H tb = some ot) (hm : MapI ot (tabF fr)) (hn : fr.length = n) (hb : ∀ f ∈ fr, f.b.length = 32) {i : Nat} {f : Fr} (hi : fr[i]? = some f) (hu : f.used = true) :
    HT prog 59 #[.pointer (some ⟨p, 0, none⟩), .int .i64 (i : Int)] H (fun v H' => ∃ o', MapI o' (upd (tabF fr) f.page none) ∧ v = .tuple #[] ∧ H' = H.set tb o') := by
 have hil : i < fr.length := (List.getElem?_eq_some_iff.1 hi).1
 have hA := frA hb (Nat.le_of_lt hil)
 have hf32 := hb f (List.mem_of_getElem? hi)
 have hsp := flat_split (c := frc) hi
 have hpf := ne_row hp hf (by decide)
 have hpt := ne_map hp ho hm
 have hft := ne_map hf ho hm
 have hfs : H fb = some (row (flat frc (fr.take i) ++ frc f ++ flat frc (fr.drop (i + 1))) 129) := by rw [← hsp]; exact hf
 have htf := Ne.symm hft
 have htp := Ne.symm hpt
 have hfp := Ne.symm hpf
 have hlen : i * 37 + 37 ≤ (flat frc fr).length := by
   rw [flat_length (n := 37) _ (frc37 hb)]
   have := Nat.mul_le_mul_right 37 hil
   omega
 refine ht_of_body (args := [.pointer (some ⟨p, 0, none⟩), .int .i64 (i : Int)]) func59 rfl ?_
 simp only [ntmps59, List.length_cons, List.length_nil, Nat.reduceAdd, Nat.reduceSub, List.replicate_succ, List.replicate_zero, List.cons_append, List.nil_append]
 refine sR ?_
 refine oM ?_
 try simp only [nf, Nat.reduceAdd, hu]
 refine oN rfl ?_
 try simp only [nf, Nat.reduceAdd, hu]
 refine oF rfl ?_
 try simp only [nf, Nat.reduceAdd, hu]
 refine hops_cons rfl (hop_load rfl (by solve_by_elim [hS, hN, hT, hT']) (by first | rfl | assumption | exact mid_get0 rfl | exact mid_get rfl | (simp; done)) ?_)
 try simp only [nf, Nat.reduceAdd, hu]
 refine oM ?_
 try simp only [nf, Nat.reduceAdd, hu]
 refine hops_cons rfl (hop_indexAddr (i := (i : Int)) (b := fb) (o := 0) (n := 37) (len := n) (cap := n) rfl rfl (by omega) (by omega) ?_)
 simp only [Int.toNat_natCast, Nat.zero_add, ← hA]
 try simp only [pt, ev, List.getD_cons_zero, List.getD_cons_succ, List.set_cons_zero, List.set_cons_succ]
 refine oF rfl ?_
 try simp only [nf, Nat.reduceAdd, hu]
 refine oF rfl ?_
 try simp only [nf, Nat.reduceAdd, hu]
 refine hops_cons rfl (hop_load rfl hfs (mid_get0 rfl) ?_)
 try simp only [nf, Nat.reduceAdd, hu]
 refine hops_nil ?_
 try simp only [nf, Nat.reduceAdd, hu]
 refine hc_T rfl (by first | rfl | assumption | (simp; done) | (simp; omega) | (simp [*]; done)) ?_
 refine hc_draw (H.del tb) follows (by intros; simp [hng, hthen, hblock, hend]) ?_
 refine dT 0 rfl (by decide +kernel) rfl (Sub.del _ _) (hop_move ?_)
 try simp only [nf, Nat.reduceAdd, hu]
 refine dT 1 rfl (by decide +kernel) rfl (Sub.del _ _) (hop_nilCheck rfl ?_)
 try simp only [nf, Nat.reduceAdd, hu]
 refine dT 2 rfl (by decide +kernel) rfl (Sub.del _ _) (hop_fieldAddr rfl ?_)
 try simp only [nf, Nat.reduceAdd, hu]
 refine dT 3 rfl (by decide +kernel) rfl (Sub.del _ _) (hop_load rfl (Hp.get_del hpt hp) rfl ?_)
 try simp only [nf, Nat.reduceAdd, hu]
 refine dT 4 rfl (by decide +kernel) rfl (Sub.del _ _) (hop_move ?_)
 try simp only [nf, Nat.reduceAdd, hu]
 refine dT 5 rfl (by decide +kernel) rfl (Sub.del _ _) (hop_nilCheck rfl ?_)
 try simp only [nf, Nat.reduceAdd, hu]
 refine dT 6 rfl (by decide +kernel) rfl (Sub.del _ _) (hop_fieldAddr rfl ?_)
 try simp only [nf, Nat.reduceAdd, hu]
 refine dT 7 rfl (by decide +kernel) rfl (Sub.del _ _) (hop_load rfl (Hp.get_del hpt hp) rfl ?_)
 try simp only [nf, Nat.reduceAdd, hu]
 refine dT 8 rfl (by decide +kernel) rfl (Sub.del _ _) (hop_move ?_)
 try simp only [nf, Nat.reduceAdd, hu]
 refine dT 9 rfl (by decide +kernel) rfl (Sub.del _ _) (hop_indexAddr (i := (i : Int)) (b := fb) (o := 0) (n := 37) (len := n) (cap := n) rfl rfl (by omega) (by omega) ?_)
 simp only [Int.toNat_natCast, Nat.zero_add, ← hA]
 try simp only [pt, ev, List.getD_cons_zero, List.getD_cons_succ, List.set_cons_zero, List.set_cons_succ]
 refine dT 10 rfl (by decide +kernel) rfl (Sub.del _ _) (hop_fieldAddr rfl ?_)
 try simp only [nf, Nat.reduceAdd, hu]
 refine dT 11 rfl (by decide +kernel) rfl (Sub.del _ _) (hop_load rfl (Hp.get_del hft hfs) (mid_get rfl) ?_)
 try simp only [nf, Nat.reduceAdd, hu]
 refine hD_do 12 rfl (by decide +kernel) rfl (hop_delete rfl rfl ho hm ?_)
 intro o' hm'
 refine ⟨.inl (by decide +kernel), ?_⟩
 try simp only [nf, Nat.reduceAdd, hu]
 refine hD_done (by decide +kernel) ?_
 try simp only [nf, Nat.reduceAdd, hu]
 refine hend_none rfl ?_
 exact ⟨o', hm', rfl, rfl⟩
theorem part_Release_pinned {H : Hp} {p fb tb n : Nat} {fr : List Fr} {hand : Nat} {ot : Obj} (hp : H p = some (row (partRow fb n tb hand) 72)) (hf : H fb = some (row (flat frc fr) 129)) (ho : H tb = some ot) (hm : MapI ot (tabF fr)) (hn : fr.length = n) (hb : ∀ f ∈ fr, f.b.length = 32) {i : Nat} {f : Fr} (hi : fr[i]? = some f) (hpn : f.pins ≠ 0) :
    HT prog 57 #[.pointer (some ⟨p, 0, none⟩), .int .i64 (i : Int)] H (fun v H' => v = .int .i64 5 ∧ H = H') := by
 have hil : i < fr.length := (List.getElem?_eq_some_iff.1 hi).1
 have hA := frA hb (Nat.le_of_lt hil)
 have hf32 := hb f (List.mem_of_getElem? hi)
 have hsp := flat_split (c := frc) hi
 have hpf := ne_row hp hf (by decide)
 have hpt := ne_map hp ho hm
 have hft := ne_map hf ho hm
 have hfs : H fb = some (row (flat frc (fr.take i) ++ frc f ++ flat frc (fr.drop (i + 1))) 129) := by rw [← hsp]; exact hf
 have htf := Ne.symm hft
 have htp := Ne.symm hpt
 have hfp := Ne.symm hpf
 have hlen : i * 37 + 37 ≤ (flat frc fr).length := by
   rw [flat_length (n := 37) _ (frc37 hb)]
   have := Nat.mul_le_mul_right 37 hil
   omega
 have hpb : (f.pins == 0) = false := by simp [hpn]
 refine ht_of_body (args := [.pointer (some ⟨p, 0, none⟩), .int .i64 (i : Int)]) func57 rfl ?_
 simp only [ntmps57, List.length_cons, List.length_nil, Nat.reduceAdd, Nat.reduceSub, List.replicate_succ, List.replicate_zero, List.cons_append, List.nil_append]
 refine sR ?_
 refine oA ?_
 try simp only [nf, Nat.reduceAdd, hpb]
 refine hops_nil ?_
 try simp only [nf, Nat.reduceAdd, hpb]
 refine hc_seq ?_
 refine hc_block ?_
 refine sR ?_
 refine oM ?_
 try simp only [nf, Nat.reduceAdd, hpb]
 refine oM ?_
 try simp only [nf, Nat.reduceAdd, hpb]
 refine hops_cons rfl (hop_call ?_)
 simp only [nf, Nat.reduceAdd, hpb]
 refine HT.mono (part_in hp (i := (i : Int))) ?_
 rintro _ _ ⟨rfl, rfl⟩
 rw [show (decide (0 ≤ (i : Int)) && decide ((i : Int) < n)) = true by simp; omega]
 try simp only [nf, Nat.reduceAdd, hpb]
 refine hops_cons rfl (hop_not rfl ?_)
 try simp only [nf, Nat.reduceAdd, hpb]
 refine oA ?_
 try simp only [nf, Nat.reduceAdd, hpb]
 refine hops_nil ?_
 try simp only [nf, Nat.reduceAdd, hpb]
 refine hc_F rfl (by first | rfl | assumption | (simp; done) | (simp; omega) | (simp [*]; done)) ?_
 refine sR ?_
 refine oM ?_
 try simp only [nf, Nat.reduceAdd, hpb]
 refine oN rfl ?_
 try simp only [nf, Nat.reduceAdd, hpb]
 refine oF rfl ?_
 try simp only [nf, Nat.reduceAdd, hpb]
 refine hops_cons rfl (hop_load rfl (by solve_by_elim [hS, hN, hT, hT']) (by first | rfl | assumption | exact mid_get0 rfl | exact mid_get rfl | (simp; done)) ?_)
 try simp only [nf, Nat.reduceAdd, hpb]
 refine oM ?_
 try simp only [nf, Nat.reduceAdd, hpb]
 refine hops_cons rfl (hop_indexAddr (i := (i : Int)) (b := fb) (o := 0) (n := 37) (len := n) (cap := n) rfl rfl (by omega) (by omega) ?_)
 simp only [Int.toNat_natCast, Nat.zero_add, ← hA]
 try simp only [pt, ev, List.getD_cons_zero, List.getD_cons_succ, List.set_cons_zero, List.set_cons_succ]
 refine oF rfl ?_
 try simp only [nf, Nat.reduceAdd, hpb]
 refine hops_cons rfl (hop_call ?_)
 simp only [nf, Nat.reduceAdd, hpb]
 refine HT.mono (Flags_Free hfs) ?_
 rintro _ _ ⟨rfl, rfl⟩
 try simp only [nf, Nat.reduceAdd, hpb]
 refine hops_cons rfl (hop_not rfl ?_)
 try simp only [nf, Nat.reduceAdd, hpb]
 refine oA ?_
 try simp only [nf, Nat.reduceAdd, hpb]
 refine hops_nil ?_
 try simp only [nf, Nat.reduceAdd, hpb]
 refine hc_T rfl (by first | rfl | assumption | (simp; done) | (simp; omega) | (simp [*]; done)) ?_
 refine sR ?_
 refine oA ?_
 try simp only [nf, Nat.reduceAdd, hpb]
 refine hops_nil ?_
 try simp only [nf, Nat.reduceAdd, hpb]
 refine hc_ret ?_
 try simp only [hng, hthen, hblock]
 refine hend_tmp rfl ?_
 exact ⟨rfl, rfl⟩
theorem part_Release_no {H : Hp} {p fb tb n : Nat} {fr : List Fr} {hand : Nat} {ot : Obj} (hp : H p = some (row (partRow fb n tb hand) 72)) (hf : H fb = some (row (flat frc fr) 129)) (ho : H tb = some ot) (hm : MapI ot (tabF fr)) (hn : fr.length = n) (hb : ∀ f ∈ fr, f.b.length = 32) {i : Nat} {f : Fr} (hi : fr[i]? = some f) (hpn : f.pins = 0) (hu : f.used = false) :
    HT prog 57 #[.pointer (some ⟨p, 0, none⟩), .int .i64 (i : Int)] H (fun v H' => v = .int .i64 0 ∧ H' = H.set fb (row (flat frc (fr.set i Fr.zero)) 129)) := by
 have hil : i < fr.length := (List.getElem?_eq_some_iff.1 hi).1
 have hA := frA hb (Nat.le_of_lt hil)
 have hf32 := hb f (List.mem_of_getElem? hi)
 have hsp := flat_split (c := frc) hi
 have hpf := ne_row hp hf (by decide)
 have hpt := ne_map hp ho hm
 have hft := ne_map hf ho hm
 have hfs : H fb = some (row (flat frc (fr.take i) ++ frc f ++ flat frc (fr.drop (i + 1))) 129) := by rw [← hsp]; exact hf
 have htf := Ne.symm hft
 have htp := Ne.symm hpt
 have hfp := Ne.symm hpf
 have hlen : i * 37 + 37 ≤ (flat frc fr).length := by
   rw [flat_length (n := 37) _ (frc37 hb)]
   have := Nat.mul_le_mul_right 37 hil
   omega
 have hpb : (f.pins == 0) = true := by simp [hpn]
 refine ht_of_body (args := [.pointer (some ⟨p, 0, none⟩), .int .i64 (i : Int)]) func57 rfl ?_
 simp only [ntmps57, List.length_cons, List.length_nil, Nat.reduceAdd, Nat.reduceSub, List.replicate_succ, List.replicate_zero, List.cons_append, List.nil_append]
 refine sR ?_
 refine oA ?_
 try simp only [nf, Nat.reduceAdd, hpb]
 refine hops_nil ?_
 try simp only [nf, Nat.reduceAdd, hpb]
 refine hc_seq ?_
 refine hc_block ?_
 refine sR ?_
 refine oM ?_
 try simp only [nf, Nat.reduceAdd, hpb]
 refine oM ?_
 try simp only [nf, Nat.reduceAdd, hpb]
 refine hops_cons rfl (hop_call ?_)
 simp only [nf, Nat.reduceAdd, hpb]
 refine HT.mono (part_in hp (i := (i : Int))) ?_
 rintro _ _ ⟨rfl, rfl⟩
 rw [show (decide (0 ≤ (i : Int)) && decide ((i : Int) < n)) = true by simp; omega]
 try simp only [nf, Nat.reduceAdd, hpb]
 refine hops_cons rfl (hop_not rfl ?_)
 try simp only [nf, Nat.reduceAdd, hpb]
 refine oA ?_
 try simp only [nf, Nat.reduceAdd, hpb]
 refine hops_nil ?_
 try simp only [nf, Nat.reduceAdd, hpb]
 refine hc_F rfl (by first | rfl | assumption | (simp; done) | (simp; omega) | (simp [*]; done)) ?_
 refine sR ?_
 refine oM ?_
 try simp only [nf, Nat.reduceAdd, hpb]
 refine oN rfl ?_
 try simp only [nf, Nat.reduceAdd, hpb]
 refine oF rfl ?_
 try simp only [nf, Nat.reduceAdd, hpb]
 refine hops_cons rfl (hop_load rfl (by solve_by_elim [hS, hN, hT, hT']) (by first | rfl | assumption | exact mid_get0 rfl | exact mid_get rfl | (simp; done)) ?_)
 try simp only [nf, Nat.reduceAdd, hpb]
 refine oM ?_
 try simp only [nf, Nat.reduceAdd, hpb]
 refine hops_cons rfl (hop_indexAddr (i := (i : Int)) (b := fb) (o := 0) (n := 37) (len := n) (cap := n) rfl rfl (by omega) (by omega) ?_)
 simp only [Int.toNat_natCast, Nat.zero_add, ← hA]
 try simp only [pt, ev, List.getD_cons_zero, List.getD_cons_succ, List.set_cons_zero, List.set_cons_succ]
 refine oF rfl ?_
 try simp only [nf, Nat.reduceAdd, hpb]
 refine hops_cons rfl (hop_call ?_)
 simp only [nf, Nat.reduceAdd, hpb]
 refine HT.mono (Flags_Free hfs) ?_
 rintro _ _ ⟨rfl, rfl⟩
 try simp only [nf, Nat.reduceAdd, hpb]
 refine hops_cons rfl (hop_not rfl ?_)
 try simp only [nf, Nat.reduceAdd, hpb]
 refine oA ?_
 try simp only [nf, Nat.reduceAdd, hpb]
 refine hops_nil ?_
 try simp only [nf, Nat.reduceAdd, hpb]
 refine hc_F rfl (by first | rfl | assumption | (simp; done) | (simp; omega) | (simp [*]; done)) ?_
 refine hc_skip ?_
 try simp only [nf, Nat.reduceAdd, hpb]
 refine sR ?_
 refine oM ?_
 try simp only [nf, Nat.reduceAdd, hpb]
 refine oM ?_
 try simp only [nf, Nat.reduceAdd, hpb]
 refine hops_cons rfl (hop_call ?_)
 simp only [nf, Nat.reduceAdd, hpb]
 refine HT.mono (part_forget_no hp hf ho hm hn hb hi hu) ?_
 rintro _ _ ⟨rfl, rfl⟩
 try simp only [nf, Nat.reduceAdd, hpb]
 refine hops_nil ?_
 try simp only [nf, Nat.reduceAdd, hpb]
 refine sR ?_
 refine oM ?_
 try simp only [nf, Nat.reduceAdd, hpb]
 refine oN rfl ?_
 try simp only [nf, Nat.reduceAdd, hpb]
 refine oF rfl ?_
 try simp only [nf, Nat.reduceAdd, hpb]
 refine hops_cons rfl (hop_load rfl (by solve_by_elim [hS, hN, hT, hT']) (by first | rfl | assumption | exact mid_get0 rfl | exact mid_get rfl | (simp; done)) ?_)
 try simp only [nf, Nat.reduceAdd, hpb]
 refine oM ?_
 try simp only [nf, Nat.reduceAdd, hpb]
 refine hops_cons rfl (hop_indexAddr (i := (i : Int)) (b := fb) (o := 0) (n := 37) (len := n) (cap := n) rfl rfl (by omega) (by omega) ?_)
 simp only [Int.toNat_natCast, Nat.zero_add, ← hA]
 try simp only [pt, ev, List.getD_cons_zero, List.getD_cons_succ, List.set_cons_zero, List.set_cons_succ]
 refine hops_cons rfl (hop_call ?_)
 simp only [nf, Nat.reduceAdd, hpb]
 refine HT.mono (Frame_Zero hfs hf32) ?_
 rintro _ _ ⟨rfl, rfl⟩
 try simp only [nf, Nat.reduceAdd, hpb]
 refine hops_nil ?_
 try simp only [nf, Nat.reduceAdd, hpb]
 refine sR ?_
 refine oA ?_
 try simp only [nf, Nat.reduceAdd, hpb]
 refine hops_nil ?_
 try simp only [nf, Nat.reduceAdd, hpb]
 refine hc_ret ?_
 try simp only [hng, hthen, hblock]
 refine hend_tmp rfl ?_
 exact ⟨rfl, by rw [flat_set hi]⟩
theorem part_Release_yes {H : Hp} {p fb tb n : Nat} {fr : List Fr} {hand : Nat} {ot : Obj} (hp : H p = some (row (partRow fb n tb hand) 72)) (hf : H fb = some (row (flat frc fr) 129)) (ho : H tb = some ot) (hm : MapI ot (tabF fr)) (hn : fr.length = n) (hb : ∀ f ∈ fr, f.b.length = 32) {i : Nat} {f : Fr} (hi : fr[i]? = some f) (hpn : f.pins = 0) (hu : f.used = true) :
    HT prog 57 #[.pointer (some ⟨p, 0, none⟩), .int .i64 (i : Int)] H (fun v H' => ∃ o', MapI o' (upd (tabF fr) f.page none) ∧ v = .int .i64 0 ∧ H' = (H.set tb o').set fb (row (flat frc (fr.set i Fr.zero)) 129)) := by
 have hil : i < fr.length := (List.getElem?_eq_some_iff.1 hi).1
 have hA := frA hb (Nat.le_of_lt hil)
 have hf32 := hb f (List.mem_of_getElem? hi)
 have hsp := flat_split (c := frc) hi
 have hpf := ne_row hp hf (by decide)
 have hpt := ne_map hp ho hm
 have hft := ne_map hf ho hm
 have hfs : H fb = some (row (flat frc (fr.take i) ++ frc f ++ flat frc (fr.drop (i + 1))) 129) := by rw [← hsp]; exact hf
 have htf := Ne.symm hft
 have htp := Ne.symm hpt
 have hfp := Ne.symm hpf
 have hlen : i * 37 + 37 ≤ (flat frc fr).length := by
   rw [flat_length (n := 37) _ (frc37 hb)]
   have := Nat.mul_le_mul_right 37 hil
   omega
 have hpb : (f.pins == 0) = true := by simp [hpn]
 refine ht_of_body (args := [.pointer (some ⟨p, 0, none⟩), .int .i64 (i : Int)]) func57 rfl ?_
 simp only [ntmps57, List.length_cons, List.length_nil, Nat.reduceAdd, Nat.reduceSub, List.replicate_succ, List.replicate_zero, List.cons_append, List.nil_append]
 refine sR ?_
 refine oA ?_
 try simp only [nf, Nat.reduceAdd, hpb]
 refine hops_nil ?_
 try simp only [nf, Nat.reduceAdd, hpb]
 refine hc_seq ?_
 refine hc_block ?_
 refine sR ?_
 refine oM ?_
 try simp only [nf, Nat.reduceAdd, hpb]
 refine oM ?_
 try simp only [nf, Nat.reduceAdd, hpb]
 refine hops_cons rfl (hop_call ?_)
 simp only [nf, Nat.reduceAdd, hpb]
 refine HT.mono (part_in hp (i := (i : Int))) ?_
 rintro _ _ ⟨rfl, rfl⟩
 rw [show (decide (0 ≤ (i : Int)) && decide ((i : Int) < n)) = true by simp; omega]
 try simp only [nf, Nat.reduceAdd, hpb]
 refine hops_cons rfl (hop_not rfl ?_)
 try simp only [nf, Nat.reduceAdd, hpb]
 refine oA ?_
 try simp only [nf, Nat.reduceAdd, hpb]
 refine hops_nil ?_
 try simp only [nf, Nat.reduceAdd, hpb]
 refine hc_F rfl (by first | rfl | assumption | (simp; done) | (simp; omega) | (simp [*]; done)) ?_
 refine sR ?_
 refine oM ?_
 try simp only [nf, Nat.reduceAdd, hpb]
 refine oN rfl ?_
 try simp only [nf, Nat.reduceAdd, hpb]
 refine oF rfl ?_
 try simp only [nf, Nat.reduceAdd, hpb]
 refine hops_cons rfl (hop_load rfl (by solve_by_elim [hS, hN, hT, hT']) (by first | rfl | assumption | exact mid_get0 rfl | exact mid_get rfl | (simp; done)) ?_)
 try simp only [nf, Nat.reduceAdd, hpb]
 refine oM ?_
 try simp only [nf, Nat.reduceAdd, hpb]
 refine hops_cons rfl (hop_indexAddr (i := (i : Int)) (b := fb) (o := 0) (n := 37) (len := n) (cap := n) rfl rfl (by omega) (by omega) ?_)
 simp only [Int.toNat_natCast, Nat.zero_add, ← hA]
 try simp only [pt, ev, List.getD_cons_zero, List.getD_cons_succ, List.set_cons_zero, List.set_cons_succ]
 refine oF rfl ?_
 try simp only [nf, Nat.reduceAdd, hpb]
 refine hops_cons rfl (hop_call ?_)
 simp only [nf, Nat.reduceAdd, hpb]
 refine HT.mono (Flags_Free hfs) ?_
 rintro _ _ ⟨rfl, rfl⟩
 try simp only [nf, Nat.reduceAdd, hpb]
 refine hops_cons rfl (hop_not rfl ?_)
 try simp only [nf, Nat.reduceAdd, hpb]
 refine oA ?_
 try simp only [nf, Nat.reduceAdd, hpb]
 refine hops_nil ?_
 try simp only [nf, Nat.reduceAdd, hpb]
 refine hc_F rfl (by first | rfl | assumption | (simp; done) | (simp; omega) | (simp [*]; done)) ?_
 refine hc_skip ?_
 try simp only [nf, Nat.reduceAdd, hpb]
 refine sR ?_
 refine oM ?_
 try simp only [nf, Nat.reduceAdd, hpb]
 refine oM ?_
 try simp only [nf, Nat.reduceAdd, hpb]
 refine hops_cons rfl (hop_call ?_)
 simp only [nf, Nat.reduceAdd, hpb]
 refine HT.mono (part_forget_yes hp hf ho hm hn hb hi hu) ?_
 rintro _ _ ⟨o', hm', rfl, rfl⟩
 try simp only [nf, Nat.reduceAdd, hpb]
 refine hops_nil ?_
 try simp only [nf, Nat.reduceAdd, hpb]
 refine sR ?_
 refine oM ?_
 try simp only [nf, Nat.reduceAdd, hpb]
 refine oN rfl ?_
 try simp only [nf, Nat.reduceAdd, hpb]
 refine oF rfl ?_
 try simp only [nf, Nat.reduceAdd, hpb]
 refine hops_cons rfl (hop_load rfl (by solve_by_elim [hS, hN, hT, hT']) (by first | rfl | assumption | exact mid_get0 rfl | exact mid_get rfl | (simp; done)) ?_)
 try simp only [nf, Nat.reduceAdd, hpb]
 refine oM ?_
 try simp only [nf, Nat.reduceAdd, hpb]
 refine hops_cons rfl (hop_indexAddr (i := (i : Int)) (b := fb) (o := 0) (n := 37) (len := n) (cap := n) rfl rfl (by omega) (by omega) ?_)
 simp only [Int.toNat_natCast, Nat.zero_add, ← hA]
 try simp only [pt, ev, List.getD_cons_zero, List.getD_cons_succ, List.set_cons_zero, List.set_cons_succ]
 refine hops_cons rfl (hop_call ?_)
 simp only [nf, Nat.reduceAdd, hpb]
 refine HT.mono (Frame_Zero (Hp.get_there hft hfs) hf32) ?_
 rintro _ _ ⟨rfl, rfl⟩
 try simp only [nf, Nat.reduceAdd, hpb]
 refine hops_nil ?_
 try simp only [nf, Nat.reduceAdd, hpb]
 refine sR ?_
 refine oA ?_
 try simp only [nf, Nat.reduceAdd, hpb]
 refine hops_nil ?_
 try simp only [nf, Nat.reduceAdd, hpb]
 refine hc_ret ?_
 try simp only [hng, hthen, hblock]
 refine hend_tmp rfl ?_
 exact ⟨o', hm', rfl, by rw [flat_set hi]⟩
theorem part_Release_all {H : Hp} {p fb tb n : Nat} {fr : List Fr} {hand : Nat} {ot : Obj} (hp : H p = some (row (partRow fb n tb hand) 72)) (hf : H fb = some (row (flat frc fr) 129)) (ho : H tb = some ot) (hm : MapI ot (tabF fr)) (hn : fr.length = n) (hb : ∀ f ∈ fr, f.b.length = 32) (hu : Uniq fr) {i : Nat} {f : Fr} (hi : fr[i]? = some f) (hpn : f.pins = 0) :
    HT prog 57 #[.pointer (some ⟨p, 0, none⟩), .int .i64 (i : Int)] H (fun v H' => ∃ o', MapI o' (tabF (fr.set i Fr.zero)) ∧ v = .int .i64 0 ∧ H' = (H.set tb o').set fb (row (flat frc (fr.set i Fr.zero)) 129)) := by
  rw [tabF_zero hu hi]
  by_cases h : f.used = true
  · rw [if_pos h]; exact part_Release_yes hp hf ho hm hn hb hi hpn h
  · rw [if_neg h]
    refine (part_Release_no hp hf ho hm hn hb hi hpn (by simpa using h)).mono ?_
    rintro _ _ ⟨rfl, rfl⟩
    exact ⟨ot, hm, rfl, by rw [Hp.set_eq _ ho]⟩
theorem part_Load_ok {H : Hp} {p fb tb n : Nat} {fr : List Fr} {hand : Nat} {ot : Obj} (hp : H p = some (row (partRow fb n tb hand) 72)) (hf : H fb = some (row (flat frc fr) 129)) (ho : H tb = some ot) (hm : MapI ot (tabF fr)) (hn : fr.length = n) (hb : ∀ f ∈ fr, f.b.length = 32) {i : Nat} {f : Fr} (hi : fr[i]? = some f) (hz : f.used = false) {pg : Int} (hnf : findPage fr pg = none) {c : Nat} {d : List UInt8} (hd : d.length = 32) {bb o : Nat} {L : List Value} {TT : TypeId} (hS : H bb = some (row L TT)) (hbf : bb ≠ fb) (hbo : o + 32 ≤ L.length) (hL : (L.drop o).take 32 = d.map byv) :
    HT prog 43 #[.pointer (some ⟨p, 0, none⟩), .int .i64 (i : Int), .int .i64 pg, .slice (some ⟨bb, o, none⟩) 32 c] H (fun v H' => ∃ o', MapI o' (upd (tabF fr) pg (some (.int .i64 (i : Nat)))) ∧ v = .int .i64 0 ∧ H' = (H.set tb o').set fb (row (flat frc (fr.set i ⟨true, false, false, 0, pg, d⟩)) 129)) := by
 have hil : i < fr.length := (List.getElem?_eq_some_iff.1 hi).1
 have hA := frA hb (Nat.le_of_lt hil)
 have hf32 := hb f (List.mem_of_getElem? hi)
 have hsp := flat_split (c := frc) hi
 have hpf := ne_row hp hf (by decide)
 have hpt := ne_map hp ho hm
 have hft := ne_map hf ho hm
 have hfs : H fb = some (row (flat frc (fr.take i) ++ frc f ++ flat frc (fr.drop (i + 1))) 129) := by rw [← hsp]; exact hf
 have htf := Ne.symm hft
 have htp := Ne.symm hpt
 have hfp := Ne.symm hpf
 have hlen : i * 37 + 37 ≤ (flat frc fr).length := by
   rw [flat_length (n := 37) _ (frc37 hb)]
   have := Nat.mul_le_mul_right 37 hil
   omega
 have hbt : bb ≠ tb := ne_map hS ho hm
 refine ht_of_body (args := [.pointer (some ⟨p, 0, none⟩), .int .i64 (i : Int), .int .i64 pg, .slice (some ⟨bb, o, none⟩) 32 c]) func43 rfl ?_
 simp only [ntmps43, List.length_cons, List.length_nil, Nat.reduceAdd, Nat.reduceSub, List.replicate_succ, List.replicate_zero, List.cons_append, List.nil_append]
 refine sR ?_
 refine oA ?_
 try simp only [nf, Nat.reduceAdd]
 refine hops_nil ?_
 try simp only [nf, Nat.reduceAdd]
 refine hc_seq ?_
 refine sR ?_
 refine oM ?_
 try simp only [nf, Nat.reduceAdd]
 refine oM ?_
 try simp only [nf, Nat.reduceAdd]
 refine hops_cons rfl (hop_call ?_)
 simp only [nf, Nat.reduceAdd]
 refine HT.mono (part_Find_no hp hf ho hm hn hb hnf) ?_
 rintro _ _ ⟨rfl, rfl⟩
 try simp only [nf, Nat.reduceAdd]
 refine oM ?_
 try simp only [nf, Nat.reduceAdd]
 refine hops_cons rfl (hop_extract rfl rfl ?_)
 try simp only [nf, Nat.reduceAdd]
 refine hops_cons rfl (hop_extract rfl rfl ?_)
 try simp only [nf, Nat.reduceAdd]
 refine oA ?_
 try simp only [nf, Nat.reduceAdd]
 refine oA ?_
 try simp only [nf, Nat.reduceAdd]
 refine hops_nil ?_
 try simp only [nf, Nat.reduceAdd]
 refine sR ?_
 refine oM ?_
 try simp only [nf, Nat.reduceAdd]
 refine oM ?_
 try simp only [nf, Nat.reduceAdd]
 refine hops_cons rfl (hop_call ?_)
 simp only [nf, Nat.reduceAdd]
 refine HT.mono (part_in hp (i := (i : Int))) ?_
 rintro _ _ ⟨rfl, rfl⟩
 rw [show (decide (0 ≤ (i : Int)) && decide ((i : Int) < n)) = true by simp; omega]
 try simp only [nf, Nat.reduceAdd]
 refine hops_cons rfl (hop_not rfl ?_)
 try simp only [nf, Nat.reduceAdd]
 refine oM ?_
 try simp only [nf, Nat.reduceAdd]
 first
  | refine hops_off' rfl rfl (by rfl) ?_
  | refine hops_un rfl rfl ?_
  | (refine hops_on' rfl rfl (by rfl) (hop_move ?_))
  | (refine hops_gp (v := ?vg1) rfl rfl (fun hgp => ?hv1) ?hh1; case hv1 => ((try simp only [hgp, if_true, ev, List.getD_cons_zero, List.getD_cons_succ]); refine hop_move ?_; rfl))
 try simp only [nf, Nat.reduceAdd]
 first
  | refine hops_off' rfl rfl (by rfl) ?_
  | refine hops_un rfl rfl ?_
  | (refine hops_on' rfl rfl (by rfl) (hop_move ?_))
  | (refine hops_gp (v := ?vg2) rfl rfl (fun hgp => ?hv2) ?hh2; case hv2 => ((try simp only [hgp, if_true, ev, List.getD_cons_zero, List.getD_cons_succ]); refine hop_move ?_; rfl))
 try simp only [nf, Nat.reduceAdd]
 first
  | refine hops_off' rfl rfl (by rfl) ?_
  | refine hops_un rfl rfl ?_
  | (refine hops_on' rfl rfl (by rfl) (hop_move ?_))
  | (refine hops_gp (v := ?vg3) rfl rfl (fun hgp => ?hv3) ?hh3; case hv3 => ((try simp only [hgp, if_true, ev, List.getD_cons_zero, List.getD_cons_succ]); refine hop_move ?_; rfl))
 try simp only [nf, Nat.reduceAdd]
 first
  | refine hops_off' rfl rfl (by rfl) ?_
  | refine hops_un rfl rfl ?_
  | (refine hops_on' rfl rfl (by rfl) (hop_move ?_))
  | (refine hops_gp (v := ?vg4) rfl rfl (fun hgp => ?hv4) ?hh4; case hv4 => ((try simp only [hgp, if_true, ev, List.getD_cons_zero, List.getD_cons_succ]); refine hop_move ?_; rfl))
 try simp only [nf, Nat.reduceAdd]
 first
  | refine hops_off' rfl rfl (by rfl) ?_
  | refine hops_un rfl rfl ?_
  | (refine hops_on' rfl rfl (by rfl) (hop_bin rfl rfl rfl ?_))
  | (refine hops_gp (v := ?vg5) rfl rfl (fun hgp => ?hv5) ?hh5; case hv5 => ((try simp only [hgp, if_true, ev, List.getD_cons_zero, List.getD_cons_succ]); refine hop_bin rfl rfl rfl ?_; rfl))
 try simp only [nf, Nat.reduceAdd]
 first
  | refine hops_off' rfl rfl (by rfl) ?_
  | refine hops_un rfl rfl ?_
  | (refine hops_on' rfl rfl (by rfl) (hop_pick rfl ?_))
  | (refine hops_gp (v := ?vg6) rfl rfl (fun hgp => ?hv6) ?hh6; case hv6 => ((try simp only [hgp, if_true, ev, List.getD_cons_zero, List.getD_cons_succ]); refine hop_pick rfl ?_; rfl))
 try simp only [nf, Nat.reduceAdd]
 refine hops_cons rfl (hop_pick rfl ?_)
 try simp only [nf, Nat.reduceAdd]
 refine hops_nil ?_
 try simp only [nf, Nat.reduceAdd]
 refine hc_F rfl (by first | rfl | assumption | (simp; done) | (simp; omega) | (simp [*]; done)) ?_
 refine hc_skip ?_
 try simp only [nf, Nat.reduceAdd]
 refine hc_seq ?_
 refine sR ?_
 refine oM ?_
 try simp only [nf, Nat.reduceAdd]
 refine hops_cons rfl (hop_lenS rfl ?_)
 try simp only [nf, Nat.reduceAdd]
 refine hops_cons rfl (hop_bin rfl rfl rfl ?_)
 try simp only [nf, Nat.reduceAdd]
 refine hops_nil ?_
 try simp only [nf, Nat.reduceAdd]
 refine hc_F rfl (by first | rfl | assumption | (simp; done) | (simp; omega) | (simp [*]; done)) ?_
 refine hc_skip ?_
 try simp only [nf, Nat.reduceAdd]
 refine sR ?_
 refine oM ?_
 try simp only [nf, Nat.reduceAdd]
 refine oM ?_
 try simp only [nf, Nat.reduceAdd]
 refine hops_cons rfl (hop_call ?_)
 simp only [nf, Nat.reduceAdd]
 refine HT.mono (part_forget_no hp hf ho hm hn hb hi hz) ?_
 rintro _ _ ⟨rfl, rfl⟩
 try simp only [nf, Nat.reduceAdd]
 refine hops_nil ?_
 try simp only [nf, Nat.reduceAdd]
 refine sR ?_
 refine oM ?_
 try simp only [nf, Nat.reduceAdd]
 refine oN rfl ?_
 try simp only [nf, Nat.reduceAdd]
 refine oF rfl ?_
 try simp only [nf, Nat.reduceAdd]
 refine hops_cons rfl (hop_load rfl (by solve_by_elim [hS, hN, hT, hT']) (by first | rfl | assumption | exact mid_get0 rfl | exact mid_get rfl | (simp; done)) ?_)
 try simp only [nf, Nat.reduceAdd]
 refine oM ?_
 try simp only [nf, Nat.reduceAdd]
 refine oM ?_
 try simp only [nf, Nat.reduceAdd]
 refine hops_cons rfl (hop_mapUpdate rfl rfl rfl ho hm ?_)
 intro o' hm'
 refine hops_nil ?_
 try simp only [nf, Nat.reduceAdd]
 refine sR ?_
 refine oM ?_
 try simp only [nf, Nat.reduceAdd]
 refine oN rfl ?_
 try simp only [nf, Nat.reduceAdd]
 refine oF rfl ?_
 try simp only [nf, Nat.reduceAdd]
 refine hops_cons rfl (hop_load rfl (by solve_by_elim [hS, hN, hT, hT']) (by first | rfl | assumption | exact mid_get0 rfl | exact mid_get rfl | (simp; done)) ?_)
 try simp only [nf, Nat.reduceAdd]
 refine oM ?_
 try simp only [nf, Nat.reduceAdd]
 refine hops_cons rfl (hop_indexAddr (i := (i : Int)) (b := fb) (o := 0) (n := 37) (len := n) (cap := n) rfl rfl (by omega) (by omega) ?_)
 simp only [Int.toNat_natCast, Nat.zero_add, ← hA]
 try simp only [pt, ev, List.getD_cons_zero, List.getD_cons_succ, List.set_cons_zero, List.set_cons_succ]
 refine oM ?_
 try simp only [nf, Nat.reduceAdd]
 refine oM ?_
 try simp only [nf, Nat.reduceAdd]
 refine hops_cons rfl (hop_call ?_)
 simp only [nf, Nat.reduceAdd]
 refine HT.mono (Frame_Load (Hp.get_there hft hfs) hf32 hd (Hp.get_there hbt hS) hbo hL) ?_
 rintro _ _ ⟨rfl, rfl⟩
 try simp only [nf, Nat.reduceAdd]
 refine oA ?_
 try simp only [nf, Nat.reduceAdd]
 refine hops_nil ?_
 try simp only [nf, Nat.reduceAdd]
 refine hc_ret ?_
 try simp only [hng, hthen, hblock]
 refine hend_tmp rfl ?_
 exact ⟨o', hm', rfl, by rw [flat_set hi]⟩
theorem Get1_err {H : Hp} {fb q : Nat} {xb yb zb : Nat} {ox oy : Int} (hx : H xb = some (row [.int .i64 ox] 3)) (hy : H yb = some (row [.int .i64 oy] 3)) (hz : H zb = some (row [.slice none 0 0] 39)) {e : Int} (hq : HT prog 84 #[.pointer (some ⟨fb, q, none⟩), .int .i64 ox, .int .i64 oy] H (fun v H' => v = .tuple #[.slice none 0 0, .int .i64 e] ∧ H = H')) :
    HT prog 83 #[.pointer (some ⟨fb, q, none⟩), .pointer (some ⟨xb, 0, none⟩), .pointer (some ⟨yb, 0, none⟩), .pointer (some ⟨zb, 0, none⟩)] H (fun v H' => v = .int .i64 e ∧ H = H') := by
 refine ht_of_body (args := [.pointer (some ⟨fb, q, none⟩), .pointer (some ⟨xb, 0, none⟩), .pointer (some ⟨yb, 0, none⟩), .pointer (some ⟨zb, 0, none⟩)]) func83 rfl ?_
 simp only [ntmps83, List.length_cons, List.length_nil, Nat.reduceAdd, Nat.reduceSub, List.replicate_succ, List.replicate_zero, List.cons_append, List.nil_append]
 refine sR ?_
 refine oA ?_
 try simp only [nf, Nat.reduceAdd]
 refine hops_nil ?_
 try simp only [nf, Nat.reduceAdd]
 refine sR ?_
 refine oM ?_
 try simp only [nf, Nat.reduceAdd]
 refine hops_cons rfl (hop_load rfl (by solve_by_elim [hS, hN, hT, hT']) (by first | rfl | assumption | exact mid_get0 rfl | exact mid_get rfl | (simp; done)) ?_)
 try simp only [nf, Nat.reduceAdd]
 refine hops_cons rfl (hop_load rfl (by solve_by_elim [hS, hN, hT, hT']) (by first | rfl | assumption | exact mid_get0 rfl | exact mid_get rfl | (simp; done)) ?_)
 try simp only [nf, Nat.reduceAdd]
 refine hops_cons rfl (hop_call ?_)
 simp only [nf, Nat.reduceAdd]
 refine HT.mono (hq) ?_
 rintro _ _ ⟨rfl, rfl⟩
 try simp only [nf, Nat.reduceAdd]
 refine oM ?_
 try simp only [nf, Nat.reduceAdd]
 refine hops_cons rfl (hop_extract rfl rfl ?_)
 try simp only [nf, Nat.reduceAdd]
 refine hops_cons rfl (hop_extract rfl rfl ?_)
 try simp only [nf, Nat.reduceAdd]
 refine oA ?_
 try simp only [nf, Nat.reduceAdd]
 refine oA ?_
 try simp only [nf, Nat.reduceAdd]
 refine hops_nil ?_
 try simp only [nf, Nat.reduceAdd]
 refine sR ?_
 refine oM ?_
 try simp only [nf, Nat.reduceAdd]
 refine hops_cons rfl (hop_store rfl rfl (by first | rfl | assumption) (by solve_by_elim [hS, hN, hT, hT']) (by first | assumption | omega | (simp; done) | (simp; omega) | (simp [frc] <;> omega)) ?_)
 try simp only [nf, Nat.reduceAdd]
 refine hops_nil ?_
 try simp only [nf, Nat.reduceAdd]
 refine sR ?_
 refine oM ?_
 try simp only [nf, Nat.reduceAdd]
 refine oA ?_
 try simp only [nf, Nat.reduceAdd]
 refine hops_nil ?_
 try simp only [nf, Nat.reduceAdd]
 refine hc_ret ?_
 try simp only [hng, hthen, hblock]
 refine hend_tmp rfl ?_
 exact ⟨rfl, (Hp.set_eq _ hz).symm⟩
theorem Get1_ok {H : Hp} {fb q m : Nat} {X : Obj} {D : List Value} {xb yb zb : Nat} {ox oy : Int} (hx : H xb = some (row [.int .i64 ox] 3)) (hy : H yb = some (row [.int .i64 oy] 3)) (hz : H zb = some (row [.slice none 0 0] 39)) (hq : HT prog 84 #[.pointer (some ⟨fb, q, none⟩), .int .i64 ox, .int .i64 oy] H (fun v H' => ∃ b', H b' = none ∧ v = .tuple #[.slice (some ⟨b', 0, none⟩) m m, .int .i64 0] ∧ H' = (H.set b' (row D 5)).set fb X)) (hzf : zb ≠ fb) :
    HT prog 83 #[.pointer (some ⟨fb, q, none⟩), .pointer (some ⟨xb, 0, none⟩), .pointer (some ⟨yb, 0, none⟩), .pointer (some ⟨zb, 0, none⟩)] H (fun v H' => ∃ b', H b' = none ∧ v = .int .i64 0 ∧ H' = ((H.set b' (row D 5)).set fb X).set zb (row [.slice (some ⟨b', 0, none⟩) m m] 39)) := by
 refine ht_of_body (args := [.pointer (some ⟨fb, q, none⟩), .pointer (some ⟨xb, 0, none⟩), .pointer (some ⟨yb, 0, none⟩), .pointer (some ⟨zb, 0, none⟩)]) func83 rfl ?_
 simp only [ntmps83, List.length_cons, List.length_nil, Nat.reduceAdd, Nat.reduceSub, List.replicate_succ, List.replicate_zero, List.cons_append, List.nil_append]
 refine sR ?_
 refine oA ?_
 try simp only [nf, Nat.reduceAdd]
 refine hops_nil ?_
 try simp only [nf, Nat.reduceAdd]
 refine sR ?_
 refine oM ?_
 try simp only [nf, Nat.reduceAdd]
 refine hops_cons rfl (hop_load rfl (by solve_by_elim [hS, hN, hT, hT']) (by first | rfl | assumption | exact mid_get0 rfl | exact mid_get rfl | (simp; done)) ?_)
 try simp only [nf, Nat.reduceAdd]
 refine hops_cons rfl (hop_load rfl (by solve_by_elim [hS, hN, hT, hT']) (by first | rfl | assumption | exact mid_get0 rfl | exact mid_get rfl | (simp; done)) ?_)
 try simp only [nf, Nat.reduceAdd]
 refine hops_cons rfl (hop_call ?_)
 simp only [nf, Nat.reduceAdd]
 refine HT.mono (hq) ?_
 rintro _ _ ⟨b', hb', rfl, rfl⟩
 try simp only [nf, Nat.reduceAdd]
 refine oM ?_
 try simp only [nf, Nat.reduceAdd]
 refine hops_cons rfl (hop_extract rfl rfl ?_)
 try simp only [nf, Nat.reduceAdd]
 refine hops_cons rfl (hop_extract rfl rfl ?_)
 try simp only [nf, Nat.reduceAdd]
 refine oA ?_
 try simp only [nf, Nat.reduceAdd]
 refine oA ?_
 try simp only [nf, Nat.reduceAdd]
 refine hops_nil ?_
 try simp only [nf, Nat.reduceAdd]
 refine sR ?_
 refine oM ?_
 try simp only [nf, Nat.reduceAdd]
 refine hops_cons rfl (hop_store rfl rfl rfl (Hp.get_there hzf (Hp.get_there (Hp.ne_of hz hb') hz)) (by simp) ?_)
 try simp only [nf, Nat.reduceAdd]
 refine hops_nil ?_
 try simp only [nf, Nat.reduceAdd]
 refine sR ?_
 refine oM ?_
 try simp only [nf, Nat.reduceAdd]
 refine oA ?_
 try simp only [nf, Nat.reduceAdd]
 refine hops_nil ?_
 try simp only [nf, Nat.reduceAdd]
 refine hc_ret ?_
 try simp only [hng, hthen, hblock]
 refine hend_tmp rfl ?_
 exact ⟨b', hb', rfl, rfl⟩
theorem HT.sub {P : Program} {f : FuncId} {args : Array Value} {H H1 : Hp} {Q : Value → Hp → Prop} (s : Sub H H1) (h : HT P f args H Q) : HT P f args H1 Q :=
  fun w hw => (h w (hw.sub s)).mono fun _ _ ⟨v, H', he, q, ag, k⟩ => ⟨v, H', he, q, ag, ⟨k.size, fun b hb hn => k.same b hb (s.unk hn), fun b hn hs => k.new b (s.unk hn) hs, k.tape, k.os, k.output⟩⟩
theorem part_Get_no {H : Hp} {p fb tb n : Nat} {fr : List Fr} {hand : Nat} {ot : Obj} (hp : H p = some (row (partRow fb n tb hand) 72)) (hf : H fb = some (row (flat frc fr) 129)) (ho : H tb = some ot) (hm : MapI ot (tabF fr)) (hn : fr.length = n) (hb : ∀ f ∈ fr, f.b.length = 32) {pg ox oy : Int} (h : findPage fr pg = none) :
    HT prog 65 #[.pointer (some ⟨p, 0, none⟩), .int .i64 pg, .int .i64 ox, .int .i64 oy] H (fun v H' => v = .tuple #[.slice none 0 0, .int .i64 6] ∧ H = H') := by
 refine ht_of_body (args := [.pointer (some ⟨p, 0, none⟩), .int .i64 pg, .int .i64 ox, .int .i64 oy]) func65 rfl ?_
 simp only [ntmps65, List.length_cons, List.length_nil, Nat.reduceAdd, Nat.reduceSub, List.replicate_succ, List.replicate_zero, List.cons_append, List.nil_append]
 refine sR ?_
 refine hops_cons rfl (hop_box rfl rfl ?_)
 intro xb hxb
 try simp only [pt, ev, List.getD_cons_zero, List.getD_cons_succ, List.set_cons_zero, List.set_cons_succ]
 refine hops_cons rfl (hop_box rfl rfl ?_)
 intro yb hyb
 obtain ⟨hyx, hyb1⟩ := Hp.set_none.1 hyb
 try simp only [pt, ev, List.getD_cons_zero, List.getD_cons_succ, List.set_cons_zero, List.set_cons_succ]
 refine oA ?_
 try simp only [nf, Nat.reduceAdd]
 refine oA ?_
 try simp only [nf, Nat.reduceAdd]
 refine hops_nil ?_
 try simp only [nf, Nat.reduceAdd]
 refine sR ?_
 refine hops_cons rfl (hop_alloc rfl ?_)
 intro zb hzb
 obtain ⟨hzy, hzb1⟩ := Hp.set_none.1 hzb
 obtain ⟨hzx, hzb2⟩ := Hp.set_none.1 hzb1
 have sub1 := Sub.set_new (o := row [.int .i64 ox] 3) hxb
 have sub2 := Sub.set_new (o := row [.int .i64 oy] 3) hyb
 have sub3 := Sub.set_new (o := row [.slice none 0 0] 39) hzb
 have sub := sub1.trans (sub2.trans sub3)
 try simp only [pt, ev, List.getD_cons_zero, List.getD_cons_succ, List.set_cons_zero, List.set_cons_succ]
 refine hops_nil ?_
 try simp only [nf, Nat.reduceAdd]
 refine sR ?_
 refine oM ?_
 try simp only [nf, Nat.reduceAdd]
 refine oM ?_
 try simp only [nf, Nat.reduceAdd]
 refine hops_cons rfl (hop_makeFunc ?_)
 try simp only [nf, Nat.reduceAdd]
 refine hops_cons rfl (hop_call ?_)
 simp only [nf, Nat.reduceAdd]
 refine HT.mono (part_of_no (sub _ _ hp) (sub _ _ hf) (sub _ _ ho) hm hn hb h) ?_
 rintro _ _ ⟨rfl, rfl⟩
 try simp only [nf, Nat.reduceAdd]
 refine oA ?_
 try simp only [nf, Nat.reduceAdd]
 refine hops_nil ?_
 try simp only [nf, Nat.reduceAdd]
 refine sR ?_
 refine hops_cons rfl (hop_load rfl (by solve_by_elim [hS, hN, hT, hT']) (by first | rfl | assumption | exact mid_get0 rfl | exact mid_get rfl | (simp; done)) ?_)
 try simp only [nf, Nat.reduceAdd]
 refine oM ?_
 try simp only [nf, Nat.reduceAdd]
 refine oA ?_
 try simp only [nf, Nat.reduceAdd]
 refine oA ?_
 try simp only [nf, Nat.reduceAdd]
 refine hops_nil ?_
 try simp only [nf, Nat.reduceAdd]
 refine hc_ret ?_
 try simp only [hng, hthen, hblock]
 exact hend_tmp2_sub rfl sub ⟨rfl, rfl⟩
theorem part_Get_err {H : Hp} {p fb tb n : Nat} {fr : List Fr} {hand : Nat} {ot : Obj} (hp : H p = some (row (partRow fb n tb hand) 72)) (hf : H fb = some (row (flat frc fr) 129)) (ho : H tb = some ot) (hm : MapI ot (tabF fr)) (hn : fr.length = n) (hb : ∀ f ∈ fr, f.b.length = 32) {i : Nat} {f : Fr} (hi : fr[i]? = some f) {pg ox oy e : Int} (h : findPage fr pg = some i) (hq : ∀ H1, Sub H H1 → HT prog 84 #[.pointer (some ⟨fb, i * 37, none⟩), .int .i64 ox, .int .i64 oy] H1 (fun v H' => v = .tuple #[.slice none 0 0, .int .i64 e] ∧ H1 = H')) :
    HT prog 65 #[.pointer (some ⟨p, 0, none⟩), .int .i64 pg, .int .i64 ox, .int .i64 oy] H (fun v H' => v = .tuple #[.slice none 0 0, .int .i64 e] ∧ H = H') := by
 refine ht_of_body (args := [.pointer (some ⟨p, 0, none⟩), .int .i64 pg, .int .i64 ox, .int .i64 oy]) func65 rfl ?_
 simp only [ntmps65, List.length_cons, List.length_nil, Nat.reduceAdd, Nat.reduceSub, List.replicate_succ, List.replicate_zero, List.cons_append, List.nil_append]
 refine sR ?_
 refine hops_cons rfl (hop_box rfl rfl ?_)
 intro xb hxb
 try simp only [pt, ev, List.getD_cons_zero, List.getD_cons_succ, List.set_cons_zero, List.set_cons_succ]
 refine hops_cons rfl (hop_box rfl rfl ?_)
 intro yb hyb
 obtain ⟨hyx, hyb1⟩ := Hp.set_none.1 hyb
 try simp only [pt, ev, List.getD_cons_zero, List.getD_cons_succ, List.set_cons_zero, List.set_cons_succ]
 refine oA ?_
 try simp only [nf, Nat.reduceAdd]
 refine oA ?_
 try simp only [nf, Nat.reduceAdd]
 refine hops_nil ?_
 try simp only [nf, Nat.reduceAdd]
 refine sR ?_
 refine hops_cons rfl (hop_alloc rfl ?_)
 intro zb hzb
 obtain ⟨hzy, hzb1⟩ := Hp.set_none.1 hzb
 obtain ⟨hzx, hzb2⟩ := Hp.set_none.1 hzb1
 have sub1 := Sub.set_new (o := row [.int .i64 ox] 3) hxb
 have sub2 := Sub.set_new (o := row [.int .i64 oy] 3) hyb
 have sub3 := Sub.set_new (o := row [.slice none 0 0] 39) hzb
 have sub := sub1.trans (sub2.trans sub3)
 try simp only [pt, ev, List.getD_cons_zero, List.getD_cons_succ, List.set_cons_zero, List.set_cons_succ]
 refine hops_nil ?_
 try simp only [nf, Nat.reduceAdd]
 refine sR ?_
 refine oM ?_
 try simp only [nf, Nat.reduceAdd]
 refine oM ?_
 try simp only [nf, Nat.reduceAdd]
 refine hops_cons rfl (hop_makeFunc ?_)
 try simp only [nf, Nat.reduceAdd]
 refine hops_cons rfl (hop_call ?_)
 simp only [nf, Nat.reduceAdd]
 have g1 := Get1_err (xb := xb) (yb := yb) (zb := zb) (fb := fb) (q := i * 37) (by solve_by_elim [hS, hN, hT, hT']) (by solve_by_elim [hS, hN, hT, hT']) (by solve_by_elim [hS, hN, hT, hT']) (hq _ sub)
 refine HT.mono (part_of_fn (sub _ _ hp) (sub _ _ hf) (sub _ _ ho) hm hn hb hi h (first := #[]) (by simpa using g1)) ?_
 rintro _ _ ⟨rfl, rfl⟩
 try simp only [pt, ev, List.getD_cons_zero, List.getD_cons_succ, List.set_cons_zero, List.set_cons_succ]
 refine oA ?_
 try simp only [nf, Nat.reduceAdd]
 refine hops_nil ?_
 try simp only [nf, Nat.reduceAdd]
 refine sR ?_
 refine hops_cons rfl (hop_load rfl (by solve_by_elim [hS, hN, hT, hT']) (by first | rfl | assumption | exact mid_get0 rfl | exact mid_get rfl | (simp; done)) ?_)
 try simp only [nf, Nat.reduceAdd]
 refine oM ?_
 try simp only [nf, Nat.reduceAdd]
 refine oA ?_
 try simp only [nf, Nat.reduceAdd]
 refine oA ?_
 try simp only [nf, Nat.reduceAdd]
 refine hops_nil ?_
 try simp only [nf, Nat.reduceAdd]
 refine hc_ret ?_
 try simp only [hng, hthen, hblock]
 exact hend_tmp2_sub rfl sub ⟨rfl, rfl⟩
theorem part_Get_good {H : Hp} {p fb tb n : Nat} {fr : List Fr} {hand : Nat} {ot : Obj} (hp : H p = some (row (partRow fb n tb hand) 72)) (hf : H fb = some (row (flat frc fr) 129)) (ho : H tb = some ot) (hm : MapI ot (tabF fr)) (hn : fr.length = n) (hb : ∀ f ∈ fr, f.b.length = 32) {i : Nat} {f : Fr} (hi : fr[i]? = some f) {pg ox oy : Int} {m : Nat} {D : List Value} {X : Obj} (h : findPage fr pg = some i) (hq : ∀ H1, Sub H H1 → HT prog 84 #[.pointer (some ⟨fb, i * 37, none⟩), .int .i64 ox, .int .i64 oy] H1 (fun v H' => ∃ b', H1 b' = none ∧ v = .tuple #[.slice (some ⟨b', 0, none⟩) m m, .int .i64 0] ∧ H' = (H1.set b' (row D 5)).set fb X)) :
    HT prog 65 #[.pointer (some ⟨p, 0, none⟩), .int .i64 pg, .int .i64 ox, .int .i64 oy] H (fun v H' => ∃ b', H b' = none ∧ v = .tuple #[.slice (some ⟨b', 0, none⟩) m m, .int .i64 0] ∧ H' = (H.set b' (row D 5)).set fb X) := by
 refine ht_of_body (args := [.pointer (some ⟨p, 0, none⟩), .int .i64 pg, .int .i64 ox, .int .i64 oy]) func65 rfl ?_
 simp only [ntmps65, List.length_cons, List.length_nil, Nat.reduceAdd, Nat.reduceSub, List.replicate_succ, List.replicate_zero, List.cons_append, List.nil_append]
 refine sR ?_
 refine hops_cons rfl (hop_box rfl rfl ?_)
 intro xb hxb
 try simp only [pt, ev, List.getD_cons_zero, List.getD_cons_succ, List.set_cons_zero, List.set_cons_succ]
 refine hops_cons rfl (hop_box rfl rfl ?_)
 intro yb hyb
 obtain ⟨hyx, hyb1⟩ := Hp.set_none.1 hyb
 try simp only [pt, ev, List.getD_cons_zero, List.getD_cons_succ, List.set_cons_zero, List.set_cons_succ]
 refine oA ?_
 try simp only [nf, Nat.reduceAdd]
 refine oA ?_
 try simp only [nf, Nat.reduceAdd]
 refine hops_nil ?_
 try simp only [nf, Nat.reduceAdd]
 refine sR ?_
 refine hops_cons rfl (hop_alloc rfl ?_)
 intro zb hzb
 obtain ⟨hzy, hzb1⟩ := Hp.set_none.1 hzb
 obtain ⟨hzx, hzb2⟩ := Hp.set_none.1 hzb1
 have sub1 := Sub.set_new (o := row [.int .i64 ox] 3) hxb
 have sub2 := Sub.set_new (o := row [.int .i64 oy] 3) hyb
 have sub3 := Sub.set_new (o := row [.slice none 0 0] 39) hzb
 have sub := sub1.trans (sub2.trans sub3)
 try simp only [pt, ev, List.getD_cons_zero, List.getD_cons_succ, List.set_cons_zero, List.set_cons_succ]
 refine hops_nil ?_
 try simp only [nf, Nat.reduceAdd]
 refine sR ?_
 refine oM ?_
 try simp only [nf, Nat.reduceAdd]
 refine oM ?_
 try simp only [nf, Nat.reduceAdd]
 refine hops_cons rfl (hop_makeFunc ?_)
 try simp only [nf, Nat.reduceAdd]
 refine hops_cons rfl (hop_call ?_)
 simp only [nf, Nat.reduceAdd]
 have hfz := Hp.ne_of hf hzb2
 have g1 := Get1_ok (xb := xb) (yb := yb) (zb := zb) (fb := fb) (q := i * 37) (by solve_by_elim [hS, hN, hT, hT']) (by solve_by_elim [hS, hN, hT, hT']) (by solve_by_elim [hS, hN, hT, hT']) (hq _ sub) (Ne.symm hfz)
 refine HT.mono (part_of_fn (sub _ _ hp) (sub _ _ hf) (sub _ _ ho) hm hn hb hi h (first := #[]) (by simpa using g1)) ?_
 rintro _ _ ⟨b', hb', rfl, rfl⟩
 try simp only [pt, ev, List.getD_cons_zero, List.getD_cons_succ, List.set_cons_zero, List.set_cons_succ]
 refine oA ?_
 try simp only [nf, Nat.reduceAdd]
 refine hops_nil ?_
 try simp only [nf, Nat.reduceAdd]
 refine sR ?_
 refine hops_cons rfl (hop_load rfl (Hp.set_same _ _ _) rfl ?_)
 try simp only [nf, Nat.reduceAdd]
 refine oM ?_
 try simp only [nf, Nat.reduceAdd]
 refine oA ?_
 try simp only [nf, Nat.reduceAdd]
 refine oA ?_
 try simp only [nf, Nat.reduceAdd]
 refine hops_nil ?_
 try simp only [nf, Nat.reduceAdd]
 refine hc_ret ?_
 try simp only [hng, hthen, hblock]
 refine hend_tmp2_sub rfl ?_ ⟨b', sub.unk hb', rfl, rfl⟩
 have hbz : zb ≠ b' := (Hp.set_none.1 hb').1.symm
 have hzf := Ne.symm hfz
 intro a o ha
 simp only [Hp.set] at ha ⊢
 by_cases e1 : a = fb
 · subst e1; rw [if_pos rfl] at ha; rw [if_neg hfz, if_pos rfl]; exact ha
 · rw [if_neg e1] at ha
   by_cases e2 : a = b'
   · subst e2; rw [if_pos rfl] at ha; rw [if_neg (Ne.symm hbz), if_neg e1, if_pos rfl]; exact ha
   · rw [if_neg e2] at ha
     have hne : a ≠ zb := Hp.ne_of ha hzb2
     have hne2 : a ≠ yb := Hp.ne_of ha hyb1
     have hne3 : a ≠ xb := Hp.ne_of ha hxb
     rw [if_neg hne, if_neg e1, if_neg e2, if_neg hne, if_neg hne2, if_neg hne3]; exact ha
theorem Put1 {H : Hp} {fb q : Nat} {xb yb : Nat} {ox : Int} {sv : Value} (hx : H xb = some (row [.int .i64 ox] 3)) (hy : H yb = some (row [sv] 39)) {Q : Value → Hp → Prop} (hq : HT prog 86 #[.pointer (some ⟨fb, q, none⟩), .int .i64 ox, sv] H Q) :
    HT prog 85 #[.pointer (some ⟨fb, q, none⟩), .pointer (some ⟨xb, 0, none⟩), .pointer (some ⟨yb, 0, none⟩)] H Q := by
 refine ht_of_body (args := [.pointer (some ⟨fb, q, none⟩), .pointer (some ⟨xb, 0, none⟩), .pointer (some ⟨yb, 0, none⟩)]) func85 rfl ?_
 simp only [ntmps85, List.length_cons, List.length_nil, Nat.reduceAdd, Nat.reduceSub, List.replicate_succ, List.replicate_zero, List.cons_append, List.nil_append]
 refine sR ?_
 refine oA ?_
 try simp only [nf, Nat.reduceAdd]
 refine hops_nil ?_
 try simp only [nf, Nat.reduceAdd]
 refine sR ?_
 refine oM ?_
 try simp only [nf, Nat.reduceAdd]
 refine hops_cons rfl (hop_load rfl (by solve_by_elim [hS, hN, hT, hT']) (by first | rfl | assumption | exact mid_get0 rfl | exact mid_get rfl | (simp; done)) ?_)
 try simp only [nf, Nat.reduceAdd]
 refine hops_cons rfl (hop_load rfl (by solve_by_elim [hS, hN, hT, hT']) (by first | rfl | assumption | exact mid_get0 rfl | exact mid_get rfl | (simp; done)) ?_)
 try simp only [nf, Nat.reduceAdd]
 refine hops_cons rfl (hop_call ?_)
 simp only [nf, Nat.reduceAdd]
 refine HT.mono hq ?_
 intro v H1 hq1
 try simp only [pt, ev, List.getD_cons_zero, List.getD_cons_succ, List.set_cons_zero, List.set_cons_succ]
 refine oA ?_
 try simp only [nf, Nat.reduceAdd]
 refine hops_nil ?_
 try simp only [nf, Nat.reduceAdd]
 refine hc_ret ?_
 try simp only [hng, hthen, hblock]
 refine hend_tmp rfl ?_
 exact hq1
theorem part_Put_no {H : Hp} {p fb tb n : Nat} {fr : List Fr} {hand : Nat} {ot : Obj} (hp : H p = some (row (partRow fb n tb hand) 72)) (hf : H fb = some (row (flat frc fr) 129)) (ho : H tb = some ot) (hm : MapI ot (tabF fr)) (hn : fr.length = n) (hb : ∀ f ∈ fr, f.b.length = 32) {pg ox : Int} {sv : Value} (hsv : sv.cells = [sv].toArray) (h : findPage fr pg = none) :
    HT prog 68 #[.pointer (some ⟨p, 0, none⟩), .int .i64 pg, .int .i64 ox, sv] H (fun v H' => v = .int .i64 6 ∧ H = H') := by
 refine ht_of_body (args := [.pointer (some ⟨p, 0, none⟩), .int .i64 pg, .int .i64 ox, sv]) func68 rfl ?_
 simp only [ntmps68, List.length_cons, List.length_nil, Nat.reduceAdd, Nat.reduceSub, List.replicate_succ, List.replicate_zero, List.cons_append, List.nil_append]
 refine sR ?_
 refine hops_cons rfl (hop_box rfl rfl ?_)
 intro xb hxb
 try simp only [pt, ev, List.getD_cons_zero, List.getD_cons_succ, List.set_cons_zero, List.set_cons_succ]
 refine hops_cons rfl (hop_box rfl hsv ?_)
 intro yb hyb
 obtain ⟨hyx, hyb1⟩ := Hp.set_none.1 hyb
 have sub1 := Sub.set_new (o := row [.int .i64 ox] 3) hxb
 have sub2 := Sub.set_new (o := row [sv] 39) hyb
 have sub := sub1.trans sub2
 try simp only [pt, ev, List.getD_cons_zero, List.getD_cons_succ, List.set_cons_zero, List.set_cons_succ]
 refine oA ?_
 try simp only [nf, Nat.reduceAdd]
 refine hops_nil ?_
 try simp only [nf, Nat.reduceAdd]
 refine sR ?_
 refine oM ?_
 try simp only [nf, Nat.reduceAdd]
 refine oM ?_
 try simp only [nf, Nat.reduceAdd]
 refine hops_cons rfl (hop_makeFunc ?_)
 try simp only [nf, Nat.reduceAdd]
 refine hops_cons rfl (hop_call ?_)
 simp only [nf, Nat.reduceAdd]
 refine HT.mono (part_of_no (sub _ _ hp) (sub _ _ hf) (sub _ _ ho) hm hn hb h) ?_
 rintro _ _ ⟨rfl, rfl⟩
 try simp only [nf, Nat.reduceAdd]
 refine oA ?_
 try simp only [nf, Nat.reduceAdd]
 refine hops_nil ?_
 try simp only [nf, Nat.reduceAdd]
 refine hc_ret ?_
 try simp only [hng, hthen, hblock]
 exact hend_tmp_sub rfl sub ⟨rfl, rfl⟩
theorem part_Put_q {H : Hp} {p fb tb n : Nat} {fr : List Fr} {hand : Nat} {ot : Obj} (hp : H p = some (row (partRow fb n tb hand) 72)) (hf : H fb = some (row (flat frc fr) 129)) (ho : H tb = some ot) (hm : MapI ot (tabF fr)) (hn : fr.length = n) (hb : ∀ f ∈ fr, f.b.length = 32) {i : Nat} {f : Fr} (hi : fr[i]? = some f) {pg ox : Int} {sv v0 : Value} {F : Hp → Hp} (hF : ∀ H1, Sub H H1 → Sub (F H) (F H1)) (hsv : sv.cells = [sv].toArray) (h : findPage fr pg = some i) (hq : ∀ H1, Sub H H1 → HT prog 86 #[.pointer (some ⟨fb, i * 37, none⟩), .int .i64 ox, sv] H1 (fun v H' => v = v0 ∧ F H1 = H')) :
    HT prog 68 #[.pointer (some ⟨p, 0, none⟩), .int .i64 pg, .int .i64 ox, sv] H (fun v H' => v = v0 ∧ F H = H') := by
 refine ht_of_body (args := [.pointer (some ⟨p, 0, none⟩), .int .i64 pg, .int .i64 ox, sv]) func68 rfl ?_
 simp only [ntmps68, List.length_cons, List.length_nil, Nat.reduceAdd, Nat.reduceSub, List.replicate_succ, List.replicate_zero, List.cons_append, List.nil_append]
 refine sR ?_
 refine hops_cons rfl (hop_box rfl rfl ?_)
 intro xb hxb
 try simp only [pt, ev, List.getD_cons_zero, List.getD_cons_succ, List.set_cons_zero, List.set_cons_succ]
 refine hops_cons rfl (hop_box rfl hsv ?_)
 intro yb hyb
 obtain ⟨hyx, hyb1⟩ := Hp.set_none.1 hyb
 have sub1 := Sub.set_new (o := row [.int .i64 ox] 3) hxb
 have sub2 := Sub.set_new (o := row [sv] 39) hyb
 have sub := sub1.trans sub2
 try simp only [pt, ev, List.getD_cons_zero, List.getD_cons_succ, List.set_cons_zero, List.set_cons_succ]
 refine oA ?_
 try simp only [nf, Nat.reduceAdd]
 refine hops_nil ?_
 try simp only [nf, Nat.reduceAdd]
 refine sR ?_
 refine oM ?_
 try simp only [nf, Nat.reduceAdd]
 refine oM ?_
 try simp only [nf, Nat.reduceAdd]
 refine hops_cons rfl (hop_makeFunc ?_)
 try simp only [nf, Nat.reduceAdd]
 refine hops_cons rfl (hop_call ?_)
 simp only [nf, Nat.reduceAdd]
 have g1 := Put1 (xb := xb) (yb := yb) (fb := fb) (q := i * 37) (by solve_by_elim [hS, hN, hT, hT']) (by solve_by_elim [hS, hN, hT, hT']) (hq _ sub)
 refine HT.mono (part_of_fn (sub _ _ hp) (sub _ _ hf) (sub _ _ ho) hm hn hb hi h (first := #[]) (by simpa using g1)) ?_
 rintro _ _ ⟨rfl, rfl⟩
 try simp only [pt, ev, List.getD_cons_zero, List.getD_cons_succ, List.set_cons_zero, List.set_cons_succ]
 refine oA ?_
 try simp only [nf, Nat.reduceAdd]
 refine hops_nil ?_
 try simp only [nf, Nat.reduceAdd]
 refine hc_ret ?_
 try simp only [hng, hthen, hblock]
 exact hend_tmp_sub rfl (hF _ sub) ⟨rfl, rfl⟩
theorem part_Victim_yes {H0 : Hp} {p fb tb n : Nat} {fr : List Fr} {hand : Nat} {ot : Obj} (hp : H0 p = some (row (partRow fb n tb hand) 72)) (hf : H0 fb = some (row (flat frc fr) 129)) (ho : H0 tb = some ot) (hm : MapI ot (tabF fr)) (hn : fr.length = n) (hb : ∀ f ∈ fr, f.b.length = 32) (hn0 : 0 < n) (hn2 : n ≤ 65536) (hh : hand ≤ 65536) {vi q : Nat} (hq : (turnFrom n hand (2 * n) 0 (fr.map flOf)).1 = some (vi, q)) :
    HT prog 80 #[.pointer (some ⟨p, 0, none⟩)] H0 (fun v H' => v = .tuple #[.int .i64 (vi : Nat), .bool true] ∧ H' = (H0.set p (row (partRow fb n tb ((vi + 1) % n)) 72)).set fb (row (flat frc (List.zipWith putFl fr (turnFrom n hand (2 * n) 0 (fr.map flOf)).2)) 129)) := by
 have hpf := ne_row hp hf (by decide)
 have hfp := Ne.symm hpf
 refine ht_of_body (args := [.pointer (some ⟨p, 0, none⟩)]) func80 rfl ?_
 simp only [ntmps80, List.length_cons, List.length_nil, Nat.reduceAdd, Nat.reduceSub, List.replicate_succ, List.replicate_zero, List.cons_append, List.nil_append]
 refine sR ?_
 refine oA ?_
 try simp only [nf, Nat.reduceAdd]
 refine oA ?_
 try simp only [nf, Nat.reduceAdd]
 refine hops_nil ?_
 try simp only [nf, Nat.reduceAdd]
 refine sR ?_
 refine oA ?_
 try simp only [nf, Nat.reduceAdd]
 refine hops_nil ?_
 try simp only [nf, Nat.reduceAdd]
 refine hc_seq ?_
 refine sR ?_
 refine oM ?_
 try simp only [nf, Nat.reduceAdd]
 refine oN rfl ?_
 try simp only [nf, Nat.reduceAdd]
 refine oF rfl ?_
 try simp only [nf, Nat.reduceAdd]
 refine hops_cons rfl (hop_load rfl (by solve_by_elim [hS, hN, hT, hT']) (by first | rfl | assumption | exact mid_get0 rfl | exact mid_get rfl | (simp; done)) ?_)
 try simp only [nf, Nat.reduceAdd]
 refine hops_cons rfl (hop_lenS rfl ?_)
 try simp only [nf, Nat.reduceAdd]
 refine oM ?_
 try simp only [nf, Nat.reduceAdd]
 refine hops_nil ?_
 try simp only [nf, Nat.reduceAdd]
 refine hc_block ?_
 refine hc_loop (fun nn l H => ∃ (x6 : Value) (x18 : Value) (x19 : Value) (x20 : Value) (x21 : Value) (x22 : Value) (x23 : Value) (x24 : Value) (x25 : Value) (x26 : Value) (k : Nat) (sv : Value), l = [_, _, _, _, sv, _, x6, _, _, _, _, _, _, _, _, _, _, .int .i64 (k : Int), x18, x19, x20, x21, x22, x23, x24, x25, x26, _, _, _, _, _, _, _, _, _, _, _, _, _, _, _, _, _, _, _, _, _, _, _, _, _, _, _, _, _, _, _, _, _, _] ∧ OwnS H sv k (flat flc ((fr.take k).map flOf)) 126 4 ∧ H.drop sv = H0 ∧ k ≤ n ∧ nn = n - k) (n) ⟨_, _, _, _, _, _, _, _, _, _, 0, _, rfl, OwnS.nil _ _ _, rfl, by omega, rfl⟩ ?_
 rintro nn l H ⟨x6, x18, x19, x20, x21, x22, x23, x24, x25, x26, k, sv, rfl, hown, hdr, hk, hnn⟩
 have s0 : Sub H0 H := hdr ▸ Sub.drop H sv
 have hp' := s0 _ _ hp
 have hf' := s0 _ _ hf
 refine sR ?_
 refine hops_cons rfl (hop_bin rfl rfl rfl ?_)
 try simp only [nf, Nat.reduceAdd]
 refine hops_nil ?_
 try simp only [nf, Nat.reduceAdd]
 refine hc_seq ?_
 refine hc_cond rfl (fun hc0 => ?_) (fun hc0 => ?_)
 ·
  try simp at hc0
  refine hc_skip ?_
  try simp only [nf, Nat.reduceAdd]
  refine hc_seq ?_
  refine hc_block ?_
  refine sR ?_
  obtain ⟨f, hi⟩ : ∃ f, fr[k]? = some f := ⟨_, List.getElem?_eq_getElem (by omega)⟩
  have hil : k < fr.length := by omega
  have hA := frA hb (Nat.le_of_lt hil)
  have hf32 := hb f (List.mem_of_getElem? hi)
  have hsp := flat_split (c := frc) hi
  have hlen : k * 37 + 37 ≤ (flat frc fr).length := by
    rw [flat_length (n := 37) _ (frc37 hb)]
    have := Nat.mul_le_mul_right 37 hil
    omega
  have e37 : ((flat frc fr).drop (flat frc (fr.take k)).length).take 37 = frc f := by rw [hsp]; exact mid_take (frc_length hf32)
  refine hops_cons rfl (hop_indexAddr (i := (k : Int)) (b := fb) (o := 0) (n := 37) (len := n) (cap := n) rfl rfl (by omega) (by omega) ?_)
  simp only [Int.toNat_natCast, Nat.zero_add, ← hA]
  try simp only [pt, ev, List.getD_cons_zero, List.getD_cons_succ, List.set_cons_zero, List.set_cons_succ]
  refine hops_cons rfl (hop_loadA rfl hf' (by rw [hA]; exact hlen) ?_)
  try simp only [nf, Nat.reduceAdd]
  refine hops_cons rfl (hop_allocFr ?_)
  intro tb6 htb6
  try simp only [pt, ev, List.getD_cons_zero, List.getD_cons_succ, List.set_cons_zero, List.set_cons_succ]
  refine hops_cons rfl (hop_storeA (n := 37) (vs := ((flat frc fr).drop (flat frc (fr.take k)).length).take 37) rfl rfl (by rw [hA]; simp; omega) (fun v h => one_fr _ v (List.mem_of_mem_drop (List.mem_of_mem_take h))) (Hp.set_same _ _ _) (by rw [frz_len]; omega) (by decide) ?_)
  rw [e37, wr_all (by rw [frc_length hf32, frz_len]), Hp.set_set]
  try simp only [pt, ev, List.getD_cons_zero, List.getD_cons_succ, List.set_cons_zero, List.set_cons_succ]
  refine hops_nil ?_
  try simp only [nf, Nat.reduceAdd]
  refine hc_region ?_
  refine oM ?_
  try simp only [nf, Nat.reduceAdd]
  refine oF rfl ?_
  try simp only [nf, Nat.reduceAdd]
  refine hops_cons rfl (hop_loadA rfl (Hp.set_same _ _ _) (by rw [frc_length hf32]; omega) ?_)
  try simp only [nf, Nat.reduceAdd]
  refine hops_cons rfl (hop_buildSlice (L := flc (flOf f)) rfl (by decide) (by decide) rfl ?_)
  intro bs hbs
  try simp only [pt, ev, List.getD_cons_zero, List.getD_cons_succ, List.set_cons_zero, List.set_cons_succ]
  have hsb : srcOk ((H.set tb6 (row (frc f) 129)).set bs (row (flc (flOf f)) 126)) 4 1 (.slice (some ⟨bs, 0, none⟩) 1 1) (flc (flOf f)) := srcOk_own' (Hp.set_same _ _ _) rfl
  have s1 : Sub H ((H.set tb6 (row (frc f) 129)).set bs (row (flc (flOf f)) 126)) := (Sub.set_new htb6).trans (Sub.set_new hbs)
  refine hops_cons rfl (hop_appendO (m := 1) (ys := flc (flOf f)) rfl (hown.sub s1) hsb (one_flc _) rfl (by decide) (by decide) (by omega) (by decide) ?_)
  intro b' cap' J' hb' hcap' hJ'
  have s2 : Sub H0 ((((H.set tb6 (row (frc f) 129)).set bs (row (flc (flOf f)) 126))).drop sv) := hdr ▸ Sub.drop_mono s1 sv
  have hb0 := s2.unk hb'
  have sub2 := s2.set b' (row (flat flc ((fr.take k).map flOf) ++ flc (flOf f) ++ J') 126)
  have htk : (fr.take (k + 1)).map flOf = (fr.take k).map flOf ++ [flOf f] := by rw [List.take_add_one, hi]; simp
  have hown2 : OwnS (H0.set b' (row (flat flc ((fr.take k).map flOf) ++ flc (flOf f) ++ J') 126)) (.slice (some ⟨b', 0, none⟩) (k + 1) cap') (k + 1) (flat flc ((fr.take (k + 1)).map flOf)) 126 4 := by
    rw [htk, flat_append]
    exact OwnS.mk (B := J') (by rw [Hp.set_same]; simp [flat]) (by rw [List.length_append, flat_length (n := 4) _ (fun _ _ => rfl)]; simp [flat, flc]; omega) hJ' hcap'
  have hdr2 : (H0.set b' (row (flat flc ((fr.take k).map flOf) ++ flc (flOf f) ++ J') 126)).drop (.slice (some ⟨b', 0, none⟩) (k + 1) cap') = H0 := by simp only [Hp.drop]; rw [Hp.set_del, Hp.del_of hb0]
  try simp only [pt, ev, List.getD_cons_zero, List.getD_cons_succ, List.set_cons_zero, List.set_cons_succ]
  refine oA ?_
  try simp only [nf, Nat.reduceAdd]
  refine hops_nil ?_
  try simp only [nf, Nat.reduceAdd]
  refine hc_region ?_
  refine hops_cons rfl (hop_add rfl rfl (by omega) ?_)
  try simp only [nf, Nat.reduceAdd]
  refine oM ?_
  try simp only [nf, Nat.reduceAdd]
  refine hops_nil ?_
  try simp only [nf, Nat.reduceAdd]
  refine ⟨n - (k + 1), _, by omega, sub2, _, _, _, _, _, _, _, _, _, _, k + 1, _, rfl, ?_⟩
  exact ⟨hown2, hdr2, by omega, rfl⟩
 ·
  try simp at hc0
  refine hc_exit ?_
  simp only [hng, hthen, hblock, if_true]
  try simp only [nf, Nat.reduceAdd]
  refine sR ?_
  obtain rfl : n = k := by omega
  rw [show fr.take n = fr from List.take_of_length_le (by omega)] at hown
  rcases hown with ⟨rfl, hk0, _⟩ | ⟨lb, cp, JB, rfl, hlb, hlA, hlB, hcp⟩
  · omega
  simp only [Hp.drop] at hdr
  refine hops_cons rfl (hop_move ?_)
  try simp only [pt, ev, List.getD_cons_zero, List.getD_cons_succ, List.set_cons_zero, List.set_cons_succ]
  refine oM ?_
  try simp only [nf, Nat.reduceAdd]
  refine oN rfl ?_
  try simp only [nf, Nat.reduceAdd]
  refine oF rfl ?_
  try simp only [nf, Nat.reduceAdd]
  refine hops_cons rfl (hop_load rfl (by solve_by_elim [hS, hN, hT, hT']) (by first | rfl | assumption | exact mid_get0 rfl | exact mid_get rfl | (simp; done)) ?_)
  try simp only [nf, Nat.reduceAdd]
  refine hops_cons rfl (hop_call ?_)
  simp only [nf, Nat.reduceAdd]
  have hmm : (fr.map flOf).length = n := by simp [hn]
  refine HT.mono (clock_Turn_all hlb hmm hn0 hn2 hh) ?_
  rintro _ _ ⟨ob, cap, J, hob, hcap, rfl, rfl⟩
  simp only [turnVal, hq]
  have hll : (turnFrom n hand (2 * n) 0 (fr.map flOf)).2.length = fr.length := by rw [turnFrom_length]; simp
  generalize (turnFrom n hand (2 * n) 0 (fr.map flOf)).2 = lst at *
  have hpo := Hp.ne_of hp' hob
  have hfo := Hp.ne_of hf' hob
  try simp only [pt, ev, List.getD_cons_zero, List.getD_cons_succ, List.set_cons_zero, List.set_cons_succ]
  refine oM ?_
  try simp only [nf, Nat.reduceAdd]
  refine hops_cons rfl (hop_extract rfl rfl ?_)
  try simp only [nf, Nat.reduceAdd]
  refine hops_cons rfl (hop_extract rfl rfl ?_)
  try simp only [nf, Nat.reduceAdd]
  refine hops_cons rfl (hop_extract rfl rfl ?_)
  try simp only [nf, Nat.reduceAdd]
  refine hops_cons rfl (hop_extract rfl rfl ?_)
  try simp only [nf, Nat.reduceAdd]
  refine oA ?_
  try simp only [nf, Nat.reduceAdd]
  refine oA ?_
  try simp only [nf, Nat.reduceAdd]
  refine oA ?_
  try simp only [nf, Nat.reduceAdd]
  refine oA ?_
  try simp only [nf, Nat.reduceAdd]
  refine hops_nil ?_
  try simp only [nf, Nat.reduceAdd]
  refine sR ?_
  refine oM ?_
  try simp only [nf, Nat.reduceAdd]
  refine oM ?_
  try simp only [nf, Nat.reduceAdd]
  refine oN rfl ?_
  try simp only [nf, Nat.reduceAdd]
  refine oF rfl ?_
  try simp only [nf, Nat.reduceAdd]
  refine hops_cons rfl (hop_store rfl rfl rfl (Hp.get_there hpo hp') (by simp [partRow]) ?_)
  have hop2 := Ne.symm hpo
  have hof := Ne.symm hfo
  have hsb : Sub (H0.set p (row (partRow fb n tb ((vi + 1) % n)) 72)) ((H.set ob (row (flat flc lst ++ J) 126)).set p (row ((partRow fb n tb hand).set 2 (.int .i64 (((vi + 1) % n) : Nat))) 72)) := by
    exact ((s0.trans (Sub.set_new hob)).set _ _)
  have hbf := Hp.get_there (o := row ((partRow fb n tb hand).set 2 (.int .i64 (((vi + 1) % n) : Nat))) 72) hfp (Hp.get_there (o := row (flat flc lst ++ J) 126) hfo hf')
  have hbp : ((H.set ob (row (flat flc lst ++ J) 126)).set p (row ((partRow fb n tb hand).set 2 (.int .i64 (((vi + 1) % n) : Nat))) 72)) p = some _ := Hp.set_same _ _ _
  have hbo : ((H.set ob (row (flat flc lst ++ J) 126)).set p (row ((partRow fb n tb hand).set 2 (.int .i64 (((vi + 1) % n) : Nat))) 72)) ob = some _ := Hp.get_there hop2 (Hp.set_same _ _ _)
  try simp only [pt, ev, List.getD_cons_zero, List.getD_cons_succ, List.set_cons_zero, List.set_cons_succ]
  generalize (H.set ob (row (flat flc lst ++ J) 126)).set p (row ((partRow fb n tb hand).set 2 (.int .i64 (((vi + 1) % n) : Nat))) 72) = Hb at *
  refine hops_nil ?_
  try simp only [nf, Nat.reduceAdd]
  refine hc_seq ?_
  refine sR ?_
  refine oM ?_
  try simp only [nf, Nat.reduceAdd]
  refine hops_cons rfl (hop_lenS rfl ?_)
  try simp only [nf, Nat.reduceAdd]
  refine oM ?_
  try simp only [nf, Nat.reduceAdd]
  refine hops_nil ?_
  try simp only [nf, Nat.reduceAdd]
  refine hc_block ?_
  refine hc_loop (fun nn l H => ∃ (x11 : Value) (x45 : Value) (x46 : Value) (x47 : Value) (x48 : Value) (x49 : Value) (x50 : Value) (x51 : Value) (x52 : Value) (x53 : Value) (x54 : Value) (x55 : Value) (x56 : Value) (x57 : Value) (x58 : Value) (k : Nat), l = [_, _, _, _, _, _, _, _, _, _, _, x11, _, _, _, _, _, _, _, _, _, _, _, _, _, _, _, _, _, _, _, _, _, _, _, _, _, _, _, _, _, _, _, _, .int .i64 (k : Int), x45, x46, x47, x48, x49, x50, x51, x52, x53, x54, x55, x56, x57, x58, _, _] ∧ H = Hb.set fb (row (flat frc (putFls fr lst k)) 129) ∧ k ≤ n ∧ nn = n - k) (n) ⟨_, _, _, _, _, _, _, _, _, _, _, _, _, _, _, 0, rfl, by rw [putFls_zero]; exact (Hp.set_eq _ hbf).symm, by omega, rfl⟩ ?_
  rintro nn l H ⟨x11, x45, x46, x47, x48, x49, x50, x51, x52, x53, x54, x55, x56, x57, x58, k, rfl, rfl, hk, hnn⟩
  skip
  refine sR ?_
  refine hops_cons rfl (hop_bin rfl rfl rfl ?_)
  try simp only [nf, Nat.reduceAdd]
  refine hops_nil ?_
  try simp only [nf, Nat.reduceAdd]
  refine hc_seq ?_
  refine hc_cond rfl (fun hc1 => ?_) (fun hc1 => ?_)
  ·
   try simp at hc1
   refine hc_skip ?_
   try simp only [nf, Nat.reduceAdd]
   refine hc_seq ?_
   refine hc_block ?_
   refine sR ?_
   refine oM ?_
   try simp only [nf, Nat.reduceAdd]
   refine oA ?_
   try simp only [nf, Nat.reduceAdd]
   refine hops_nil ?_
   try simp only [nf, Nat.reduceAdd]
   refine hc_draw (Hb.del fb) follows (by intros; simp [hng, hthen, hblock, hend]) ?_
   refine dT 0 rfl (by decide +kernel) rfl (Sub.del_set _ _ _) (hop_move ?_)
   try simp only [nf, Nat.reduceAdd]
   refine dT 1 rfl (by decide +kernel) rfl (Sub.del_set _ _ _) (hop_nilCheck rfl ?_)
   try simp only [nf, Nat.reduceAdd]
   refine dT 2 rfl (by decide +kernel) rfl (Sub.del_set _ _ _) (hop_fieldAddr rfl ?_)
   try simp only [nf, Nat.reduceAdd]
   refine dT 3 rfl (by decide +kernel) rfl (Sub.del_set _ _ _) (hop_load rfl (Hp.get_del hpf hbp) rfl ?_)
   try simp only [nf, Nat.reduceAdd]
   refine dT 4 rfl (by decide +kernel) rfl (Sub.del_set _ _ _) (hop_move ?_)
   try simp only [nf, Nat.reduceAdd]
   refine dT 5 rfl (by decide +kernel) rfl (Sub.del_set _ _ _) (hop_move ?_)
   try simp only [nf, Nat.reduceAdd]
   refine dT 6 rfl (by decide +kernel) rfl (Sub.del_set _ _ _) (hop_move ?_)
   try simp only [nf, Nat.reduceAdd]
   obtain ⟨f, hi⟩ : ∃ f, fr[k]? = some f := ⟨_, List.getElem?_eq_getElem (by omega)⟩
   obtain ⟨g, hg⟩ : ∃ g, lst[k]? = some g := ⟨_, List.getElem?_eq_getElem (by omega)⟩
   have hpi : (putFls fr lst k)[k]? = some f := by rw [putFls_get hll (by omega)]; exact hi
   have hpl : (putFls fr lst k).length = fr.length := putFls_length hll (by omega)
   have hA := frA (putFls_b (l := lst) (k := k) hb) (i := k) (by omega)
   have hf32 := hb f (List.mem_of_getElem? hi)
   have hsp := flat_split (c := frc) hpi
   have hgA := flat_take_length (c := flc) (n := 4) (l := lst) (fun _ => rfl) (i := k) (by omega)
   have hgs := flat_split (c := flc) hg
   refine dT 7 rfl (by decide +kernel) rfl (Sub.del_set _ _ _) (hop_indexAddr (i := (k : Int)) (b := ob) (o := 0) (n := 4) (len := n) (cap := cap) rfl rfl (by omega) (by omega) ?_)
   simp only [Int.toNat_natCast, Nat.zero_add, ← hgA]
   try simp only [pt, ev, List.getD_cons_zero, List.getD_cons_succ, List.set_cons_zero, List.set_cons_succ]
   refine dT 8 rfl (by decide +kernel) rfl (Sub.del_set _ _ _) (hop_loadA rfl (Hp.get_del hof hbo) (by rw [hgs]; simp [flc] <;> omega) ?_)
   try simp only [nf, Nat.reduceAdd]
   refine dT 9 rfl (by decide +kernel) rfl (Sub.del_set _ _ _) (hop_indexAddr (i := (k : Int)) (b := fb) (o := 0) (n := 37) (len := n) (cap := n) rfl rfl (by omega) (by omega) ?_)
   simp only [Int.toNat_natCast, Nat.zero_add, ← hA]
   try simp only [pt, ev, List.getD_cons_zero, List.getD_cons_succ, List.set_cons_zero, List.set_cons_succ]
   refine dT 10 rfl (by decide +kernel) rfl (Sub.del_set _ _ _) (hop_fieldAddr rfl ?_)
   try simp only [nf, Nat.reduceAdd]
   refine hD_do 11 rfl (by decide +kernel) rfl (hop_storeA (n := 4) (vs := flc g) rfl (by simp only [ev, List.getD_cons_zero, List.getD_cons_succ]; rw [hgs, List.append_assoc]; simp [flc]) rfl (one_flc _) (by rw [hsp]; exact Hp.set_same _ _ _) (by simp [frc] <;> omega) (by decide) ?_)
   try simp only [nf, Nat.reduceAdd]
   refine ⟨.inl (by decide +kernel), ?_⟩
   try simp only [nf, Nat.reduceAdd]
   refine hD_done (by decide +kernel) ?_
   try simp only [nf, Nat.reduceAdd]
   refine hc_region ?_
   refine hops_cons rfl (hop_add rfl rfl (by omega) ?_)
   try simp only [nf, Nat.reduceAdd]
   refine oM ?_
   try simp only [nf, Nat.reduceAdd]
   refine hops_nil ?_
   try simp only [nf, Nat.reduceAdd]
   refine ⟨n - (k + 1), _, by omega, Sub.refl _, _, _, _, _, _, _, _, _, _, _, _, _, _, _, _, k + 1, rfl, ?_⟩
   exact ⟨by rw [← putFls_step hll hi hg, flat_set hpi, wr_flc], by omega, rfl⟩
  ·
   try simp at hc1
   refine hc_exit ?_
   simp only [hng, hthen, hblock, if_true]
   try simp only [nf, Nat.reduceAdd]
   refine sR ?_
   refine oM ?_
   try simp only [nf, Nat.reduceAdd]
   refine oM ?_
   try simp only [nf, Nat.reduceAdd]
   refine oA ?_
   try simp only [nf, Nat.reduceAdd]
   refine oA ?_
   try simp only [nf, Nat.reduceAdd]
   refine hops_nil ?_
   try simp only [nf, Nat.reduceAdd]
   refine hc_ret ?_
   try simp only [hng, hthen, hblock]
   obtain rfl : n = k := by omega
   have e := putFls_all hll
   rw [hn] at e
   rw [e]
   exact hend_tmp2_sub rfl (hsb.set _ _) ⟨rfl, rfl⟩
theorem part_Victim_no {H0 : Hp} {p fb tb n : Nat} {fr : List Fr} {hand : Nat} {ot : Obj} (hp : H0 p = some (row (partRow fb n tb hand) 72)) (hf : H0 fb = some (row (flat frc fr) 129)) (ho : H0 tb = some ot) (hm : MapI ot (tabF fr)) (hn : fr.length = n) (hb : ∀ f ∈ fr, f.b.length = 32) (hn0 : 0 < n) (hn2 : n ≤ 65536) (hh : hand ≤ 65536) (hq : (turnFrom n hand (2 * n) 0 (fr.map flOf)).1 = none) :
    HT prog 80 #[.pointer (some ⟨p, 0, none⟩)] H0 (fun v H' => v = .tuple #[.int .i64 0, .bool false] ∧ H' = (H0.set p (row (partRow fb n tb hand) 72)).set fb (row (flat frc (List.zipWith putFl fr (turnFrom n hand (2 * n) 0 (fr.map flOf)).2)) 129)) := by
 have hpf := ne_row hp hf (by decide)
 have hfp := Ne.symm hpf
 refine ht_of_body (args := [.pointer (some ⟨p, 0, none⟩)]) func80 rfl ?_
 simp only [ntmps80, List.length_cons, List.length_nil, Nat.reduceAdd, Nat.reduceSub, List.replicate_succ, List.replicate_zero, List.cons_append, List.nil_append]
 refine sR ?_
 refine oA ?_
 try simp only [nf, Nat.reduceAdd]
 refine oA ?_
 try simp only [nf, Nat.reduceAdd]
 refine hops_nil ?_
 try simp only [nf, Nat.reduceAdd]
 refine sR ?_
 refine oA ?_
 try simp only [nf, Nat.reduceAdd]
 refine hops_nil ?_
 try simp only [nf, Nat.reduceAdd]
 refine hc_seq ?_
 refine sR ?_
 refine oM ?_
 try simp only [nf, Nat.reduceAdd]
 refine oN rfl ?_
 try simp only [nf, Nat.reduceAdd]
 refine oF rfl ?_
 try simp only [nf, Nat.reduceAdd]
 refine hops_cons rfl (hop_load rfl (by solve_by_elim [hS, hN, hT, hT']) (by first | rfl | assumption | exact mid_get0 rfl | exact mid_get rfl | (simp; done)) ?_)
 try simp only [nf, Nat.reduceAdd]
 refine hops_cons rfl (hop_lenS rfl ?_)
 try simp only [nf, Nat.reduceAdd]
 refine oM ?_
 try simp only [nf, Nat.reduceAdd]
 refine hops_nil ?_
 try simp only [nf, Nat.reduceAdd]
 refine hc_block ?_
 refine hc_loop (fun nn l H => ∃ (x6 : Value) (x18 : Value) (x19 : Value) (x20 : Value) (x21 : Value) (x22 : Value) (x23 : Value) (x24 : Value) (x25 : Value) (x26 : Value) (k : Nat) (sv : Value), l = [_, _, _, _, sv, _, x6, _, _, _, _, _, _, _, _, _, _, .int .i64 (k : Int), x18, x19, x20, x21, x22, x23, x24, x25, x26, _, _, _, _, _, _, _, _, _, _, _, _, _, _, _, _, _, _, _, _, _, _, _, _, _, _, _, _, _, _, _, _, _, _] ∧ OwnS H sv k (flat flc ((fr.take k).map flOf)) 126 4 ∧ H.drop sv = H0 ∧ k ≤ n ∧ nn = n - k) (n) ⟨_, _, _, _, _, _, _, _, _, _, 0, _, rfl, OwnS.nil _ _ _, rfl, by omega, rfl⟩ ?_
 rintro nn l H ⟨x6, x18, x19, x20, x21, x22, x23, x24, x25, x26, k, sv, rfl, hown, hdr, hk, hnn⟩
 have s0 : Sub H0 H := hdr ▸ Sub.drop H sv
 have hp' := s0 _ _ hp
 have hf' := s0 _ _ hf
 refine sR ?_
 refine hops_cons rfl (hop_bin rfl rfl rfl ?_)
 try simp only [nf, Nat.reduceAdd]
 refine hops_nil ?_
 try simp only [nf, Nat.reduceAdd]
 refine hc_seq ?_
 refine hc_cond rfl (fun hc0 => ?_) (fun hc0 => ?_)
 ·
  try simp at hc0
  refine hc_skip ?_
  try simp only [nf, Nat.reduceAdd]
  refine hc_seq ?_
  refine hc_block ?_
  refine sR ?_
  obtain ⟨f, hi⟩ : ∃ f, fr[k]? = some f := ⟨_, List.getElem?_eq_getElem (by omega)⟩
  have hil : k < fr.length := by omega
  have hA := frA hb (Nat.le_of_lt hil)
  have hf32 := hb f (List.mem_of_getElem? hi)
  have hsp := flat_split (c := frc) hi
  have hlen : k * 37 + 37 ≤ (flat frc fr).length := by
    rw [flat_length (n := 37) _ (frc37 hb)]
    have := Nat.mul_le_mul_right 37 hil
    omega
  have e37 : ((flat frc fr).drop (flat frc (fr.take k)).length).take 37 = frc f := by rw [hsp]; exact mid_take (frc_length hf32)
  refine hops_cons rfl (hop_indexAddr (i := (k : Int)) (b := fb) (o := 0) (n := 37) (len := n) (cap := n) rfl rfl (by omega) (by omega) ?_)
  simp only [Int.toNat_natCast, Nat.zero_add, ← hA]
  try simp only [pt, ev, List.getD_cons_zero, List.getD_cons_succ, List.set_cons_zero, List.set_cons_succ]
  refine hops_cons rfl (hop_loadA rfl hf' (by rw [hA]; exact hlen) ?_)
  try simp only [nf, Nat.reduceAdd]
  refine hops_cons rfl (hop_allocFr ?_)
  intro tb6 htb6
  try simp only [pt, ev, List.getD_cons_zero, List.getD_cons_succ, List.set_cons_zero, List.set_cons_succ]
  refine hops_cons rfl (hop_storeA (n := 37) (vs := ((flat frc fr).drop (flat frc (fr.take k)).length).take 37) rfl rfl (by rw [hA]; simp; omega) (fun v h => one_fr _ v (List.mem_of_mem_drop (List.mem_of_mem_take h))) (Hp.set_same _ _ _) (by rw [frz_len]; omega) (by decide) ?_)
  rw [e37, wr_all (by rw [frc_length hf32, frz_len]), Hp.set_set]
  try simp only [pt, ev, List.getD_cons_zero, List.getD_cons_succ, List.set_cons_zero, List.set_cons_succ]
  refine hops_nil ?_
  try simp only [nf, Nat.reduceAdd]
  refine hc_region ?_
  refine oM ?_
  try simp only [nf, Nat.reduceAdd]
  refine oF rfl ?_
  try simp only [nf, Nat.reduceAdd]
  refine hops_cons rfl (hop_loadA rfl (Hp.set_same _ _ _) (by rw [frc_length hf32]; omega) ?_)
  try simp only [nf, Nat.reduceAdd]
  refine hops_cons rfl (hop_buildSlice (L := flc (flOf f)) rfl (by decide) (by decide) rfl ?_)
  intro bs hbs
  try simp only [pt, ev, List.getD_cons_zero, List.getD_cons_succ, List.set_cons_zero, List.set_cons_succ]
  have hsb : srcOk ((H.set tb6 (row (frc f) 129)).set bs (row (flc (flOf f)) 126)) 4 1 (.slice (some ⟨bs, 0, none⟩) 1 1) (flc (flOf f)) := srcOk_own' (Hp.set_same _ _ _) rfl
  have s1 : Sub H ((H.set tb6 (row (frc f) 129)).set bs (row (flc (flOf f)) 126)) := (Sub.set_new htb6).trans (Sub.set_new hbs)
  refine hops_cons rfl (hop_appendO (m := 1) (ys := flc (flOf f)) rfl (hown.sub s1) hsb (one_flc _) rfl (by decide) (by decide) (by omega) (by decide) ?_)
  intro b' cap' J' hb' hcap' hJ'
  have s2 : Sub H0 ((((H.set tb6 (row (frc f) 129)).set bs (row (flc (flOf f)) 126))).drop sv) := hdr ▸ Sub.drop_mono s1 sv
  have hb0 := s2.unk hb'
  have sub2 := s2.set b' (row (flat flc ((fr.take k).map flOf) ++ flc (flOf f) ++ J') 126)
  have htk : (fr.take (k + 1)).map flOf = (fr.take k).map flOf ++ [flOf f] := by rw [List.take_add_one, hi]; simp
  have hown2 : OwnS (H0.set b' (row (flat flc ((fr.take k).map flOf) ++ flc (flOf f) ++ J') 126)) (.slice (some ⟨b', 0, none⟩) (k + 1) cap') (k + 1) (flat flc ((fr.take (k + 1)).map flOf)) 126 4 := by
    rw [htk, flat_append]
    exact OwnS.mk (B := J') (by rw [Hp.set_same]; simp [flat]) (by rw [List.length_append, flat_length (n := 4) _ (fun _ _ => rfl)]; simp [flat, flc]; omega) hJ' hcap'
  have hdr2 : (H0.set b' (row (flat flc ((fr.take k).map flOf) ++ flc (flOf f) ++ J') 126)).drop (.slice (some ⟨b', 0, none⟩) (k + 1) cap') = H0 := by simp only [Hp.drop]; rw [Hp.set_del, Hp.del_of hb0]
  try simp only [pt, ev, List.getD_cons_zero, List.getD_cons_succ, List.set_cons_zero, List.set_cons_succ]
  refine oA ?_
  try simp only [nf, Nat.reduceAdd]
  refine hops_nil ?_
  try simp only [nf, Nat.reduceAdd]
  refine hc_region ?_
  refine hops_cons rfl (hop_add rfl rfl (by omega) ?_)
  try simp only [nf, Nat.reduceAdd]
  refine oM ?_
  try simp only [nf, Nat.reduceAdd]
  refine hops_nil ?_
  try simp only [nf, Nat.reduceAdd]
  refine ⟨n - (k + 1), _, by omega, sub2, _, _, _, _, _, _, _, _, _, _, k + 1, _, rfl, ?_⟩
  exact ⟨hown2, hdr2, by omega, rfl⟩
 ·
  try simp at hc0
  refine hc_exit ?_
  simp only [hng, hthen, hblock, if_true]
  try simp only [nf, Nat.reduceAdd]
  refine sR ?_
  obtain rfl : n = k := by omega
  rw [show fr.take n = fr from List.take_of_length_le (by omega)] at hown
  rcases hown with ⟨rfl, hk0, _⟩ | ⟨lb, cp, JB, rfl, hlb, hlA, hlB, hcp⟩
  · omega
  simp only [Hp.drop] at hdr
  refine hops_cons rfl (hop_move ?_)
  try simp only [pt, ev, List.getD_cons_zero, List.getD_cons_succ, List.set_cons_zero, List.set_cons_succ]
  refine oM ?_
  try simp only [nf, Nat.reduceAdd]
  refine oN rfl ?_
  try simp only [nf, Nat.reduceAdd]
  refine oF rfl ?_
  try simp only [nf, Nat.reduceAdd]
  refine hops_cons rfl (hop_load rfl (by solve_by_elim [hS, hN, hT, hT']) (by first | rfl | assumption | exact mid_get0 rfl | exact mid_get rfl | (simp; done)) ?_)
  try simp only [nf, Nat.reduceAdd]
  refine hops_cons rfl (hop_call ?_)
  simp only [nf, Nat.reduceAdd]
  have hmm : (fr.map flOf).length = n := by simp [hn]
  refine HT.mono (clock_Turn_all hlb hmm hn0 hn2 hh) ?_
  rintro _ _ ⟨ob, cap, J, hob, hcap, rfl, rfl⟩
  simp only [turnVal, hq]
  have hll : (turnFrom n hand (2 * n) 0 (fr.map flOf)).2.length = fr.length := by rw [turnFrom_length]; simp
  generalize (turnFrom n hand (2 * n) 0 (fr.map flOf)).2 = lst at *
  have hpo := Hp.ne_of hp' hob
  have hfo := Hp.ne_of hf' hob
  try simp only [pt, ev, List.getD_cons_zero, List.getD_cons_succ, List.set_cons_zero, List.set_cons_succ]
  refine oM ?_
  try simp only [nf, Nat.reduceAdd]
  refine hops_cons rfl (hop_extract rfl rfl ?_)
  try simp only [nf, Nat.reduceAdd]
  refine hops_cons rfl (hop_extract rfl rfl ?_)
  try simp only [nf, Nat.reduceAdd]
  refine hops_cons rfl (hop_extract rfl rfl ?_)
  try simp only [nf, Nat.reduceAdd]
  refine hops_cons rfl (hop_extract rfl rfl ?_)
  try simp only [nf, Nat.reduceAdd]
  refine oA ?_
  try simp only [nf, Nat.reduceAdd]
  refine oA ?_
  try simp only [nf, Nat.reduceAdd]
  refine oA ?_
  try simp only [nf, Nat.reduceAdd]
  refine oA ?_
  try simp only [nf, Nat.reduceAdd]
  refine hops_nil ?_
  try simp only [nf, Nat.reduceAdd]
  refine sR ?_
  refine oM ?_
  try simp only [nf, Nat.reduceAdd]
  refine oM ?_
  try simp only [nf, Nat.reduceAdd]
  refine oN rfl ?_
  try simp only [nf, Nat.reduceAdd]
  refine oF rfl ?_
  try simp only [nf, Nat.reduceAdd]
  refine hops_cons rfl (hop_store rfl rfl rfl (Hp.get_there hpo hp') (by simp [partRow]) ?_)
  have hop2 := Ne.symm hpo
  have hof := Ne.symm hfo
  have hsb : Sub (H0.set p (row (partRow fb n tb hand) 72)) ((H.set ob (row (flat flc lst ++ J) 126)).set p (row ((partRow fb n tb hand).set 2 (.int .i64 (hand : Nat))) 72)) := by
    exact ((s0.trans (Sub.set_new hob)).set _ _)
  have hbf := Hp.get_there (o := row ((partRow fb n tb hand).set 2 (.int .i64 (hand : Nat))) 72) hfp (Hp.get_there (o := row (flat flc lst ++ J) 126) hfo hf')
  have hbp : ((H.set ob (row (flat flc lst ++ J) 126)).set p (row ((partRow fb n tb hand).set 2 (.int .i64 (hand : Nat))) 72)) p = some _ := Hp.set_same _ _ _
  have hbo : ((H.set ob (row (flat flc lst ++ J) 126)).set p (row ((partRow fb n tb hand).set 2 (.int .i64 (hand : Nat))) 72)) ob = some _ := Hp.get_there hop2 (Hp.set_same _ _ _)
  try simp only [pt, ev, List.getD_cons_zero, List.getD_cons_succ, List.set_cons_zero, List.set_cons_succ]
  generalize (H.set ob (row (flat flc lst ++ J) 126)).set p (row ((partRow fb n tb hand).set 2 (.int .i64 (hand : Nat))) 72) = Hb at *
  refine hops_nil ?_
  try simp only [nf, Nat.reduceAdd]
  refine hc_seq ?_
  refine sR ?_
  refine oM ?_
  try simp only [nf, Nat.reduceAdd]
  refine hops_cons rfl (hop_lenS rfl ?_)
  try simp only [nf, Nat.reduceAdd]
  refine oM ?_
  try simp only [nf, Nat.reduceAdd]
  refine hops_nil ?_
  try simp only [nf, Nat.reduceAdd]
  refine hc_block ?_
  refine hc_loop (fun nn l H => ∃ (x11 : Value) (x45 : Value) (x46 : Value) (x47 : Value) (x48 : Value) (x49 : Value) (x50 : Value) (x51 : Value) (x52 : Value) (x53 : Value) (x54 : Value) (x55 : Value) (x56 : Value) (x57 : Value) (x58 : Value) (k : Nat), l = [_, _, _, _, _, _, _, _, _, _, _, x11, _, _, _, _, _, _, _, _, _, _, _, _, _, _, _, _, _, _, _, _, _, _, _, _, _, _, _, _, _, _, _, _, .int .i64 (k : Int), x45, x46, x47, x48, x49, x50, x51, x52, x53, x54, x55, x56, x57, x58, _, _] ∧ H = Hb.set fb (row (flat frc (putFls fr lst k)) 129) ∧ k ≤ n ∧ nn = n - k) (n) ⟨_, _, _, _, _, _, _, _, _, _, _, _, _, _, _, 0, rfl, by rw [putFls_zero]; exact (Hp.set_eq _ hbf).symm, by omega, rfl⟩ ?_
  rintro nn l H ⟨x11, x45, x46, x47, x48, x49, x50, x51, x52, x53, x54, x55, x56, x57, x58, k, rfl, rfl, hk, hnn⟩
  skip
  refine sR ?_
  refine hops_cons rfl (hop_bin rfl rfl rfl ?_)
  try simp only [nf, Nat.reduceAdd]
  refine hops_nil ?_
  try simp only [nf, Nat.reduceAdd]
  refine hc_seq ?_
  refine hc_cond rfl (fun hc1 => ?_) (fun hc1 => ?_)
  ·
   try simp at hc1
   refine hc_skip ?_
   try simp only [nf, Nat.reduceAdd]
   refine hc_seq ?_
   refine hc_block ?_
   refine sR ?_
   refine oM ?_
   try simp only [nf, Nat.reduceAdd]
   refine oA ?_
   try simp only [nf, Nat.reduceAdd]
   refine hops_nil ?_
   try simp only [nf, Nat.reduceAdd]
   refine hc_draw (Hb.del fb) follows (by intros; simp [hng, hthen, hblock, hend]) ?_
   refine dT 0 rfl (by decide +kernel) rfl (Sub.del_set _ _ _) (hop_move ?_)
   try simp only [nf, Nat.reduceAdd]
   refine dT 1 rfl (by decide +kernel) rfl (Sub.del_set _ _ _) (hop_nilCheck rfl ?_)
   try simp only [nf, Nat.reduceAdd]
   refine dT 2 rfl (by decide +kernel) rfl (Sub.del_set _ _ _) (hop_fieldAddr rfl ?_)
   try simp only [nf, Nat.reduceAdd]
   refine dT 3 rfl (by decide +kernel) rfl (Sub.del_set _ _ _) (hop_load rfl (Hp.get_del hpf hbp) rfl ?_)
   try simp only [nf, Nat.reduceAdd]
   refine dT 4 rfl (by decide +kernel) rfl (Sub.del_set _ _ _) (hop_move ?_)
   try simp only [nf, Nat.reduceAdd]
   refine dT 5 rfl (by decide +kernel) rfl (Sub.del_set _ _ _) (hop_move ?_)
   try simp only [nf, Nat.reduceAdd]
   refine dT 6 rfl (by decide +kernel) rfl (Sub.del_set _ _ _) (hop_move ?_)
   try simp only [nf, Nat.reduceAdd]
   obtain ⟨f, hi⟩ : ∃ f, fr[k]? = some f := ⟨_, List.getElem?_eq_getElem (by omega)⟩
   obtain ⟨g, hg⟩ : ∃ g, lst[k]? = some g := ⟨_, List.getElem?_eq_getElem (by omega)⟩
   have hpi : (putFls fr lst k)[k]? = some f := by rw [putFls_get hll (by omega)]; exact hi
   have hpl : (putFls fr lst k).length = fr.length := putFls_length hll (by omega)
   have hA := frA (putFls_b (l := lst) (k := k) hb) (i := k) (by omega)
   have hf32 := hb f (List.mem_of_getElem? hi)
   have hsp := flat_split (c := frc) hpi
   have hgA := flat_take_length (c := flc) (n := 4) (l := lst) (fun _ => rfl) (i := k) (by omega)
   have hgs := flat_split (c := flc) hg
   refine dT 7 rfl (by decide +kernel) rfl (Sub.del_set _ _ _) (hop_indexAddr (i := (k : Int)) (b := ob) (o := 0) (n := 4) (len := n) (cap := cap) rfl rfl (by omega) (by omega) ?_)
   simp only [Int.toNat_natCast, Nat.zero_add, ← hgA]
   try simp only [pt, ev, List.getD_cons_zero, List.getD_cons_succ, List.set_cons_zero, List.set_cons_succ]
   refine dT 8 rfl (by decide +kernel) rfl (Sub.del_set _ _ _) (hop_loadA rfl (Hp.get_del hof hbo) (by rw [hgs]; simp [flc] <;> omega) ?_)
   try simp only [nf, Nat.reduceAdd]
   refine dT 9 rfl (by decide +kernel) rfl (Sub.del_set _ _ _) (hop_indexAddr (i := (k : Int)) (b := fb) (o := 0) (n := 37) (len := n) (cap := n) rfl rfl (by omega) (by omega) ?_)
   simp only [Int.toNat_natCast, Nat.zero_add, ← hA]
   try simp only [pt, ev, List.getD_cons_zero, List.getD_cons_succ, List.set_cons_zero, List.set_cons_succ]
   refine dT 10 rfl (by decide +kernel) rfl (Sub.del_set _ _ _) (hop_fieldAddr rfl ?_)
   try simp only [nf, Nat.reduceAdd]
   refine hD_do 11 rfl (by decide +kernel) rfl (hop_storeA (n := 4) (vs := flc g) rfl (by simp only [ev, List.getD_cons_zero, List.getD_cons_succ]; rw [hgs, List.append_assoc]; simp [flc]) rfl (one_flc _) (by rw [hsp]; exact Hp.set_same _ _ _) (by simp [frc] <;> omega) (by decide) ?_)
   try simp only [nf, Nat.reduceAdd]
   refine ⟨.inl (by decide +kernel), ?_⟩
   try simp only [nf, Nat.reduceAdd]
   refine hD_done (by decide +kernel) ?_
   try simp only [nf, Nat.reduceAdd]
   refine hc_region ?_
   refine hops_cons rfl (hop_add rfl rfl (by omega) ?_)
   try simp only [nf, Nat.reduceAdd]
   refine oM ?_
   try simp only [nf, Nat.reduceAdd]
   refine hops_nil ?_
   try simp only [nf, Nat.reduceAdd]
   refine ⟨n - (k + 1), _, by omega, Sub.refl _, _, _, _, _, _, _, _, _, _, _, _, _, _, _, _, k + 1, rfl, ?_⟩
   exact ⟨by rw [← putFls_step hll hi hg, flat_set hpi, wr_flc], by omega, rfl⟩
  ·
   try simp at hc1
   refine hc_exit ?_
   simp only [hng, hthen, hblock, if_true]
   try simp only [nf, Nat.reduceAdd]
   refine sR ?_
   refine oM ?_
   try simp only [nf, Nat.reduceAdd]
   refine oM ?_
   try simp only [nf, Nat.reduceAdd]
   refine oA ?_
   try simp only [nf, Nat.reduceAdd]
   refine oA ?_
   try simp only [nf, Nat.reduceAdd]
   refine hops_nil ?_
   try simp only [nf, Nat.reduceAdd]
   refine hc_ret ?_
   try simp only [hng, hthen, hblock]
   obtain rfl : n = k := by omega
   have e := putFls_all hll
   rw [hn] at e
   rw [e]
   exact hend_tmp2_sub rfl (hsb.set _ _) ⟨rfl, rfl⟩
theorem part_Dirty {H0 : Hp} {p fb tb n : Nat} {fr : List Fr} {hand : Nat} {ot : Obj} (hp : H0 p = some (row (partRow fb n tb hand) 72)) (hf : H0 fb = some (row (flat frc fr) 129)) (ho : H0 tb = some ot) (hm : MapI ot (tabF fr)) (hn : fr.length = n) (hb : ∀ f ∈ fr, f.b.length = 32) (hn2 : n ≤ 65536) :
    HT prog 96 #[.pointer (some ⟨p, 0, none⟩)] H0 (RetS H0 (ints (dirtyTo fr n)) (dirtyTo fr n).length 3 1) := by
 refine ht_of_body (args := [.pointer (some ⟨p, 0, none⟩)]) func96 rfl ?_
 simp only [ntmps96, List.length_cons, List.length_nil, Nat.reduceAdd, Nat.reduceSub, List.replicate_succ, List.replicate_zero, List.cons_append, List.nil_append]
 refine sR ?_
 refine oA ?_
 try simp only [nf, Nat.reduceAdd]
 refine hops_nil ?_
 try simp only [nf, Nat.reduceAdd]
 refine sR ?_
 refine oA ?_
 try simp only [nf, Nat.reduceAdd]
 refine hops_nil ?_
 try simp only [nf, Nat.reduceAdd]
 refine hc_seq ?_
 refine sR ?_
 refine oM ?_
 try simp only [nf, Nat.reduceAdd]
 refine oN rfl ?_
 try simp only [nf, Nat.reduceAdd]
 refine oF rfl ?_
 try simp only [nf, Nat.reduceAdd]
 refine hops_cons rfl (hop_load rfl (by solve_by_elim [hS, hN, hT, hT']) (by first | rfl | assumption | exact mid_get0 rfl | exact mid_get rfl | (simp; done)) ?_)
 try simp only [nf, Nat.reduceAdd]
 refine hops_cons rfl (hop_lenS rfl ?_)
 try simp only [nf, Nat.reduceAdd]
 refine oM ?_
 try simp only [nf, Nat.reduceAdd]
 refine hops_nil ?_
 try simp only [nf, Nat.reduceAdd]
 refine hc_block ?_
 refine hc_loop (fun nn l H => ∃ (x4 : Value) (x5 : Value) (x12 : Value) (x13 : Value) (x14 : Value) (x15 : Value) (x16 : Value) (x17 : Value) (x18 : Value) (x19 : Value) (x20 : Value) (x21 : Value) (x22 : Value) (x23 : Value) (k : Nat) (sv : Value), l = [_, _, _, sv, x4, x5, _, _, _, _, _, .int .i64 (k : Int), x12, x13, x14, x15, x16, x17, x18, x19, x20, x21, x22, x23, _] ∧ RetS H0 (ints (dirtyTo fr k)) (dirtyTo fr k).length 3 1 sv H ∧ k ≤ n ∧ nn = n - k ∧ (dirtyTo fr k).length ≤ k) (n) ⟨_, _, _, _, _, _, _, _, _, _, _, _, _, _, 0, _, rfl, RetS.nil _ _ _, by omega, rfl, by simp [dirtyTo]⟩ ?_
 rintro nn l H ⟨x4, x5, x12, x13, x14, x15, x16, x17, x18, x19, x20, x21, x22, x23, k, sv, rfl, hret, hk, hnn, hdl⟩
 have s0 := hret.le
 have hp' := s0 _ _ hp
 have hf' := s0 _ _ hf
 refine sR ?_
 refine hops_cons rfl (hop_bin rfl rfl rfl ?_)
 try simp only [nf, Nat.reduceAdd]
 refine hops_nil ?_
 try simp only [nf, Nat.reduceAdd]
 refine hc_seq ?_
 refine hc_cond rfl (fun hc0 => ?_) (fun hc0 => ?_)
 ·
  try simp at hc0
  refine hc_skip ?_
  try simp only [nf, Nat.reduceAdd]
  refine hc_seq ?_
  refine hc_block ?_
  refine sR ?_
  refine oM ?_
  try simp only [nf, Nat.reduceAdd]
  obtain ⟨f, hi⟩ : ∃ f, fr[k]? = some f := ⟨_, List.getElem?_eq_getElem (by omega)⟩
  have hil : k < fr.length := by omega
  have hA := frA hb (Nat.le_of_lt hil)
  have hf32 := hb f (List.mem_of_getElem? hi)
  have hsp := flat_split (c := frc) hi
  have hlen : k * 37 + 37 ≤ (flat frc fr).length := by
    rw [flat_length (n := 37) _ (frc37 hb)]
    have := Nat.mul_le_mul_right 37 hil
    omega
  have e37 : ((flat frc fr).drop (flat frc (fr.take k)).length).take 37 = frc f := by rw [hsp]; exact mid_take (frc_length hf32)
  refine hops_cons rfl (hop_indexAddr (i := (k : Int)) (b := fb) (o := 0) (n := 37) (len := n) (cap := n) rfl rfl (by omega) (by omega) ?_)
  simp only [Int.toNat_natCast, Nat.zero_add, ← hA]
  try simp only [pt, ev, List.getD_cons_zero, List.getD_cons_succ, List.set_cons_zero, List.set_cons_succ]
  refine hops_cons rfl (hop_loadA rfl hf' (by rw [hA]; exact hlen) ?_)
  try simp only [nf, Nat.reduceAdd]
  refine hops_cons rfl (hop_allocFr ?_)
  intro tb6 htb6
  try simp only [pt, ev, List.getD_cons_zero, List.getD_cons_succ, List.set_cons_zero, List.set_cons_succ]
  refine oA ?_
  try simp only [nf, Nat.reduceAdd]
  refine hops_cons rfl (hop_storeA (n := 37) (vs := ((flat frc fr).drop (flat frc (fr.take k)).length).take 37) rfl rfl (by rw [hA]; simp; omega) (fun v h => one_fr _ v (List.mem_of_mem_drop (List.mem_of_mem_take h))) (Hp.set_same _ _ _) (by rw [frz_len]; omega) (by decide) ?_)
  rw [e37, wr_all (by rw [frc_length hf32, frz_len]), Hp.set_set]
  try simp only [pt, ev, List.getD_cons_zero, List.getD_cons_succ, List.set_cons_zero, List.set_cons_succ]
  refine hops_nil ?_
  try simp only [nf, Nat.reduceAdd]
  refine sR ?_
  refine oF rfl ?_
  try simp only [nf, Nat.reduceAdd]
  refine oF rfl ?_
  try simp only [nf, Nat.reduceAdd]
  refine hops_cons rfl (hop_load rfl (Hp.set_same _ _ _) rfl ?_)
  try simp only [nf, Nat.reduceAdd]
  refine hops_nil ?_
  try simp only [nf, Nat.reduceAdd]
  refine hc_cond rfl (fun hc1 => ?_) (fun hc1 => ?_)
  ·
   try simp at hc1
   refine hc_region ?_
   refine oM ?_
   try simp only [nf, Nat.reduceAdd]
   refine oM ?_
   try simp only [nf, Nat.reduceAdd]
   refine hops_cons rfl (hop_buildSlice (L := [.int .i64 (k : Int)]) rfl (by decide) (by decide) rfl ?_)
   intro bs hbs
   try simp only [pt, ev, List.getD_cons_zero, List.getD_cons_succ, List.set_cons_zero, List.set_cons_succ]
   have hdt : dirtyTo fr (k + 1) = dirtyTo fr k ++ [(k : Int)] := by rw [dirtyTo_succ hi, if_pos hc1]
   have hsb : srcOk ((H.set tb6 (row (frc f) 129)).set bs (row [.int .i64 (k : Int)] 3)) 1 1 (.slice (some ⟨bs, 0, none⟩) 1 1) (ints [(k : Int)]) := srcOk_own' (Hp.set_same _ _ _) rfl
   have s1 : Sub H ((H.set tb6 (row (frc f) 129)).set bs (row [.int .i64 (k : Int)] 3)) := (Sub.set_new htb6).trans (Sub.set_new hbs)
   refine hops_cons rfl (hop_appendO (v := sv) (m := 1) (ys := ints [(k : Int)]) rfl (hret.1.sub s1) hsb one_ints rfl (by decide) (by decide) (by omega) (by decide) ?_)
   intro b' cap' J' hb' hcap' hJ'
   obtain ⟨fin1, fin2⟩ := app_fin (t := 3) (H0 := H0) (by rw [hret.2]; exact Sub.refl _) s1 hb' hcap' hJ' hret.1.len (show (ints [(k : Int)]).length = 1 * 1 from rfl)
   have hdl2 : (dirtyTo fr (k + 1)).length = (dirtyTo fr k).length + 1 := by rw [hdt]; simp
   try simp only [pt, ev, List.getD_cons_zero, List.getD_cons_succ, List.set_cons_zero, List.set_cons_succ]
   refine oA ?_
   try simp only [nf, Nat.reduceAdd]
   refine hops_nil ?_
   try simp only [nf, Nat.reduceAdd]
   refine hc_region ?_
   refine hops_cons rfl (hop_add rfl rfl (by omega) ?_)
   try simp only [nf, Nat.reduceAdd]
   refine oM ?_
   try simp only [nf, Nat.reduceAdd]
   refine hops_nil ?_
   try simp only [nf, Nat.reduceAdd]
   refine ⟨n - (k + 1), _, by omega, fin1, _, _, _, _, _, _, _, _, _, _, _, _, _, _, k + 1, _, rfl, ?_⟩
   exact ⟨by rw [hdt, List.length_append]; simpa [ints] using fin2, by omega, rfl, by omega⟩
  ·
   try simp at hc1
   refine hc_skip ?_
   try simp only [nf, Nat.reduceAdd]
   refine hc_region ?_
   refine hops_cons rfl (hop_add rfl rfl (by omega) ?_)
   try simp only [nf, Nat.reduceAdd]
   refine oM ?_
   try simp only [nf, Nat.reduceAdd]
   refine hops_nil ?_
   try simp only [nf, Nat.reduceAdd]
   refine ⟨n - (k + 1), _, by omega, Sub.set_new htb6, _, _, _, _, _, _, _, _, _, _, _, _, _, _, k + 1, _, rfl, ?_⟩
   exact ⟨by rw [dirtyTo_succ hi, hc1]; exact hret, by omega, rfl, by rw [dirtyTo_succ hi, hc1]; simp; omega⟩
 ·
  try simp at hc0
  refine hc_exit ?_
  simp only [hng, hthen, hblock, if_true]
  try simp only [nf, Nat.reduceAdd]
  refine sR ?_
  refine oM ?_
  try simp only [nf, Nat.reduceAdd]
  refine oA ?_
  try simp only [nf, Nat.reduceAdd]
  refine hops_nil ?_
  try simp only [nf, Nat.reduceAdd]
  refine hc_ret ?_
  try simp only [hng, hthen, hblock]
  refine hend_tmp rfl ?_
  obtain rfl : n = k := by omega
  exact hret
theorem part_New_no {H0 : Hp} {n : Int} (h : n < 1 ∨ 64 < n) :
    HT prog 7 #[.int .i64 n] H0 (fun v H' => v = .tuple #[.pointer none, .int .i64 1] ∧ H0 = H') := by
 have hcc : (decide (n < 1) || decide (n > 64)) = true := by simp; omega
 refine ht_of_body (args := [.int .i64 n]) func7 rfl ?_
 simp only [ntmps7, List.length_cons, List.length_nil, Nat.reduceAdd, Nat.reduceSub, List.replicate_succ, List.replicate_zero, List.cons_append, List.nil_append]
 refine sR ?_
 refine oA ?_
 try simp only [nf, Nat.reduceAdd, hcc]
 refine oA ?_
 try simp only [nf, Nat.reduceAdd, hcc]
 refine hops_nil ?_
 try simp only [nf, Nat.reduceAdd, hcc]
 refine hc_seq ?_
 refine sR ?_
 refine oM ?_
 try simp only [nf, Nat.reduceAdd, hcc]
 refine hops_cons rfl (hop_bin rfl rfl rfl ?_)
 try simp only [nf, Nat.reduceAdd, hcc]
 refine oM ?_
 try simp only [nf, Nat.reduceAdd, hcc]
 first
  | refine hops_off' rfl rfl (by rfl) ?_
  | refine hops_un rfl rfl ?_
  | (refine hops_on' rfl rfl (by rfl) (hop_move ?_))
  | (refine hops_gp (v := ?vg1) rfl rfl (fun hgp => ?hv1) ?hh1; case hv1 => ((try simp only [hgp, if_true, ev, List.getD_cons_zero, List.getD_cons_succ]); refine hop_move ?_; rfl))
 try simp only [nf, Nat.reduceAdd, hcc]
 first
  | refine hops_off' rfl rfl (by rfl) ?_
  | refine hops_un rfl rfl ?_
  | (refine hops_on' rfl rfl (by rfl) (hop_bin rfl rfl rfl ?_))
  | (refine hops_gp (v := ?vg2) rfl rfl (fun hgp => ?hv2) ?hh2; case hv2 => ((try simp only [hgp, if_true, ev, List.getD_cons_zero, List.getD_cons_succ]); refine hop_bin rfl rfl rfl ?_; rfl))
 try simp only [nf, Nat.reduceAdd, hcc]
 refine hops_cons rfl (hop_pick rfl ?_)
 try simp only [nf, Nat.reduceAdd, hcc]
 refine hops_nil ?_
 try simp only [nf, Nat.reduceAdd, hcc]
 refine hc_T rfl (by first | rfl | assumption | (simp; done) | (simp; omega) | (simp [*]; done)) ?_
 refine sR ?_
 refine oA ?_
 try simp only [nf, Nat.reduceAdd, hcc]
 refine oA ?_
 try simp only [nf, Nat.reduceAdd, hcc]
 refine hops_nil ?_
 try simp only [nf, Nat.reduceAdd, hcc]
 refine hc_ret ?_
 try simp only [hng, hthen, hblock]
 refine hend_tmp2 rfl ?_
 exact ⟨rfl, rfl⟩
theorem part_New_ok {H0 : Hp} {n : Nat} (h1 : 1 ≤ n) (h2 : n ≤ 64) :
    HT prog 7 #[.int .i64 (n : Int)] H0 (fun v H' => ∃ p fb tb ot, v = .tuple #[.pointer (some ⟨p, 0, none⟩), .int .i64 0] ∧ H' p = some (row (partRow fb n tb 0) 72) ∧ H' fb = some (row (flat frc (List.replicate n Fr.zero)) 129) ∧ H' tb = some ot ∧ MapI ot (fun _ => none) ∧ H0 p = none ∧ H0 fb = none ∧ H0 tb = none ∧ H' = ((H0.set fb (row (flat frc (List.replicate n Fr.zero)) 129)).set tb ot).set p (row (partRow fb n tb 0) 72)) := by
 have hcc : (decide ((n : Int) < 1) || decide ((n : Int) > 64)) = false := by simp; omega
 have hrz : reps n (Value.agg (frc Fr.zero).toArray).cells.toList = flat frc (List.replicate n Fr.zero) := by simp [reps, flat, Value.cells]
 refine ht_of_body (args := [.int .i64 (n : Int)]) func7 rfl ?_
 simp only [ntmps7, List.length_cons, List.length_nil, Nat.reduceAdd, Nat.reduceSub, List.replicate_succ, List.replicate_zero, List.cons_append, List.nil_append]
 refine sR ?_
 refine oA ?_
 try simp only [nf, Nat.reduceAdd, hcc]
 refine oA ?_
 try simp only [nf, Nat.reduceAdd, hcc]
 refine hops_nil ?_
 try simp only [nf, Nat.reduceAdd, hcc]
 refine hc_seq ?_
 refine sR ?_
 refine oM ?_
 try simp only [nf, Nat.reduceAdd, hcc]
 refine hops_cons rfl (hop_bin rfl rfl rfl ?_)
 try simp only [nf, Nat.reduceAdd, hcc]
 refine oM ?_
 try simp only [nf, Nat.reduceAdd, hcc]
 first
  | refine hops_off' rfl rfl (by rfl) ?_
  | refine hops_un rfl rfl ?_
  | (refine hops_on' rfl rfl (by rfl) (hop_move ?_))
  | (refine hops_gp (v := ?vg1) rfl rfl (fun hgp => ?hv1) ?hh1; case hv1 => ((try simp only [hgp, if_true, ev, List.getD_cons_zero, List.getD_cons_succ]); refine hop_move ?_; rfl))
 try simp only [nf, Nat.reduceAdd, hcc]
 first
  | refine hops_off' rfl rfl (by rfl) ?_
  | refine hops_un rfl rfl ?_
  | (refine hops_on' rfl rfl (by rfl) (hop_bin rfl rfl rfl ?_))
  | (refine hops_gp (v := ?vg2) rfl rfl (fun hgp => ?hv2) ?hh2; case hv2 => ((try simp only [hgp, if_true, ev, List.getD_cons_zero, List.getD_cons_succ]); refine hop_bin rfl rfl rfl ?_; rfl))
 try simp only [nf, Nat.reduceAdd, hcc]
 refine hops_cons rfl (hop_pick rfl ?_)
 try simp only [nf, Nat.reduceAdd, hcc]
 refine hops_nil ?_
 try simp only [nf, Nat.reduceAdd, hcc]
 refine hc_F rfl (by first | rfl | assumption | (simp; done) | (simp; omega) | (simp [*]; done)) ?_
 refine hc_skip ?_
 try simp only [nf, Nat.reduceAdd, hcc]
 refine sR ?_
 refine oM ?_
 try simp only [nf, Nat.reduceAdd, hcc]
 refine hops_cons rfl (hop_makeSlice (n := n) rfl rfl rfl (by decide) (by omega) (by decide) ?_)
 intro fb hfb
 try simp only [pt, ev, List.getD_cons_zero, List.getD_cons_succ, List.set_cons_zero, List.set_cons_succ]
 refine hops_cons rfl (hop_makeMap ?_)
 intro tb ot htb hmt
 obtain ⟨htf, htb1⟩ := Hp.set_none.1 htb
 try simp only [pt, ev, List.getD_cons_zero, List.getD_cons_succ, List.set_cons_zero, List.set_cons_succ]
 refine hops_cons rfl (hop_build (L := partRow fb n tb 0) rfl ?_)
 try simp only [nf, Nat.reduceAdd, hcc]
 refine hops_cons rfl (hop_box (zl := partRow fb n tb 0) rfl rfl ?_)
 intro p hp
 obtain ⟨hpt, hp1⟩ := Hp.set_none.1 hp
 obtain ⟨hpf, hp2⟩ := Hp.set_none.1 hp1
 try simp only [pt, ev, List.getD_cons_zero, List.getD_cons_succ, List.set_cons_zero, List.set_cons_succ]
 refine oA ?_
 try simp only [nf, Nat.reduceAdd, hcc]
 refine oA ?_
 try simp only [nf, Nat.reduceAdd, hcc]
 refine hops_nil ?_
 try simp only [nf, Nat.reduceAdd, hcc]
 refine hc_ret ?_
 try simp only [hng, hthen, hblock]
 refine hend_tmp2 rfl ?_
 have hz2 : (Value.agg #[.bool false, .bool false, .bool false, .int .i64 0, .int .i64 0, .int .u8 0, .int .u8 0, .int .u8 0, .int .u8 0, .int .u8 0, .int .u8 0, .int .u8 0, .int .u8 0, .int .u8 0, .int .u8 0, .int .u8 0, .int .u8 0, .int .u8 0, .int .u8 0, .int .u8 0, .int .u8 0, .int .u8 0, .int .u8 0, .int .u8 0, .int .u8 0, .int .u8 0, .int .u8 0, .int .u8 0, .int .u8 0, .int .u8 0, .int .u8 0, .int .u8 0, .int .u8 0, .int .u8 0, .int .u8 0, .int .u8 0, .int .u8 0]).cells.toList = frc Fr.zero := by rw [frc_zero]; rfl
 rw [hz2] at *
 have e3 : reps n (frc Fr.zero) = flat frc (List.replicate n Fr.zero) := by simp [reps, flat]
 rw [e3]
 exact ⟨p, fb, tb, ot, rfl, Hp.set_same _ _ _, Hp.get_there (Ne.symm hpf) (Hp.get_there (Ne.symm htf) (Hp.set_same _ _ _)), Hp.get_there (Ne.symm hpt) (Hp.set_same _ _ _), hmt, hp2, hfb, htb1, rfl⟩
end Go.Proofs.Try
