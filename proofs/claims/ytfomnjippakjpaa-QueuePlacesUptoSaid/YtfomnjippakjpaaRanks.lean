import Derived.Test.YtfomnjippakjpaaPile
import Derived.Test.YtfomnjippakjpaaClone
import Derived.Test.YtfomnjippakjpaaRows
namespace Go.Proofs.Ytfomnjippakjpaa
open Go.S

set_option maxRecDepth 100000 in
theorem ahead45 (H : Heap) (a b : It) : FN Try.prog 45 [.agg a.cells.toArray, .agg b.cells.toArray] H (fun v H' => v = .bool (ahd a b) ∧ Ext H H') := by
  rcases Int.lt_trichotomy b.p a.p with h | h | h
  · refine fn_intro 24 Try.func45 rfl Try.ntmps45 rfl ?_
    refine wc_seq ?_
    refine wc_plain ?_
    refine wf_box rfl rfl rfl rfl (fun b2 H1 e2 z1 hb2 hk1 => ⟨trivial, ?_⟩)
    refine wf_box rfl rfl rfl rfl (fun b3 H2 e3 z2 hb3 hk2 => ⟨trivial, ?_⟩)
    have n3_hb2 := ne_new hb2 e3
    replace hb2 := (hk2 _ (lt_of hb2)).trans hb2
    refine wf_rd _ rfl rfl (RD.assign rfl) rfl ?_
    refine wf_nil ?_
    refine at_thn ?_
    refine wc_seq ?_
    refine wc_plain ?_
    refine wf_rd _ rfl rfl (RD.field rfl Try.underlying69 rfl Try.sizeOf3) rfl ?_
    refine wf_rd _ rfl rfl (RD.load rfl (LD.one Try.isAgg3 hb2 rfl)) rfl ?_
    refine wf_rd _ rfl rfl (RD.field rfl Try.underlying69 rfl Try.sizeOf3) rfl ?_
    refine wf_rd _ rfl rfl (RD.load rfl (LD.one Try.isAgg3 hb3 rfl)) rfl ?_
    refine wf_rd _ rfl rfl (RD.cmp true rfl rfl (congrArg some (decide_eq_true (by omega)))) rfl ?_
    refine wf_rd _ rfl rfl (RD.move rfl) rfl ?_
    refine wf_not rfl rfl rfl ?_
    refine wf_not rfl rfl rfl ?_
    refine wf_not rfl rfl rfl ?_
    refine wf_not rfl rfl rfl ?_
    refine wf_not rfl rfl rfl ?_
    refine wf_not rfl rfl rfl ?_
    refine wf_not rfl rfl rfl ?_
    refine wf_not rfl rfl rfl ?_
    refine wf_not rfl rfl rfl ?_
    refine wf_not rfl rfl rfl ?_
    refine wf_not rfl rfl rfl ?_
    refine wf_not rfl rfl rfl ?_
    refine wf_rd _ rfl rfl (RD.pickT rfl rfl) rfl ?_
    refine wf_rd _ rfl rfl (RD.assign rfl) rfl ?_
    refine wf_nil ?_
    refine at_thn ?_
    refine wc_ret ?_
    refine at_ret1 rfl rfl ?_
    exact ⟨congrArg Value.bool (by simp [ahd]; omega), (Ext.new z1 hk1).trans (Ext.new z2 hk2)⟩
  · refine fn_intro 24 Try.func45 rfl Try.ntmps45 rfl ?_
    refine wc_seq ?_
    refine wc_plain ?_
    refine wf_box rfl rfl rfl rfl (fun b2 H1 e2 z1 hb2 hk1 => ⟨trivial, ?_⟩)
    refine wf_box rfl rfl rfl rfl (fun b3 H2 e3 z2 hb3 hk2 => ⟨trivial, ?_⟩)
    have n3_hb2 := ne_new hb2 e3
    replace hb2 := (hk2 _ (lt_of hb2)).trans hb2
    refine wf_rd _ rfl rfl (RD.assign rfl) rfl ?_
    refine wf_nil ?_
    refine at_thn ?_
    refine wc_seq ?_
    refine wc_plain ?_
    refine wf_rd _ rfl rfl (RD.field rfl Try.underlying69 rfl Try.sizeOf3) rfl ?_
    refine wf_rd _ rfl rfl (RD.load rfl (LD.one Try.isAgg3 hb2 rfl)) rfl ?_
    refine wf_rd _ rfl rfl (RD.field rfl Try.underlying69 rfl Try.sizeOf3) rfl ?_
    refine wf_rd _ rfl rfl (RD.load rfl (LD.one Try.isAgg3 hb3 rfl)) rfl ?_
    refine wf_rd _ rfl rfl (RD.cmp false rfl rfl (congrArg some (decide_eq_false (by omega)))) rfl ?_
    refine wf_rd _ rfl rfl (RD.move rfl) rfl ?_
    refine wf_rd _ rfl rfl (RD.field rfl Try.underlying69 rfl Try.sizeOf3) rfl ?_
    refine wf_rd _ rfl rfl (RD.load rfl (LD.one Try.isAgg3 hb2 rfl)) rfl ?_
    refine wf_rd _ rfl rfl (RD.field rfl Try.underlying69 rfl Try.sizeOf3) rfl ?_
    refine wf_rd _ rfl rfl (RD.load rfl (LD.one Try.isAgg3 hb3 rfl)) rfl ?_
    refine wf_rd _ rfl rfl (RD.cmp true rfl rfl (congrArg some (beq_iff_eq.2 h.symm))) rfl ?_
    refine wf_rd _ rfl rfl (RD.move rfl) rfl ?_
    refine wf_rd _ rfl rfl (RD.field rfl Try.underlying69 rfl Try.sizeOf3) rfl ?_
    refine wf_rd _ rfl rfl (RD.load rfl (LD.one Try.isAgg3 hb2 rfl)) rfl ?_
    refine wf_rd _ rfl rfl (RD.field rfl Try.underlying69 rfl Try.sizeOf3) rfl ?_
    refine wf_rd _ rfl rfl (RD.load rfl (LD.one Try.isAgg3 hb3 rfl)) rfl ?_
    refine wf_rd _ rfl rfl (RD.cmp _ rfl rfl rfl) rfl ?_
    refine wf_rd _ rfl rfl (RD.pickT rfl rfl) rfl ?_
    refine wf_rd _ rfl rfl (RD.pickF rfl rfl) rfl ?_
    refine wf_rd _ rfl rfl (RD.assign rfl) rfl ?_
    refine wf_nil ?_
    refine at_thn ?_
    refine wc_ret ?_
    refine at_ret1 rfl rfl ?_
    exact ⟨congrArg Value.bool (by simp [ahd, h]), (Ext.new z1 hk1).trans (Ext.new z2 hk2)⟩
  · refine fn_intro 24 Try.func45 rfl Try.ntmps45 rfl ?_
    refine wc_seq ?_
    refine wc_plain ?_
    refine wf_box rfl rfl rfl rfl (fun b2 H1 e2 z1 hb2 hk1 => ⟨trivial, ?_⟩)
    refine wf_box rfl rfl rfl rfl (fun b3 H2 e3 z2 hb3 hk2 => ⟨trivial, ?_⟩)
    have n3_hb2 := ne_new hb2 e3
    replace hb2 := (hk2 _ (lt_of hb2)).trans hb2
    refine wf_rd _ rfl rfl (RD.assign rfl) rfl ?_
    refine wf_nil ?_
    refine at_thn ?_
    refine wc_seq ?_
    refine wc_plain ?_
    refine wf_rd _ rfl rfl (RD.field rfl Try.underlying69 rfl Try.sizeOf3) rfl ?_
    refine wf_rd _ rfl rfl (RD.load rfl (LD.one Try.isAgg3 hb2 rfl)) rfl ?_
    refine wf_rd _ rfl rfl (RD.field rfl Try.underlying69 rfl Try.sizeOf3) rfl ?_
    refine wf_rd _ rfl rfl (RD.load rfl (LD.one Try.isAgg3 hb3 rfl)) rfl ?_
    refine wf_rd _ rfl rfl (RD.cmp false rfl rfl (congrArg some (decide_eq_false (by omega)))) rfl ?_
    refine wf_rd _ rfl rfl (RD.move rfl) rfl ?_
    refine wf_rd _ rfl rfl (RD.field rfl Try.underlying69 rfl Try.sizeOf3) rfl ?_
    refine wf_rd _ rfl rfl (RD.load rfl (LD.one Try.isAgg3 hb2 rfl)) rfl ?_
    refine wf_rd _ rfl rfl (RD.field rfl Try.underlying69 rfl Try.sizeOf3) rfl ?_
    refine wf_rd _ rfl rfl (RD.load rfl (LD.one Try.isAgg3 hb3 rfl)) rfl ?_
    refine wf_rd _ rfl rfl (RD.cmp false rfl rfl (congrArg some (beq_eq_false_iff_ne.2 (Int.ne_of_lt h)))) rfl ?_
    refine wf_rd _ rfl rfl (RD.move rfl) rfl ?_
    refine wf_not rfl rfl rfl ?_
    refine wf_not rfl rfl rfl ?_
    refine wf_not rfl rfl rfl ?_
    refine wf_not rfl rfl rfl ?_
    refine wf_not rfl rfl rfl ?_
    refine wf_rd _ rfl rfl (RD.pickF rfl rfl) rfl ?_
    refine wf_rd _ rfl rfl (RD.pickF rfl rfl) rfl ?_
    refine wf_rd _ rfl rfl (RD.assign rfl) rfl ?_
    refine wf_nil ?_
    refine at_thn ?_
    refine wc_ret ?_
    refine at_ret1 rfl rfl ?_
    exact ⟨congrArg Value.bool (by simp [ahd]; omega), (Ext.new z1 hk1).trans (Ext.new z2 hk2)⟩

set_option maxRecDepth 100000 in
theorem len116 (H : Heap) (l bm : Nat) (v : Value) (is : List It) (hp : Pile H l v bm is) : FN Try.prog 116 [.pointer (some ⟨l, 0, none⟩)] H (fun r H' => r = .int .i64 is.length ∧ H = H') := by
  obtain ⟨⟨T, hl⟩, ho, _⟩ := hp
  obtain ⟨p, c, rfl⟩ := ho.val
  refine fn_intro 8 Try.func116 rfl Try.ntmps116 rfl ?_
  refine wc_seq ?_
  refine wc_plain ?_
  refine wf_rd _ rfl rfl (RD.assign rfl) rfl ?_
  refine wf_nil ?_
  refine at_thn ?_
  refine wc_seq ?_
  refine wc_plain ?_
  refine wf_rd _ rfl rfl (RD.move rfl) rfl ?_
  refine wf_rd _ rfl rfl (RD.nilCheck rfl) rfl ?_
  refine wf_rd _ rfl rfl (RD.field rfl Try.underlying83 rfl Try.sizeOf66) rfl ?_
  refine wf_rd _ rfl rfl (RD.load rfl (LD.one Try.isAgg66 hl rfl)) rfl ?_
  refine wf_rd _ rfl rfl (RD.lenSl rfl Try.underlying66) rfl ?_
  refine wf_rd _ rfl rfl (RD.assign rfl) rfl ?_
  refine wf_nil ?_
  refine at_thn ?_
  refine wc_ret ?_
  refine at_ret1 rfl rfl ?_
  exact ⟨rfl, rfl⟩
set_option maxRecDepth 100000 in
theorem less117 (H : Heap) (l bm : Nat) (v : Value) (is : List It) (hp : Pile H l v bm is) (i j : Nat) (a b : It) (hi : is[i]? = some a) (hj : is[j]? = some b) :
    FN Try.prog 117 [.pointer (some ⟨l, 0, none⟩), .int .i64 i, .int .i64 j] H (fun r H' => r = .bool (ahd a b) ∧ Ext H H') := by
  obtain ⟨g, cap, cs, rfl, hg, hr, _⟩ := hp.row hi
  obtain ⟨⟨T, hl⟩, _⟩ := hp
  have hi1 := (List.getElem?_eq_some_iff.1 hi).1
  have hj1 := (List.getElem?_eq_some_iff.1 hj).1
  refine fn_intro 22 Try.func117 rfl Try.ntmps117 rfl ?_
  refine wc_seq ?_
  refine wc_plain ?_
  refine wf_rd _ rfl rfl (RD.assign rfl) rfl ?_
  refine wf_nil ?_
  refine at_thn ?_
  refine wc_seq ?_
  refine wc_drawn [(0, 0), (1, 0), (2, 0), (3, 0), (4, 0), (5, 0), (6, 0), (7, 0), (8, 0), (9, 0), (10, 0), (11, 0), (12, 0), (13, 0), (14, 3), (15, 0)] (fun _ => True) (by kernel_rfl) (by kernel_rfl) trivial ?_
  refine wf_rd _ rfl rfl (RD.move rfl) rfl ?_
  refine wf_rd _ rfl rfl (RD.nilCheck rfl) rfl ?_
  refine wf_rd _ rfl rfl (RD.field rfl Try.underlying83 rfl Try.sizeOf66) rfl ?_
  refine wf_rd _ rfl rfl (RD.load rfl (LD.one Try.isAgg66 hl rfl)) rfl ?_
  refine wf_rd _ rfl rfl (RD.move rfl) rfl ?_
  refine wf_rd _ rfl rfl (RD.indexN rfl rfl Try.underlying66 Try.sizeOf69 (by omega)) rfl ?_
  refine wf_rd _ rfl rfl (RD.load rfl (LD.el Try.isAgg69 Try.sizeOf69 hg (hr.at hi))) rfl ?_
  refine wf_rd _ rfl rfl (RD.move rfl) rfl ?_
  refine wf_rd _ rfl rfl (RD.nilCheck rfl) rfl ?_
  refine wf_rd _ rfl rfl (RD.field rfl Try.underlying83 rfl Try.sizeOf66) rfl ?_
  refine wf_rd _ rfl rfl (RD.load rfl (LD.one Try.isAgg66 hl rfl)) rfl ?_
  refine wf_rd _ rfl rfl (RD.move rfl) rfl ?_
  refine wf_rd _ rfl rfl (RD.indexN rfl rfl Try.underlying66 Try.sizeOf69 (by omega)) rfl ?_
  refine wf_rd _ rfl rfl (RD.load rfl (LD.el Try.isAgg69 Try.sizeOf69 hg (hr.at hj))) rfl ?_
  refine wf_call rfl en45 rfl rfl (ahead45 _ a b) ?_
  rintro _ H1 ⟨rfl, hx⟩
  refine ⟨trivial, ?_⟩
  refine wf_rd _ rfl rfl (RD.assign rfl) rfl ?_
  refine wf_nil ?_
  refine at_thn ?_
  refine wc_ret ?_
  refine at_ret1 rfl rfl ?_
  exact ⟨rfl, hx⟩
set_option maxRecDepth 100000 in
theorem swap120 (H : Heap) (l bm : Nat) (v : Value) (is : List It) (hp : Pile H l v bm is) (i j : Nat) (a b : It) (hi : is[i]? = some a) (hj : is[j]? = some b) :
    FN Try.prog 120 [.pointer (some ⟨l, 0, none⟩), .int .i64 i, .int .i64 j] H (fun _ H' => Pile H' l v bm (swp is i j a b) ∧ Frm (pm l v bm) H H') := by
  obtain ⟨g, cap, cs, rfl, hg, hr, hcap, hcap', hmax⟩ := hp.row hi
  obtain ⟨⟨T, hl⟩, ho, es, cm, hm, hM, hA⟩ := hp
  have hi1 := (List.getElem?_eq_some_iff.1 hi).1
  have hj1' := (List.getElem?_eq_some_iff.1 hj).1
  have nlg := ne_row hl hg hcap
  have ngm := ne_map hg hm
  have nlm := ne_map hl hm
  refine fn_intro 62 Try.func120 rfl Try.ntmps120 rfl ?_
  refine wc_seq ?_
  refine wc_drawn [(0, 0), (1, 0), (2, 0), (3, 0), (4, 0), (5, 0), (6, 0), (7, 0), (8, 0), (10, 0), (11, 0), (12, 0), (13, 0), (14, 0), (15, 0), (16, 0), (17, 0), (18, 0), (19, 0), (20, 0), (21, 0), (22, 0), (23, 0), (24, 0), (9, 1), (25, 2), (26, 0), (27, 3)] (fun _ => True) (by kernel_rfl) (by kernel_rfl) trivial ?_
  refine wf_rd _ rfl rfl (RD.move rfl) rfl ?_
  refine wf_rd _ rfl rfl (RD.nilCheck rfl) rfl ?_
  refine wf_rd _ rfl rfl (RD.field rfl Try.underlying83 rfl Try.sizeOf66) rfl ?_
  refine wf_rd _ rfl rfl (RD.load rfl (LD.one Try.isAgg66 hl rfl)) rfl ?_
  refine wf_rd _ rfl rfl (RD.move rfl) rfl ?_
  refine wf_rd _ rfl rfl (RD.move rfl) rfl ?_
  refine wf_rd _ rfl rfl (RD.nilCheck rfl) rfl ?_
  refine wf_rd _ rfl rfl (RD.field rfl Try.underlying83 rfl Try.sizeOf66) rfl ?_
  refine wf_rd _ rfl rfl (RD.load rfl (LD.one Try.isAgg66 hl rfl)) rfl ?_
  refine wf_rd _ rfl rfl (RD.move rfl) rfl ?_
  refine wf_rd _ rfl rfl (RD.nilCheck rfl) rfl ?_
  refine wf_rd _ rfl rfl (RD.field rfl Try.underlying83 rfl Try.sizeOf66) rfl ?_
  refine wf_rd _ rfl rfl (RD.load rfl (LD.one Try.isAgg66 hl rfl)) rfl ?_
  refine wf_rd _ rfl rfl (RD.move rfl) rfl ?_
  refine wf_rd _ rfl rfl (RD.indexN rfl rfl Try.underlying66 Try.sizeOf69 (by omega)) rfl ?_
  refine wf_rd _ rfl rfl (RD.load rfl (LD.el Try.isAgg69 Try.sizeOf69 hg (hr.at hj))) rfl ?_
  refine wf_rd _ rfl rfl (RD.move rfl) rfl ?_
  refine wf_rd _ rfl rfl (RD.nilCheck rfl) rfl ?_
  refine wf_rd _ rfl rfl (RD.field rfl Try.underlying83 rfl Try.sizeOf66) rfl ?_
  refine wf_rd _ rfl rfl (RD.load rfl (LD.one Try.isAgg66 hl rfl)) rfl ?_
  refine wf_rd _ rfl rfl (RD.move rfl) rfl ?_
  refine wf_rd _ rfl rfl (RD.indexN rfl rfl Try.underlying66 Try.sizeOf69 (by omega)) rfl ?_
  refine wf_rd _ rfl rfl (RD.load rfl (LD.el Try.isAgg69 Try.sizeOf69 hg (hr.at hi))) rfl ?_
  refine wf_rd _ rfl rfl (RD.indexN rfl rfl Try.underlying66 Try.sizeOf69 (by omega)) rfl ?_
  refine wf_su _ rfl rfl (fun _ _ => (RD.move rfl)) ?_
  refine wf_storeK (vs := b.cells) rfl rfl Try.sizeOf69 rfl hg b.ones (hr.at hi).2 (fun H1 z1 hx1 hk1 => ⟨trivial, ?_⟩)
  replace hl := (hk1 _ nlg).trans hl
  replace hm := (hk1 _ (Ne.symm ngm)).trans hm
  replace hg := hx1
  have r1 := hr.put hi1 b
  obtain ⟨b0, hj1⟩ := swp1 hi hj
  refine wf_rd _ rfl rfl (RD.indexN rfl rfl Try.underlying66 Try.sizeOf69 (by omega)) rfl ?_
  refine wf_storeK (vs := a.cells) rfl rfl Try.sizeOf69 rfl hg a.ones (r1.at hj1).2 (fun H2 z2 hx2 hk2 => ⟨trivial, ?_⟩)
  replace hl := (hk2 _ nlg).trans hl
  replace hm := (hk2 _ (Ne.symm ngm)).trans hm
  replace hg := hx2
  have r2 := r1.put (List.getElem?_eq_some_iff.1 hj1).1 a
  have hi2 := swp_i hi hj
  have hj2 := swp_j hi hj
  generalize hcs : (List.take (0 + j * 3) _ ++ a.cells ++ List.drop (0 + j * 3 + a.cells.length) _) = cs2 at r2 hg
  refine wf_nil ?_
  refine at_thn ?_
  refine wc_drawn [(0, 0), (1, 0), (2, 0), (3, 0), (4, 0), (5, 0), (6, 0), (7, 0), (8, 0), (9, 0), (10, 0), (11, 0), (12, 0), (13, 0), (14, 0), (15, 0), (16, 0), (17, 0), (18, 0), (19, 0), (20, 0), (21, 0), (22, 0), (23, 0), (24, 1), (25, 1), (26, 2), (27, 0), (28, 2), (29, 2), (30, 0), (31, 3)] (fun _ => True) (by kernel_rfl) (by kernel_rfl) trivial ?_
  refine wf_rd _ rfl rfl (RD.move rfl) rfl ?_
  refine wf_rd _ rfl rfl (RD.nilCheck rfl) rfl ?_
  refine wf_rd _ rfl rfl (RD.field rfl Try.underlying83 rfl Try.sizeOf61) rfl ?_
  refine wf_rd _ rfl rfl (RD.load rfl (LD.one Try.isAgg61 hl rfl)) rfl ?_
  refine wf_rd _ rfl rfl (RD.move rfl) rfl ?_
  refine wf_rd _ rfl rfl (RD.nilCheck rfl) rfl ?_
  refine wf_rd _ rfl rfl (RD.field rfl Try.underlying83 rfl Try.sizeOf66) rfl ?_
  refine wf_rd _ rfl rfl (RD.load rfl (LD.one Try.isAgg66 hl rfl)) rfl ?_
  refine wf_rd _ rfl rfl (RD.move rfl) rfl ?_
  refine wf_rd _ rfl rfl (RD.indexN rfl rfl Try.underlying66 Try.sizeOf69 (by omega)) rfl ?_
  refine wf_rd _ rfl rfl (RD.field rfl Try.underlying69 rfl Try.sizeOf3) rfl ?_
  refine wf_rd _ rfl rfl (RD.load rfl (LD.one Try.isAgg3 hg (r2.snd hi2))) rfl ?_
  refine wf_rd _ rfl rfl (RD.move rfl) rfl ?_
  refine wf_rd _ rfl rfl (RD.nilCheck rfl) rfl ?_
  refine wf_rd _ rfl rfl (RD.field rfl Try.underlying83 rfl Try.sizeOf61) rfl ?_
  refine wf_rd _ rfl rfl (RD.load rfl (LD.one Try.isAgg61 hl rfl)) rfl ?_
  refine wf_rd _ rfl rfl (RD.move rfl) rfl ?_
  refine wf_rd _ rfl rfl (RD.nilCheck rfl) rfl ?_
  refine wf_rd _ rfl rfl (RD.field rfl Try.underlying83 rfl Try.sizeOf66) rfl ?_
  refine wf_rd _ rfl rfl (RD.load rfl (LD.one Try.isAgg66 hl rfl)) rfl ?_
  refine wf_rd _ rfl rfl (RD.move rfl) rfl ?_
  refine wf_rd _ rfl rfl (RD.indexN rfl rfl Try.underlying66 Try.sizeOf69 (by omega)) rfl ?_
  refine wf_rd _ rfl rfl (RD.field rfl Try.underlying69 rfl Try.sizeOf3) rfl ?_
  refine wf_rd _ rfl rfl (RD.load rfl (LD.one Try.isAgg3 hg (r2.snd hj2))) rfl ?_
  refine wf_su _ rfl rfl (fun _ _ => (RD.move rfl)) ?_
  refine wf_su _ rfl rfl (fun _ _ => (RD.move rfl)) ?_
  refine wf_entry (k := b.s) rfl rfl rfl rfl Try.underlying61 Try.underlying3 hm hM Try.zeroValue3 (fun H3 es3 c3 s3 z3 hm3 hk3 sl3 => ⟨trivial, ?_⟩)
  replace hl := (hk3 _ nlm).trans hl
  replace hg := (hk3 _ ngm).trans hg
  replace hm := hm3
  refine wf_rd _ rfl rfl (RD.extract rfl rfl) rfl ?_
  refine wf_entryStore rfl rfl rfl rfl hm hM sl3 (fun H4 es4 c4 z4 hm4 hk4 pt4 => ⟨trivial, ?_⟩)
  replace hl := (hk4 _ nlm).trans hl
  replace hg := (hk4 _ ngm).trans hg
  replace hm := hm4
  refine wf_entry (k := a.s) rfl rfl rfl rfl Try.underlying61 Try.underlying3 hm pt4.mi Try.zeroValue3 (fun H5 es5 c5 s5 z5 hm5 hk5 sl5 => ⟨trivial, ?_⟩)
  replace hl := (hk5 _ nlm).trans hl
  replace hg := (hk5 _ ngm).trans hg
  replace hm := hm5
  refine wf_rd _ rfl rfl (RD.extract rfl rfl) rfl ?_
  refine wf_entryStore rfl rfl rfl rfl hm pt4.mi sl5 (fun H6 es6 c6 z6 hm6 hk6 pt6 => ⟨trivial, ?_⟩)
  replace hl := (hk6 _ nlm).trans hl
  replace hg := (hk6 _ ngm).trans hg
  replace hm := hm6
  refine wf_nil ?_
  refine at_norm ?_
  refine at_ret0 rfl  ?_
  refine ⟨⟨⟨T, hl⟩, ?_, es6, c6, hm, pt6.mi, hA.swap hi hj pt4 pt6⟩, ?_⟩
  · have hlen : cs2.length = cap * 3 := by rw [← hcs]; simp [It.cells]; omega
    have := own_of hg r2 hlen (by simp; omega) hmax
    simpa [swp] using this
  · have m1 : pm l (.slice (some ⟨g, 0, none⟩) is.length cap) bm g := .inr (.inl rfl)
    have m2 : pm l (.slice (some ⟨g, 0, none⟩) is.length cap) bm bm := .inr (.inr rfl)
    exact ((((Frm.wrote z1 hk1 (fun _ => m1)).trans (Frm.wrote z2 hk2 (fun _ => m1))).trans (Frm.wrote z3 hk3 (fun _ => m2))).trans (Frm.wrote z4 hk4 (fun _ => m2)) |>.trans (Frm.wrote z5 hk5 (fun _ => m2))).trans (Frm.wrote z6 hk6 (fun _ => m2))

set_option maxRecDepth 100000 in
theorem pop118 (H : Heap) (l bm : Nat) (v : Value) (is : List It) (a : It) (hp : Pile H l v bm (is ++ [a])) (hlt : is.length < 9223372036854775807) :
    FN Try.prog 118 [.pointer (some ⟨l, 0, none⟩)] H (fun r H' => ∃ v', r = .iface 69 (.agg a.cells.toArray) ∧ v'.ownBlock = v.ownBlock ∧ Pile H' l v' bm is ∧ Frm (pm l v bm) H H') := by
  have hat : (is ++ [a])[is.length]? = some a := by simp
  obtain ⟨g, cap, cs, rfl, hg, hr, hcap, hcap', hmax⟩ := hp.row hat
  obtain ⟨⟨T, hl⟩, ho, es, cm, hm, hM, hA⟩ := hp
  have hlen : (is ++ [a]).length = is.length + 1 := by simp
  rw [hlen] at hl hcap'
  have nlg := ne_row hl hg hcap
  have ngm := ne_map hg hm
  have nlm := ne_map hl hm
  refine fn_intro 35 Try.func118 rfl Try.ntmps118 rfl ?_
  refine wc_seq ?_
  refine wc_plain ?_
  refine wf_rd _ rfl rfl (RD.assign rfl) rfl ?_
  refine wf_nil ?_
  refine at_thn ?_
  refine wc_seq ?_
  refine wc_plain ?_
  refine wf_rd _ rfl rfl (RD.move rfl) rfl ?_
  refine wf_rd _ rfl rfl (RD.nilCheck rfl) rfl ?_
  refine wf_rd _ rfl rfl (RD.field rfl Try.underlying83 rfl Try.sizeOf66) rfl ?_
  refine wf_rd _ rfl rfl (RD.load rfl (LD.one Try.isAgg66 hl rfl)) rfl ?_
  refine wf_rd _ rfl rfl (RD.lenSl rfl Try.underlying66) rfl ?_
  refine wf_rd _ rfl rfl (RD.sub1 rfl rfl hlt) rfl ?_
  refine wf_rd _ rfl rfl (RD.assign rfl) rfl ?_
  refine wf_nil ?_
  refine at_thn ?_
  refine wc_seq ?_
  refine wc_plain ?_
  refine wf_rd _ rfl rfl (RD.move rfl) rfl ?_
  refine wf_rd _ rfl rfl (RD.nilCheck rfl) rfl ?_
  refine wf_rd _ rfl rfl (RD.field rfl Try.underlying83 rfl Try.sizeOf66) rfl ?_
  refine wf_rd _ rfl rfl (RD.load rfl (LD.one Try.isAgg66 hl rfl)) rfl ?_
  refine wf_rd _ rfl rfl (RD.move rfl) rfl ?_
  refine wf_rd _ rfl rfl (RD.indexN rfl rfl Try.underlying66 Try.sizeOf69 (by omega)) rfl ?_
  refine wf_rd _ rfl rfl (RD.load rfl (LD.el Try.isAgg69 Try.sizeOf69 hg (hr.at hat))) rfl ?_
  refine wf_alloc Try.zeroValue69 rfl rfl rfl (fun b4 H1 e4 z1 hb4 hk1 => ⟨trivial, ?_⟩)
  have n4_hl := ne_new hl e4
  have n4_hg := ne_new hg e4
  have n4_hm := ne_new hm e4
  replace hl := (hk1 _ (lt_of hl)).trans hl
  replace hg := (hk1 _ (lt_of hg)).trans hg
  replace hm := (hk1 _ (lt_of hm)).trans hm
  refine wf_storeA rfl rfl Try.sizeOf69 rfl hb4 a.ones rfl (fun H2 z2 hx2 hk2 => ⟨trivial, ?_⟩)
  replace hl := (hk2 _ (by first | assumption | exact Ne.symm (by assumption) | omega)).trans hl
  replace hg := (hk2 _ (by first | assumption | exact Ne.symm (by assumption) | omega)).trans hg
  replace hm := (hk2 _ (by first | assumption | exact Ne.symm (by assumption) | omega)).trans hm
  replace hb4 := hx2
  refine wf_nil ?_
  refine at_thn ?_
  refine wc_seq ?_
  refine wc_plain ?_
  refine wf_rd _ rfl rfl (RD.move rfl) rfl ?_
  refine wf_rd _ rfl rfl (RD.move rfl) rfl ?_
  refine wf_rd _ rfl rfl (RD.nilCheck rfl) rfl ?_
  refine wf_rd _ rfl rfl (RD.field rfl Try.underlying83 rfl Try.sizeOf66) rfl ?_
  refine wf_rd _ rfl rfl (RD.load rfl (LD.one Try.isAgg66 hl rfl)) rfl ?_
  refine wf_rd _ rfl rfl (RD.move rfl) rfl ?_
  refine wf_rd _ rfl rfl (RD.slN rfl rfl Try.underlying66 Try.sizeOf69 (by omega)) rfl ?_
  refine wf_rd _ rfl rfl (RD.nilCheck rfl) rfl ?_
  refine wf_rd _ rfl rfl (RD.field rfl Try.underlying83 rfl Try.sizeOf66) rfl ?_
  refine wf_store1 rfl rfl Try.sizeOf66 rfl hl (by first | rfl | assumption) (Nat.le_of_ble_eq_true rfl) (fun H3 z3 hx3 hk3 => ⟨trivial, ?_⟩)
  replace hg := (hk3 _ (by first | assumption | exact Ne.symm (by assumption) | omega)).trans hg
  replace hm := (hk3 _ (by first | assumption | exact Ne.symm (by assumption) | omega)).trans hm
  replace hb4 := (hk3 _ (by first | assumption | exact Ne.symm (by assumption) | omega)).trans hb4
  replace hl := hx3
  refine wf_nil ?_
  refine at_thn ?_
  refine wc_seq ?_
  refine wc_drawn [(0, 0), (1, 0), (2, 0), (3, 0), (4, 0), (5, 0), (6, 3)] (fun _ => True) (by kernel_rfl) (by kernel_rfl) trivial ?_
  refine wf_rd _ rfl rfl (RD.move rfl) rfl ?_
  refine wf_rd _ rfl rfl (RD.nilCheck rfl) rfl ?_
  refine wf_rd _ rfl rfl (RD.field rfl Try.underlying83 rfl Try.sizeOf61) rfl ?_
  refine wf_rd _ rfl rfl (RD.load rfl (LD.one Try.isAgg61 hl rfl)) rfl ?_
  refine wf_rd _ rfl rfl (RD.field rfl Try.underlying69 rfl Try.sizeOf3) rfl ?_
  refine wf_rd _ rfl rfl (RD.load rfl (LD.one Try.isAgg3 hb4 rfl)) rfl ?_
  refine wf_del (k := a.s) rfl rfl rfl rfl Try.underlying61 Try.underlying3 hm hM (fun H5 es5 c5 z5 hm5 hk5 dl5 => ⟨trivial, ?_⟩)
  replace hl := (hk5 _ nlm).trans hl
  replace hg := (hk5 _ ngm).trans hg
  replace hb4 := (hk5 _ (ne_map hb4 hm)).trans hb4
  replace hm := hm5
  refine wf_nil ?_
  refine at_thn ?_
  refine wc_seq ?_
  refine wc_plain ?_
  refine wf_rd _ rfl rfl (RD.load rfl (LD.all Try.isAgg69 Try.sizeOf69 hb4 rfl)) rfl ?_
  refine wf_rd _ rfl rfl (RD.mkIface rfl (by kernel_rfl)) rfl ?_
  refine wf_rd _ rfl rfl (RD.assign rfl) rfl ?_
  refine wf_nil ?_
  refine at_thn ?_
  refine wc_ret ?_
  refine at_ret1 rfl rfl ?_
  refine ⟨.slice (some ⟨g, 0, none⟩) is.length cap, rfl, rfl, ⟨⟨T, hl⟩, own_of hg hr.take hcap (by omega) hmax, es5, c5, hm, dl5.mi, hA.pop dl5⟩, ?_⟩
  exact ((Ext.frm ((Ext.new z1 hk1).wrote z2 hk2 (by omega)) _).trans (Frm.wrote z3 hk3 (fun _ => .inl rfl))).trans (Frm.wrote z5 hk5 (fun _ => .inr (.inr rfl)))
set_option maxRecDepth 100000 in
theorem push119 (H : Heap) (l bm : Nat) (v : Value) (is : List It) (a : It) (hp : Pile H l v bm is) (hn : ∀ b ∈ is, b.s ≠ a.s) (hlt : is.length < 4194304) :
    FN Try.prog 119 [.pointer (some ⟨l, 0, none⟩), .iface 69 (.agg a.cells.toArray)] H (fun _ H' => ∃ v', Pile H' l v' bm (is ++ [a]) ∧ (v'.ownBlock = v.ownBlock ∨ ∃ g, v'.ownBlock = some g ∧ H.size ≤ g) ∧ Frm (pm l v bm) H H') := by
  obtain ⟨⟨T, hl⟩, ho, es, cm, hm, hM, hA⟩ := hp
  have nlg : ∀ g, v.ownBlock = some g → l ≠ g := fun g hg => by
    rcases ho.2 with ⟨rfl, _⟩ | ⟨g', cap, cur, rfl, h0, h3, h4, h5, h6, h7⟩
    · simp [Value.ownBlock] at hg
    · simp only [Value.ownBlock, Option.some.injEq] at hg
      subst hg
      exact ne_row (cs := cur.toList) hl (by simpa using h3) (by simpa using h6)
  obtain ⟨p, c, rfl⟩ := ho.val
  have nlm := ne_map hl hm
  have hm0 := hm
  have hl0 := hl
  refine fn_intro 28 Try.func119 rfl Try.ntmps119 rfl ?_
  refine wc_seq ?_
  refine wc_plain ?_
  refine wf_rd _ rfl rfl (RD.move rfl) rfl ?_
  refine wf_rd _ rfl rfl (RD.assert rfl Try.underlying69 rfl) rfl ?_
  refine wf_alloc Try.zeroValue69 rfl rfl rfl (fun b4 H1 e4 z1 hb4 hk1 => ⟨trivial, ?_⟩)
  have n4_hl := ne_new hl e4
  have n4_hm := ne_new hm e4
  replace hl := (hk1 _ (lt_of hl)).trans hl
  replace hm := (hk1 _ (lt_of hm)).trans hm
  refine wf_storeA rfl rfl Try.sizeOf69 rfl hb4 a.ones rfl (fun H2 z2 hx2 hk2 => ⟨trivial, ?_⟩)
  replace hl := (hk2 _ (by first | assumption | exact Ne.symm (by assumption) | omega)).trans hl
  replace hm := (hk2 _ (by first | assumption | exact Ne.symm (by assumption) | omega)).trans hm
  replace hb4 := hx2
  refine wf_nil ?_
  refine at_thn ?_
  refine wc_seq ?_
  refine wc_drawn [(0, 0), (1, 0), (2, 0), (3, 0), (4, 0), (5, 0), (6, 0), (7, 0), (8, 0), (9, 0), (10, 0), (11, 3)] (fun _ => True) (by kernel_rfl) (by kernel_rfl) trivial ?_
  refine wf_rd _ rfl rfl (RD.move rfl) rfl ?_
  refine wf_rd _ rfl rfl (RD.nilCheck rfl) rfl ?_
  refine wf_rd _ rfl rfl (RD.field rfl Try.underlying83 rfl Try.sizeOf61) rfl ?_
  refine wf_rd _ rfl rfl (RD.load rfl (LD.one Try.isAgg61 hl rfl)) rfl ?_
  refine wf_rd _ rfl rfl (RD.field rfl Try.underlying69 rfl Try.sizeOf3) rfl ?_
  refine wf_rd _ rfl rfl (RD.load rfl (LD.one Try.isAgg3 hb4 rfl)) rfl ?_
  refine wf_rd _ rfl rfl (RD.move rfl) rfl ?_
  refine wf_rd _ rfl rfl (RD.nilCheck rfl) rfl ?_
  refine wf_rd _ rfl rfl (RD.field rfl Try.underlying83 rfl Try.sizeOf66) rfl ?_
  refine wf_rd _ rfl rfl (RD.load rfl (LD.one Try.isAgg66 hl rfl)) rfl ?_
  refine wf_rd _ rfl rfl (RD.lenSl rfl Try.underlying66) rfl ?_
  refine wf_put (k := a.s) (v := .int .i64 (is.length : Int)) rfl rfl rfl rfl Try.underlying61 Try.underlying3 hm hM (fun H3 es3 c3 z3 hm3 hk3 pt3 => ⟨trivial, ?_⟩)
  replace hl := (hk3 _ nlm).trans hl
  replace hb4 := (hk3 _ (ne_map hb4 hm)).trans hb4
  replace hm := hm3
  have ho3 : Own H3 69 3 (.slice p is.length c) is.length (icells is) := ho.keep (fun g hg => by
    have h1 := ho.lt hg
    obtain ⟨_, _, _, h2, _⟩ := ho.blk hg
    exact (hk3 _ (ne_map h2 hm0)).trans ((hk2 _ (by omega)).trans (hk1 _ h1)))
  refine wf_nil ?_
  refine at_thn ?_
  refine wc_drawn [(5, 0), (0, 1), (1, 1), (2, 1), (3, 1), (4, 1), (6, 2), (7, 2), (8, 0), (9, 0), (10, 3)] (fun X => X[l]? = some (.cells [.slice p is.length c, .map (some bm)].toArray T (0, 0))) (by kernel_rfl) (by kernel_rfl) hl ?_
  refine wf_rd _ rfl rfl (RD.load rfl (LD.all Try.isAgg69 Try.sizeOf69 hb4 rfl)) rfl ?_
  refine wf_su _ rfl rfl (fun _ hC => (RD.move rfl)) ?_
  refine wf_su _ rfl rfl (fun _ hC => (RD.move rfl)) ?_
  refine wf_su _ rfl rfl (fun _ hC => (RD.nilCheck rfl)) ?_
  refine wf_su _ rfl rfl (fun _ hC => (RD.field rfl Try.underlying83 rfl Try.sizeOf66)) ?_
  refine wf_su _ rfl rfl (fun _ hC => (RD.load rfl (LD.one Try.isAgg66 hC rfl))) ?_
  refine wf_mkSlice1 el66 rfl rfl rfl rfl rfl rfl (fun b24 H4 e24 z4 hb24 hk4 => ⟨(hk4 _ (lt_of hl)).trans hl, ?_⟩)
  have n24_hl := ne_new hl e24
  have n24_hm := ne_new hm e24
  have n24_hb4 := ne_new hb4 e24
  replace hl := (hk4 _ (lt_of hl)).trans hl
  replace hm := (hk4 _ (lt_of hm)).trans hm
  replace hb4 := (hk4 _ (lt_of hb4)).trans hb4
  refine wf_append (news := a.cells) el66 rfl rfl (ho3.keep (fun g hg => hk4 g (ho3.lt hg))) hb24 rfl (Nat.le_refl _) a.ones (by omega) (by omega) rfl rfl (fun v5 H5 ho4 hg5 hw5 => ⟨(hg5.2 _ (lt_of hl) (fun e => nlg _ e.symm rfl)).trans hl, ?_⟩)
  have hbl : ∀ {b : Nat} {o : Obj}, H4[b]? = some o → (∀ g, (Value.slice p is.length c).ownBlock = some g → g ≠ b) → H5[b]? = some o := fun h1 h2 => (hg5.2 _ (lt_of h1) (fun e => h2 _ e.symm rfl)).trans h1
  replace hl := hbl hl (fun g hg e => nlg g hg e.symm)
  replace hm := hbl hm (fun g hg e => by subst e; obtain ⟨_, _, _, h2, _⟩ := ho3.blk hg; exact ne_map ((hk4 _ (lt_of h2)).trans h2) hm rfl)
  refine wf_rd _ rfl rfl (RD.nilCheck rfl) rfl ?_
  refine wf_rd _ rfl rfl (RD.field rfl Try.underlying83 rfl Try.sizeOf66) rfl ?_
  refine wf_store1 rfl rfl Try.sizeOf66 rfl hl ho4.one (Nat.le_of_ble_eq_true rfl) (fun H6 z6 hx6 hk6 => ⟨trivial, ?_⟩)
  replace hm := (hk6 _ (by first | assumption | exact Ne.symm (by assumption) | omega)).trans hm
  replace hl := hx6
  refine wf_nil ?_
  refine at_norm ?_
  refine at_ret0 rfl  ?_
  have ho6 := ho4.keep (H' := H6) (fun g hg => hk6 g (fun e => by
    subst e
    rcases hw5 with h | h
    · exact nlg _ (h ▸ hg) rfl
    · rw [h] at hg; have := Option.some.inj hg; have := lt_of hl0; omega))
  refine ⟨v5, ⟨⟨T, hl⟩, by simpa [icells_app, icells_one] using ho6, es3, c3, hm, pt3.mi, hA.push hn pt3⟩, hw5.imp id (fun h => ⟨_, h, by omega⟩), ?_⟩
  have f5 : Frm (pm l (.slice p is.length c) bm) H4 H5 := ⟨hg5.1, fun j hj hm => hg5.2 j hj (fun e => hm (.inr (.inl e.symm)))⟩
  exact ((((Ext.frm ((Ext.new z1 hk1).wrote z2 hk2 (by omega)) _).trans (Frm.wrote z3 hk3 (fun _ => .inr (.inr rfl)))).trans (Ext.frm (Ext.new z4 hk4) _)).trans f5).trans (Frm.wrote z6 hk6 (fun _ => .inl rfl))
end Go.Proofs.Ytfomnjippakjpaa
