/-
  Contracts of functions of the given program, at the blocks of memory that they read and write.
-/
import Derived.Test.YtfomnjippakjpaaQueue2
import Derived.Test.YtfomnjippakjpaaRows
namespace Go.Proofs.Ytfomnjippakjpaa
open Go.S

/-- The empty copy. -/
def cd0 : CD := ⟨0, 0, 0, 0, ⟨#[]⟩, ⟨#[]⟩, 0, ⟨#[]⟩, ⟨#[]⟩, 0, 0, ⟨#[]⟩, ⟨#[]⟩, ⟨#[]⟩, ⟨#[]⟩, 0, ⟨#[]⟩, ⟨#[]⟩, ⟨#[]⟩, 0, 0, false, false, [], []⟩
theorem built35c : Try.prog.built 35 [] = some (cd0.cells (.slice none 0 0) (.slice none 0 0)).toArray := built35
abbrev zcells : List Value := cd0.cells (.slice none 0 0) (.slice none 0 0)
set_option maxRecDepth 100000 in
theorem settle16_none (f : Nat) (H : Heap) (B : QB) (S : QS) (Z : Int → Nat → Prop) (k : Int) (h : QInv f H B S Z) (hk : k ∉ S.ou) :
    FN Try.prog 16 [(.pointer (some ⟨B.q, 0, none⟩)), .int .i64 k] H (fun r H' => r = .tuple [.agg zcells.toArray, .bool false].toArray ∧ Ext H H') := by
  have hq := h.q
  obtain ⟨eo, c, hou, hoM, hoO⟩ := h.ou
  have hlk : Go.S.look eo k = none := by rw [hoO.1, if_neg hk]
  refine fn_intro 22 Try.func16 rfl Try.ntmps16 rfl ?_
  refine wc_seq ?_
  refine wc_plain ?_
  refine wf_alloc Try.zeroValue35 rfl rfl rfl (fun b4 H1 e4 z1 hb4 hk1 => ⟨trivial, ?_⟩)
  have n4_hq := ne_new hq e4
  have n4_hou := ne_new hou e4
  replace hq := (hk1 _ (lt_of hq)).trans hq
  replace hou := (hk1 _ (lt_of hou)).trans hou
  refine wf_rd _ rfl rfl (RD.assign rfl) rfl ?_
  refine wf_nil ?_
  refine at_thn ?_
  refine wc_seq ?_
  refine wc_seq ?_
  refine wc_plain ?_
  refine wf_rd _ rfl rfl (RD.move rfl) rfl ?_
  refine wf_rd _ rfl rfl (RD.nilCheck rfl) rfl ?_
  refine wf_rd _ rfl rfl (RD.field rfl Try.underlying63 rfl Try.sizeOf61) rfl ?_
  refine wf_rd _ rfl rfl (RD.load rfl (LD.one Try.isAgg61 hq rfl)) rfl ?_
  refine wf_rd _ rfl rfl (RD.move rfl) rfl ?_
  refine wf_rd _ rfl rfl (RD.lkN (k := k) rfl rfl Try.underlying61 Try.underlying3 hou hoM Try.zeroValue3 hlk) rfl ?_
  refine wf_rd _ rfl rfl (RD.cmp true rfl rfl rfl) rfl ?_
  refine wf_nil ?_
  refine at_thn ?_
  refine wc_yes rfl ?_
  refine wc_seq ?_
  refine wc_plain ?_
  refine wf_rd _ rfl rfl (RD.build rfl built35c) rfl ?_
  refine wf_storeA rfl rfl Try.sizeOf35 rfl hb4 (CD.one cd0 rfl rfl) rfl (fun H2 z2 hx2 hk2 => ⟨trivial, ?_⟩)
  replace hq := (hk2 _ (by first | assumption | exact Ne.symm (by assumption) | omega)).trans hq
  replace hou := (hk2 _ (by first | assumption | exact Ne.symm (by assumption) | omega)).trans hou
  replace hb4 := hx2
  refine wf_rd _ rfl rfl (RD.assign rfl) rfl ?_
  refine wf_nil ?_
  refine at_thn ?_
  refine wc_ret ?_
  refine at_thn_ret ?_
  refine at_ret2 rfl ⟨_, rfl, (LD.all Try.isAgg35 Try.sizeOf35 hb4 rfl)⟩ rfl ?_
  exact ⟨rfl, (Ext.new z1 hk1).wrote z2 hk2 (by omega)⟩
set_option maxRecDepth 100000 in
theorem return12_none (f : Nat) (H : Heap) (B : QB) (S : QS) (Z : Int → Nat → Prop) (k : Int) (h : QInv f H B S Z) (hk : k ∉ S.ou) :
    FN Try.prog 12 [(.pointer (some ⟨B.q, 0, none⟩)), .int .i64 k] H (fun r H' => r = .bool false ∧ Ext H H') := by
  refine fn_intro 19 Try.func12 rfl Try.ntmps12 rfl ?_
  refine wc_seq ?_
  refine wc_plain ?_
  refine wf_rd _ rfl rfl (RD.assign rfl) rfl ?_
  refine wf_nil ?_
  refine at_thn ?_
  refine wc_seq ?_
  refine wc_plain ?_
  refine wf_rd _ rfl rfl (RD.move rfl) rfl ?_
  refine wf_rd _ rfl rfl (RD.move rfl) rfl ?_
  refine wf_call rfl en16 rfl rfl (settle16_none f H B S Z k h hk) ?_
  rintro _ H1 ⟨rfl, hx1⟩
  refine ⟨trivial, ?_⟩
  refine wf_rd _ rfl rfl (RD.move rfl) rfl ?_
  refine wf_rd _ rfl rfl (RD.extract rfl rfl) rfl ?_
  refine wf_rd _ rfl rfl (RD.extract rfl rfl) rfl ?_
  refine wf_alloc Try.zeroValue35 rfl rfl rfl (fun b5 H2 e5 z2 hb5 hk2 => ⟨trivial, ?_⟩)
  refine wf_storeA rfl rfl Try.sizeOf35 rfl hb5 (CD.one cd0 rfl rfl) rfl (fun H3 z3 hx3 hk3 => ⟨trivial, ?_⟩)
  replace hb5 := hx3
  refine wf_rd _ rfl rfl (RD.assign rfl) rfl ?_
  refine wf_nil ?_
  refine at_thn ?_
  refine wc_seq ?_
  refine wc_seq ?_
  refine wc_plain ?_
  refine wf_rd _ rfl rfl (RD.move rfl) rfl ?_
  refine wf_nil ?_
  refine at_thn ?_
  refine wc_no rfl ?_
  refine wc_skip ?_
  refine at_thn ?_
  refine wc_seq ?_
  refine wc_plain ?_
  refine wf_rd _ rfl rfl (RD.move rfl) rfl ?_
  refine wf_rd _ rfl rfl (RD.assign rfl) rfl ?_
  refine wf_nil ?_
  refine at_thn ?_
  refine wc_ret ?_
  refine at_ret1 rfl rfl ?_
  exact ⟨rfl, (hx1.trans (Ext.new z2 hk2)).wrote z3 hk3 (by have := hx1.size; omega)⟩
set_option maxRecDepth 100000 in
theorem pop9_none (f : Nat) (H : Heap) (B : QB) (S : QS) (Z : Int → Nat → Prop) (h : QInv f H B S Z) (hnil : S.is = []) :
    FN Try.prog 9 [(.pointer (some ⟨B.q, 0, none⟩))] H (fun r H' => r = .tuple [.agg zcells.toArray, .bool false].toArray ∧ Ext H H') := by
  have hq := h.q
  refine fn_intro 33 Try.func9 rfl Try.ntmps9 rfl ?_
  refine wc_seq ?_
  refine wc_plain ?_
  refine wf_alloc Try.zeroValue35 rfl rfl rfl (fun b2 H1 e2 z1 hb2 hk1 => ⟨trivial, ?_⟩)
  have n2_hq := ne_new hq e2
  replace hq := (hk1 _ (lt_of hq)).trans hq
  refine wf_rd _ rfl rfl (RD.assign rfl) rfl ?_
  refine wf_nil ?_
  refine at_thn ?_
  refine wc_seq ?_
  refine wc_plain ?_
  refine wf_rd _ rfl rfl (RD.move rfl) rfl ?_
  refine wf_rd _ rfl rfl (RD.nilCheck rfl) rfl ?_
  refine wf_rd _ rfl rfl (RD.field rfl Try.underlying63 rfl Try.sizeOf59) rfl ?_
  refine wf_rd _ rfl rfl (RD.load rfl (LD.one Try.isAgg59 hq rfl)) rfl ?_
  refine wf_call rfl en28 rfl rfl (pop28_nil H1 B.l B.bm B.v (hnil ▸ h.pile.ext (Ext.new z1 hk1))) ?_
  rintro _ H2 ⟨rfl, hx2⟩
  replace hq := hx2.keep hq
  replace hb2 := hx2.keep hb2
  refine ⟨trivial, ?_⟩
  refine wf_rd _ rfl rfl (RD.move rfl) rfl ?_
  refine wf_rd _ rfl rfl (RD.extract rfl rfl) rfl ?_
  refine wf_rd _ rfl rfl (RD.extract rfl rfl) rfl ?_
  refine wf_alloc Try.zeroValue69 rfl rfl rfl (fun b4 H3 e4 z3 hb4 hk3 => ⟨trivial, ?_⟩)
  have n4_hq := ne_new hq e4
  have n4_hb2 := ne_new hb2 e4
  replace hq := (hk3 _ (lt_of hq)).trans hq
  replace hb2 := (hk3 _ (lt_of hb2)).trans hb2
  refine wf_storeA rfl rfl Try.sizeOf69 rfl hb4 (by simp [Value.oneCell']) rfl (fun H4 z4 hx4 hk4 => ⟨trivial, ?_⟩)
  replace hq := (hk4 _ (by first | assumption | exact Ne.symm (by assumption) | omega)).trans hq
  replace hb2 := (hk4 _ (by first | assumption | exact Ne.symm (by assumption) | omega)).trans hb2
  replace hb4 := hx4
  refine wf_rd _ rfl rfl (RD.assign rfl) rfl ?_
  refine wf_nil ?_
  refine at_thn ?_
  refine wc_seq ?_
  refine wc_seq ?_
  refine wc_plain ?_
  refine wf_rd _ rfl rfl (RD.move rfl) rfl ?_
  refine wf_rd _ rfl rfl (RD.not rfl) rfl ?_
  refine wf_nil ?_
  refine at_thn ?_
  refine wc_yes rfl ?_
  refine wc_seq ?_
  refine wc_plain ?_
  refine wf_rd _ rfl rfl (RD.build rfl built35c) rfl ?_
  refine wf_storeA rfl rfl Try.sizeOf35 rfl hb2 (CD.one cd0 rfl rfl) rfl (fun H5 z5 hx5 hk5 => ⟨trivial, ?_⟩)
  replace hq := (hk5 _ (by first | assumption | exact Ne.symm (by assumption) | omega)).trans hq
  replace hb4 := (hk5 _ (by first | assumption | exact Ne.symm (by assumption) | omega)).trans hb4
  replace hb2 := hx5
  refine wf_rd _ rfl rfl (RD.assign rfl) rfl ?_
  refine wf_nil ?_
  refine at_thn ?_
  refine wc_ret ?_
  refine at_thn_ret ?_
  refine at_ret2 rfl ⟨_, rfl, (LD.all Try.isAgg35 Try.sizeOf35 hb2 rfl)⟩ rfl ?_
  exact ⟨rfl, ((((Ext.new z1 hk1).trans hx2).trans (Ext.new z3 hk3)).wrote z4 hk4 (by have := hx2.size; omega)).wrote z5 hk5 (by omega)⟩
set_option maxRecDepth 100000 in
theorem over15_neg (f : Nat) (H : Heap) (B : QB) (S : QS) (Z : Int → Nat → Prop) (h : QInv f H B S Z) (hneg : S.cf.maxlen < 0) :
    FN Try.prog 15 [(.pointer (some ⟨B.q, 0, none⟩))] H (fun r H' => r = .tuple [.agg zcells.toArray, .bool false].toArray ∧ Ext H H') := by
  have hq := h.q
  refine fn_intro 38 Try.func15 rfl Try.ntmps15 rfl ?_
  refine wc_seq ?_
  refine wc_plain ?_
  refine wf_alloc Try.zeroValue35 rfl rfl rfl (fun b2 H1 e2 z1 hb2 hk1 => ⟨trivial, ?_⟩)
  have n2_hq := ne_new hq e2
  replace hq := (hk1 _ (lt_of hq)).trans hq
  refine wf_rd _ rfl rfl (RD.assign rfl) rfl ?_
  refine wf_nil ?_
  refine at_thn ?_
  refine wc_seq ?_
  refine wc_seq ?_
  refine wc_drawn [(0, 0), (1, 0), (2, 0), (3, 0), (4, 0), (5, 0), (6, 0), (7, 0), (8, 0), (9, 0), (10, 0), (12, 1), (13, 1), (14, 1), (15, 1), (16, 1), (11, 2), (17, 0), (18, 0)] (fun X => X[B.q]? = some (.cells (B.cells S).toArray 63 (0, 0))) (by kernel_rfl) (by kernel_rfl) hq ?_
  refine wf_rd _ rfl rfl (RD.move rfl) rfl ?_
  refine wf_rd _ rfl rfl (RD.nilCheck rfl) rfl ?_
  refine wf_rd _ rfl rfl (RD.field rfl Try.underlying63 rfl Try.sizeOf23) rfl ?_
  refine wf_rd _ rfl rfl (RD.field rfl Try.underlying23 rfl Try.sizeOf3) rfl ?_
  refine wf_rd _ rfl rfl (RD.load rfl (LD.one Try.isAgg3 hq rfl)) rfl ?_
  refine wf_rd _ rfl rfl (RD.cmp true rfl rfl (congrArg some (decide_eq_true hneg))) rfl ?_
  refine wf_rd _ rfl rfl (RD.move rfl) rfl ?_
  refine wf_not rfl rfl rfl ?_
  refine wf_not rfl rfl rfl ?_
  refine wf_not rfl rfl rfl ?_
  refine wf_not rfl rfl rfl ?_
  refine wf_not rfl rfl rfl ?_
  refine wf_not rfl rfl rfl ?_
  refine wf_not rfl rfl rfl ?_
  refine wf_not rfl rfl rfl ?_
  refine wf_not rfl rfl rfl ?_
  refine wf_notE rfl rfl hq ?_
  refine wf_not rfl rfl rfl ?_
  refine wf_rd _ rfl rfl (RD.pickT rfl rfl) rfl ?_
  refine wf_nil ?_
  refine at_thn ?_
  refine wc_yes rfl ?_
  refine wc_seq ?_
  refine wc_plain ?_
  refine wf_rd _ rfl rfl (RD.build rfl built35c) rfl ?_
  refine wf_storeA rfl rfl Try.sizeOf35 rfl hb2 (CD.one cd0 rfl rfl) rfl (fun H2 z2 hx2 hk2 => ⟨trivial, ?_⟩)
  replace hq := (hk2 _ (by first | assumption | exact Ne.symm (by assumption) | omega)).trans hq
  replace hb2 := hx2
  refine wf_rd _ rfl rfl (RD.assign rfl) rfl ?_
  refine wf_nil ?_
  refine at_thn ?_
  refine wc_ret ?_
  refine at_thn_ret ?_
  refine at_ret2 rfl ⟨_, rfl, (LD.all Try.isAgg35 Try.sizeOf35 hb2 rfl)⟩ rfl ?_
  exact ⟨rfl, (Ext.new z1 hk1).wrote z2 hk2 (by omega)⟩
set_option maxRecDepth 100000 in
theorem over15_few (f : Nat) (H : Heap) (B : QB) (S : QS) (Z : Int → Nat → Prop) (h : QInv f H B S Z) (hpos : 0 ≤ S.cf.maxlen) (hfew : (S.is.length : Int) ≤ S.cf.maxlen) :
    FN Try.prog 15 [(.pointer (some ⟨B.q, 0, none⟩))] H (fun r H' => r = .tuple [.agg zcells.toArray, .bool false].toArray ∧ Ext H H') := by
  have hq := h.q
  refine fn_intro 38 Try.func15 rfl Try.ntmps15 rfl ?_
  refine wc_seq ?_
  refine wc_plain ?_
  refine wf_alloc Try.zeroValue35 rfl rfl rfl (fun b2 H1 e2 z1 hb2 hk1 => ⟨trivial, ?_⟩)
  have n2_hq := ne_new hq e2
  replace hq := (hk1 _ (lt_of hq)).trans hq
  refine wf_rd _ rfl rfl (RD.assign rfl) rfl ?_
  refine wf_nil ?_
  refine at_thn ?_
  refine wc_seq ?_
  refine wc_seq ?_
  refine wc_drawn [(0, 0), (1, 0), (2, 0), (3, 0), (4, 0), (5, 0), (6, 0), (7, 0), (8, 0), (9, 0), (10, 0), (12, 1), (13, 1), (14, 1), (15, 1), (16, 1), (11, 2), (17, 0), (18, 0)] (fun X => X[B.q]? = some (.cells (B.cells S).toArray 63 (0, 0))) (by kernel_rfl) (by kernel_rfl) hq ?_
  refine wf_rd _ rfl rfl (RD.move rfl) rfl ?_
  refine wf_rd _ rfl rfl (RD.nilCheck rfl) rfl ?_
  refine wf_rd _ rfl rfl (RD.field rfl Try.underlying63 rfl Try.sizeOf23) rfl ?_
  refine wf_rd _ rfl rfl (RD.field rfl Try.underlying23 rfl Try.sizeOf3) rfl ?_
  refine wf_rd _ rfl rfl (RD.load rfl (LD.one Try.isAgg3 hq rfl)) rfl ?_
  refine wf_rd _ rfl rfl (RD.cmp false rfl rfl (congrArg some (decide_eq_false (by show ¬ S.cf.maxlen < 0; omega)))) rfl ?_
  refine wf_rd _ rfl rfl (RD.move rfl) rfl ?_
  refine wf_rd _ rfl rfl (RD.move rfl) rfl ?_
  refine wf_rd _ rfl rfl (RD.nilCheck rfl) rfl ?_
  refine wf_rd _ rfl rfl (RD.field rfl Try.underlying63 rfl Try.sizeOf59) rfl ?_
  refine wf_rd _ rfl rfl (RD.load rfl (LD.one Try.isAgg59 hq rfl)) rfl ?_
  refine wf_su _ rfl rfl (fun _ hC => (RD.move rfl)) ?_
  refine wf_su _ rfl rfl (fun _ hC => (RD.nilCheck rfl)) ?_
  refine wf_su _ rfl rfl (fun _ hC => (RD.field rfl Try.underlying63 rfl Try.sizeOf23)) ?_
  refine wf_su _ rfl rfl (fun _ hC => (RD.field rfl Try.underlying23 rfl Try.sizeOf3)) ?_
  refine wf_su _ rfl rfl (fun _ hC => (RD.load rfl (LD.one Try.isAgg3 hC rfl))) ?_
  refine wf_call rfl en29 rfl rfl (len29 H1 B.l B.bm B.v S.is (h.pile.ext (Ext.new z1 hk1))) ?_
  rintro _ _ ⟨rfl, rfl⟩
  refine ⟨hq, ?_⟩
  refine wf_rd _ rfl rfl (RD.cmp true rfl rfl (congrArg some (decide_eq_true hfew))) rfl ?_
  refine wf_rd _ rfl rfl (RD.pickF rfl rfl) rfl ?_
  refine wf_nil ?_
  refine at_thn ?_
  refine wc_yes rfl ?_
  refine wc_seq ?_
  refine wc_plain ?_
  refine wf_rd _ rfl rfl (RD.build rfl built35c) rfl ?_
  refine wf_storeA rfl rfl Try.sizeOf35 rfl hb2 (CD.one cd0 rfl rfl) rfl (fun H2 z2 hx2 hk2 => ⟨trivial, ?_⟩)
  replace hq := (hk2 _ (by first | assumption | exact Ne.symm (by assumption) | omega)).trans hq
  replace hb2 := hx2
  refine wf_rd _ rfl rfl (RD.assign rfl) rfl ?_
  refine wf_nil ?_
  refine at_thn ?_
  refine wc_ret ?_
  refine at_thn_ret ?_
  refine at_ret2 rfl ⟨_, rfl, (LD.all Try.isAgg35 Try.sizeOf35 hb2 rfl)⟩ rfl ?_
  exact ⟨rfl, (Ext.new z1 hk1).wrote z2 hk2 (by omega)⟩
set_option maxRecDepth 100000 in
theorem over15 (f : Nat) (H : Heap) (B : QB) (S : QS) (Z : Int → Nat → Prop) (a : It) (d : CD) (h : QInv f H B S Z) (hpos : 0 ≤ S.cf.maxlen) (hmany : S.cf.maxlen < (S.is.length : Int)) (ha : S.is[0]? = some a) (hd : S.cp a.s = some d) (hlt : S.is.length ≤ 4194304) :
    FN Try.prog 15 [(.pointer (some ⟨B.q, 0, none⟩))] H (fun r H' => ∃ (cs : List Value) (js : List It) (v' : Value), r = .tuple [.agg cs.toArray, .bool true].toArray ∧ RC f H' (Z a.s) cs d ∧ Gone S.is a js ∧
      QInv f H' { B with v := v' } { S with is := js, cp := putF S.cp a.s none } Z ∧ mov H B.v v' ∧ Frm B.mut H H') := by
  have hq := h.q
  refine fn_intro 38 Try.func15 rfl Try.ntmps15 rfl ?_
  refine wc_seq ?_
  refine wc_plain ?_
  refine wf_alloc Try.zeroValue35 rfl rfl rfl (fun b2 H1 e2 z1 hb2 hk1 => ⟨trivial, ?_⟩)
  have n2_hq := ne_new hq e2
  replace hq := (hk1 _ (lt_of hq)).trans hq
  refine wf_rd _ rfl rfl (RD.assign rfl) rfl ?_
  refine wf_nil ?_
  refine at_thn ?_
  refine wc_seq ?_
  refine wc_seq ?_
  refine wc_drawn [(0, 0), (1, 0), (2, 0), (3, 0), (4, 0), (5, 0), (6, 0), (7, 0), (8, 0), (9, 0), (10, 0), (12, 1), (13, 1), (14, 1), (15, 1), (16, 1), (11, 2), (17, 0), (18, 0)] (fun X => X[B.q]? = some (.cells (B.cells S).toArray 63 (0, 0))) (by kernel_rfl) (by kernel_rfl) hq ?_
  refine wf_rd _ rfl rfl (RD.move rfl) rfl ?_
  refine wf_rd _ rfl rfl (RD.nilCheck rfl) rfl ?_
  refine wf_rd _ rfl rfl (RD.field rfl Try.underlying63 rfl Try.sizeOf23) rfl ?_
  refine wf_rd _ rfl rfl (RD.field rfl Try.underlying23 rfl Try.sizeOf3) rfl ?_
  refine wf_rd _ rfl rfl (RD.load rfl (LD.one Try.isAgg3 hq rfl)) rfl ?_
  refine wf_rd _ rfl rfl (RD.cmp false rfl rfl (congrArg some (decide_eq_false (by show ¬ S.cf.maxlen < 0; omega)))) rfl ?_
  refine wf_rd _ rfl rfl (RD.move rfl) rfl ?_
  refine wf_rd _ rfl rfl (RD.move rfl) rfl ?_
  refine wf_rd _ rfl rfl (RD.nilCheck rfl) rfl ?_
  refine wf_rd _ rfl rfl (RD.field rfl Try.underlying63 rfl Try.sizeOf59) rfl ?_
  refine wf_rd _ rfl rfl (RD.load rfl (LD.one Try.isAgg59 hq rfl)) rfl ?_
  refine wf_su _ rfl rfl (fun _ hC => (RD.move rfl)) ?_
  refine wf_su _ rfl rfl (fun _ hC => (RD.nilCheck rfl)) ?_
  refine wf_su _ rfl rfl (fun _ hC => (RD.field rfl Try.underlying63 rfl Try.sizeOf23)) ?_
  refine wf_su _ rfl rfl (fun _ hC => (RD.field rfl Try.underlying23 rfl Try.sizeOf3)) ?_
  refine wf_su _ rfl rfl (fun _ hC => (RD.load rfl (LD.one Try.isAgg3 hC rfl))) ?_
  refine wf_call rfl en29 rfl rfl (len29 H1 B.l B.bm B.v S.is (h.pile.ext (Ext.new z1 hk1))) ?_
  rintro _ _ ⟨rfl, rfl⟩
  refine ⟨hq, ?_⟩
  refine wf_rd _ rfl rfl (RD.cmp false rfl rfl (congrArg some (decide_eq_false (by show ¬ (S.is.length : Int) ≤ S.cf.maxlen; omega)))) rfl ?_
  refine wf_rd _ rfl rfl (RD.pickF rfl rfl) rfl ?_
  refine wf_nil ?_
  refine at_thn ?_
  refine wc_no rfl ?_
  refine wc_skip ?_
  refine at_thn ?_
  refine wc_seq ?_
  refine wc_plain ?_
  refine wf_rd _ rfl rfl (RD.move rfl) rfl ?_
  refine wf_rd _ rfl rfl (RD.nilCheck rfl) rfl ?_
  refine wf_rd _ rfl rfl (RD.field rfl Try.underlying63 rfl Try.sizeOf59) rfl ?_
  refine wf_rd _ rfl rfl (RD.load rfl (LD.one Try.isAgg59 hq rfl)) rfl ?_
  refine wf_call rfl en28 rfl rfl (pop28 H1 B.l B.bm B.v S.is a (h.pile.ext (Ext.new z1 hk1)) h.heap ha hlt) ?_
  rintro _ H2 ⟨js, v', rfl, hv', hp2, hg2, hf2⟩
  have hB := (h.ext (Ext.new z1 hk1)).pileTo hv' hp2 hg2.heap hf2
  replace hq := hf2.keep hq h.ok.npm.1
  replace hb2 := hf2.keep hb2 (fun hm => by have := h.lt (pm_mut _ hm); omega)
  have hm := hv'.mono (H := H) (by omega)
  refine ⟨trivial, ?_⟩
  refine wf_rd _ rfl rfl (RD.move rfl) rfl ?_
  refine wf_rd _ rfl rfl (RD.extract rfl rfl) rfl ?_
  refine wf_rd _ rfl rfl (RD.extract rfl rfl) rfl ?_
  refine wf_alloc Try.zeroValue69 rfl rfl rfl (fun b4 H3 e4 z3 hb4 hk3 => ⟨trivial, ?_⟩)
  have n4_hq := ne_new hq e4
  have n4_hb2 := ne_new hb2 e4
  replace hq := (hk3 _ (lt_of hq)).trans hq
  replace hb2 := (hk3 _ (lt_of hb2)).trans hb2
  refine wf_storeA rfl rfl Try.sizeOf69 rfl hb4 a.ones rfl (fun H4 z4 hx4 hk4 => ⟨trivial, ?_⟩)
  replace hq := (hk4 _ (by first | assumption | exact Ne.symm (by assumption) | omega)).trans hq
  replace hb2 := (hk4 _ (by first | assumption | exact Ne.symm (by assumption) | omega)).trans hb2
  replace hb4 := hx4
  refine wf_rd _ rfl rfl (RD.assign rfl) rfl ?_
  refine wf_nil ?_
  refine at_thn ?_
  refine wc_seq ?_
  refine wc_plain ?_
  refine wf_rd _ rfl rfl (RD.move rfl) rfl ?_
  refine wf_rd _ rfl rfl (RD.field rfl Try.underlying69 rfl Try.sizeOf3) rfl ?_
  refine wf_rd _ rfl rfl (RD.load rfl (LD.one Try.isAgg3 hb4 rfl)) rfl ?_
  have hx4 : Ext H2 H4 := (Ext.new z3 hk3).wrote z4 hk4 (by omega)
  refine wf_call rfl en33 rfl rfl (leave33 f H4 { B with v := v' } _ Z a.s d (hB.ext hx4) hd) ?_
  rintro _ H5 ⟨cs, rfl, hrc, hC, hf5⟩
  have hone := hrc.one
  have hlen := hrc.len
  have hm2 : ∀ b, ({ B with v := v' } : QB).mut b → b ≠ b2 := fun b hb e => by
    have h9 := mut_mov hv' b (by have := lt_of hb2; omega) hb
    have := h.lt h9; omega
  replace hb2 := hf5.keep hb2 (fun hm => hm2 _ hm rfl)
  refine ⟨trivial, ?_⟩
  refine wf_storeA rfl rfl (fun w => by rw [hlen]; exact Try.sizeOf35 w) rfl hb2 hone (by rw [hlen]; rfl) (fun H6 z6 hx6 hk6 => ⟨trivial, ?_⟩)
  replace hb2 := hx6
  refine wf_rd _ rfl rfl (RD.assign rfl) rfl ?_
  refine wf_nil ?_
  refine at_thn ?_
  refine wc_ret ?_
  refine at_ret2 rfl ⟨_, rfl, (LD.all Try.isAgg35 Try.sizeOf35 hb2 hlen)⟩ rfl ?_
  have hfw : Frm (fun b => b = b2) H5 H6 := Frm.wrote z6 hk6 (fun _ => rfl)
  have n2 : ∀ b, ({ B with v := v' } : QB).mut b ∨ zn Z b → b ≠ b2 := fun b hb e => by
    rcases hb with hb | hb
    · exact hm2 b hb e
    · obtain ⟨kz, hb⟩ := hb; have := (h.z kz b hb).1; omega
  have f14 : Frm B.mut H H4 := (((Ext.new z1 hk1).frm B.mut).trans (hf2.mono (fun j _ hj => pm_mut j hj))).trans (hx4.frm _)
  have hf6 : Frm B.mut H H6 := (f14.trans' hf5 (fun b hb hm => mut_mov hv' b (by omega) hm)).trans' hfw (fun b hb e => absurd hb (by omega))
  exact ⟨cs, js, v', rfl, RC.mono f _ _ _ _ _ _ (fun b hb => hk6 b (n2 b (.inr ⟨_, hb⟩))) (fun _ h => h) hrc, hg2, hC.frm hfw n2, hm, hf6⟩
end Go.Proofs.Ytfomnjippakjpaa
