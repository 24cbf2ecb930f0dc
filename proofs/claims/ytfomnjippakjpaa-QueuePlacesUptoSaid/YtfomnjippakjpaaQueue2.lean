/-
  Contracts of functions of the given program, at the blocks of memory that they read and write.
-/
import Derived.Test.YtfomnjippakjpaaQueue
import Derived.Test.YtfomnjippakjpaaRows
namespace Go.Proofs.Ytfomnjippakjpaa
open Go.S

set_option maxRecDepth 100000 in
theorem leave33 (f : Nat) (H : Heap) (B : QB) (S : QS) (Z : Int → Nat → Prop) (k : Int) (d : CD) (h : QInv f H B S Z) (hd : S.cp k = some d) :
    FN Try.prog 33 [(.pointer (some ⟨B.q, 0, none⟩)), .int .i64 k] H (fun r H' => ∃ cs : List Value, r = .agg cs.toArray ∧ RC f H' (Z k) cs d ∧ QInv f H' B { S with cp := putF S.cp k none } Z ∧ Frm B.mut H H') := by
  have hq := h.q
  obtain ⟨es, c, hcp, hcM, hcC⟩ := h.cp
  obtain ⟨cs, hlk, hh, ht, rfl, hhr, htr, hl1, hl2⟩ := hcC.get hd
  have hcp0 := hcp
  refine fn_intro 18 Try.func33 rfl Try.ntmps33 rfl ?_
  refine wc_seq ?_
  refine wc_plain ?_
  refine wf_alloc Try.zeroValue35 rfl rfl rfl (fun b4 H1 e4 z1 hb4 hk1 => ⟨trivial, ?_⟩)
  have n4_hq := ne_new hq e4
  have n4_hcp := ne_new hcp e4
  replace hq := (hk1 _ (lt_of hq)).trans hq
  replace hcp := (hk1 _ (lt_of hcp)).trans hcp
  refine wf_nil ?_
  refine at_thn ?_
  refine wc_seq ?_
  refine wc_plain ?_
  refine wf_rd _ rfl rfl (RD.move rfl) rfl ?_
  refine wf_rd _ rfl rfl (RD.nilCheck rfl) rfl ?_
  refine wf_rd _ rfl rfl (RD.field rfl Try.underlying63 rfl Try.sizeOf58) rfl ?_
  refine wf_rd _ rfl rfl (RD.load rfl (LD.one Try.isAgg58 hq rfl)) rfl ?_
  refine wf_rd _ rfl rfl (RD.move rfl) rfl ?_
  refine wf_rd _ rfl rfl (RD.lkY (k := k) rfl rfl Try.underlying58 Try.underlying3 hcp hcM hlk) rfl ?_
  refine wf_alloc Try.zeroValue35 rfl rfl rfl (fun b5 H2 e5 z2 hb5 hk2 => ⟨trivial, ?_⟩)
  have n5_hq := ne_new hq e5
  have n5_hcp := ne_new hcp e5
  have n5_hb4 := ne_new hb4 e5
  replace hq := (hk2 _ (lt_of hq)).trans hq
  replace hcp := (hk2 _ (lt_of hcp)).trans hcp
  replace hb4 := (hk2 _ (lt_of hb4)).trans hb4
  refine wf_storeA rfl rfl Try.sizeOf35 rfl hb5 (d.one (RSl.one hhr) (RSl.one htr)) rfl (fun H3 z3 hx3 hk3 => ⟨trivial, ?_⟩)
  replace hq := (hk3 _ (by first | assumption | exact Ne.symm (by assumption) | omega)).trans hq
  replace hcp := (hk3 _ (by first | assumption | exact Ne.symm (by assumption) | omega)).trans hcp
  replace hb4 := (hk3 _ (by first | assumption | exact Ne.symm (by assumption) | omega)).trans hb4
  replace hb5 := hx3
  refine wf_nil ?_
  refine at_thn ?_
  refine wc_seq ?_
  refine wc_plain ?_
  refine wf_rd _ rfl rfl (RD.move rfl) rfl ?_
  refine wf_rd _ rfl rfl (RD.nilCheck rfl) rfl ?_
  refine wf_rd _ rfl rfl (RD.field rfl Try.underlying63 rfl Try.sizeOf58) rfl ?_
  refine wf_rd _ rfl rfl (RD.load rfl (LD.one Try.isAgg58 hq rfl)) rfl ?_
  refine wf_rd _ rfl rfl (RD.move rfl) rfl ?_
  refine wf_del (k := k) rfl rfl rfl rfl Try.underlying58 Try.underlying3 hcp hcM (fun H5 es5 c5 z5 hm5 hk5 dl5 => ⟨trivial, ?_⟩)
  replace hb4 := (hk5 _ (ne_map hb4 hcp)).trans hb4
  replace hb5 := (hk5 _ (ne_map hb5 hcp)).trans hb5
  refine wf_nil ?_
  refine at_thn ?_
  refine wc_seq ?_
  refine wc_plain ?_
  refine wf_rd _ rfl rfl (RD.load rfl (LD.all Try.isAgg35 Try.sizeOf35 hb5 rfl)) rfl ?_
  refine wf_storeA rfl rfl Try.sizeOf35 rfl hb4 (d.one (RSl.one hhr) (RSl.one htr)) rfl (fun H6 z6 hx6 hk6 => ⟨trivial, ?_⟩)
  replace hb5 := (hk6 _ (by first | assumption | exact Ne.symm (by assumption) | omega)).trans hb5
  replace hb4 := hx6
  refine wf_nil ?_
  refine at_thn ?_
  refine wc_ret ?_
  refine at_ret1 rfl ⟨_, rfl, (LD.all Try.isAgg35 Try.sizeOf35 hb4 rfl)⟩ ?_
  have hx3 : Ext H H3 := ((Ext.new z1 hk1).trans (Ext.new z2 hk2)).wrote z3 hk3 (by omega)
  have hfc : Frm (fun b => b = B.bc) H H6 := ((hx3.frm (fun b => b = B.bc)).trans (Frm.wrote z5 hk5 (fun _ => rfl))).trans' (Frm.wrote (M := fun b => b = b4) z6 hk6 (fun _ => rfl)) (fun b hb e => absurd hb (by omega))
  have m1 : B.mut B.bc := .inr (.inr (.inr (.inl rfl)))
  have hm6 := (hk6 B.bc (fun e => by have := lt_of hcp0; omega)).trans hm5
  have zk : ∀ b, Z k b → H6[b]? = H[b]? := fun b hb => hfc.old b (h.z k b hb).1 (fun e => (h.z k b hb).2 (e ▸ m1))
  exact ⟨_, rfl, ⟨hh, ht, rfl, hhr.mono zk (fun _ h => h), htr.mono zk (fun _ h => h), hl1, hl2⟩, h.cpTo hfc hm6 dl5.mi (hcC.del dl5), hfc.mono (fun b _ e => e ▸ m1)⟩
set_option maxRecDepth 100000 in
theorem settle16 (f : Nat) (H : Heap) (B : QB) (S : QS) (Z : Int → Nat → Prop) (k : Int) (d : CD) (h : QInv f H B S Z) (hd : S.cp k = some d) (hk : k ∈ S.ou) :
    FN Try.prog 16 [(.pointer (some ⟨B.q, 0, none⟩)), .int .i64 k] H (fun r H' => ∃ cs : List Value, r = .tuple [.agg cs.toArray, .bool true].toArray ∧ RC f H' (Z k) cs d ∧ QInv f H' B { S with ou := S.ou.erase k, cp := putF S.cp k none } Z ∧ Frm B.mut H H') := by
  have hq := h.q
  obtain ⟨eo, c, hou, hoM, hoO⟩ := h.ou
  have hlk : Go.S.look eo k = some (.int .i64 1) := by rw [hoO.1, if_pos hk]
  refine fn_intro 22 Try.func16 rfl Try.ntmps16 rfl ?_
  refine wc_seq ?_
  refine wc_plain ?_
  refine wf_alloc Try.zeroValue35 rfl rfl rfl (fun b4 H1 e4 z1 hb4 hk1 => ⟨trivial, ?_⟩)
  have n4_hq := ne_new hq e4
  have n4_hou := ne_new hou e4
  replace hq := (hk1 _ (lt_of hq)).trans hq
  replace hou := (hk1 _ (lt_of hou)).trans hou
  refine wf_rd _ rfl rfl (RD.assign rfl) rfl ?_
  refine wf_nil ?_
  refine at_thn ?_
  refine wc_seq ?_
  refine wc_seq ?_
  refine wc_plain ?_
  refine wf_rd _ rfl rfl (RD.move rfl) rfl ?_
  refine wf_rd _ rfl rfl (RD.nilCheck rfl) rfl ?_
  refine wf_rd _ rfl rfl (RD.field rfl Try.underlying63 rfl Try.sizeOf61) rfl ?_
  refine wf_rd _ rfl rfl (RD.load rfl (LD.one Try.isAgg61 hq rfl)) rfl ?_
  refine wf_rd _ rfl rfl (RD.move rfl) rfl ?_
  refine wf_rd _ rfl rfl (RD.lkY (k := k) rfl rfl Try.underlying61 Try.underlying3 hou hoM hlk) rfl ?_
  refine wf_rd _ rfl rfl (RD.cmp false rfl rfl rfl) rfl ?_
  refine wf_nil ?_
  refine at_thn ?_
  refine wc_no rfl ?_
  refine wc_skip ?_
  refine at_thn ?_
  refine wc_seq ?_
  refine wc_plain ?_
  refine wf_rd _ rfl rfl (RD.move rfl) rfl ?_
  refine wf_rd _ rfl rfl (RD.nilCheck rfl) rfl ?_
  refine wf_rd _ rfl rfl (RD.field rfl Try.underlying63 rfl Try.sizeOf61) rfl ?_
  refine wf_rd _ rfl rfl (RD.load rfl (LD.one Try.isAgg61 hq rfl)) rfl ?_
  refine wf_rd _ rfl rfl (RD.move rfl) rfl ?_
  refine wf_del (k := k) rfl rfl rfl rfl Try.underlying61 Try.underlying3 hou hoM (fun H2 es2 c2 z2 hm2 hk2 dl2 => ⟨trivial, ?_⟩)
  replace hq := (hk2 _ h.ok.qo).trans hq
  replace hb4 := (hk2 _ (ne_map hb4 hou)).trans hb4
  refine wf_nil ?_
  refine at_thn ?_
  refine wc_seq ?_
  refine wc_plain ?_
  refine wf_rd _ rfl rfl (RD.move rfl) rfl ?_
  refine wf_rd _ rfl rfl (RD.move rfl) rfl ?_
  have hfo : Frm (fun b => b = B.bo) H H2 := ((Ext.new z1 hk1).frm (fun b => b = B.bo)).trans (Frm.wrote z2 hk2 (fun _ => rfl))
  have h2 := h.ouTo hfo hm2 dl2.mi (hoO.del hk dl2)
  have mo : B.mut B.bo := .inr (.inr (.inr (.inr (.inl rfl))))
  refine wf_call rfl en33 rfl rfl (leave33 f H2 B { S with ou := S.ou.erase k } Z k d h2 hd) ?_
  rintro _ H3 ⟨cs, rfl, hc3, h3, hf3⟩
  have hb4s : b4 < H3.size := by have := hf3.size; have := lt_of hb4; omega
  replace hb4 := hf3.keep hb4 (fun hm => by have := h.lt hm; omega)
  have hco := hc3.one
  have hcl := hc3.len
  refine ⟨trivial, ?_⟩
  refine wf_storeA rfl rfl (hcl ▸ Try.sizeOf35) rfl hb4 hco (by rw [hcl]; rfl) (fun H4 z4 hx4 hk4 => ⟨trivial, ?_⟩)
  replace hb4 := hx4
  refine wf_rd _ rfl rfl (RD.assign rfl) rfl ?_
  refine wf_nil ?_
  refine at_thn ?_
  refine wc_ret ?_
  refine at_ret2 rfl ⟨_, rfl, (LD.all Try.isAgg35 Try.sizeOf35 hb4 hcl)⟩ rfl ?_
  have n4 : ∀ b, B.mut b ∨ zn Z b → b ≠ b4 := fun b hb => by have := h.old hb; omega
  have hfw : Frm (fun b => b = b4) H3 H4 := Frm.wrote z4 hk4 (fun _ => rfl)
  have hf4 : Frm B.mut H H4 := ((hfo.mono (fun b _ e => e ▸ mo)).trans hf3).trans' hfw (fun b hb e => absurd hb (by omega))
  exact ⟨cs, rfl, RC.mono f _ _ _ _ _ _ (fun b hb => hk4 b (n4 b (.inr ⟨k, hb⟩))) (fun _ h => h) hc3, h3.frm hfw n4, hf4⟩
set_option maxRecDepth 100000 in
theorem return12 (f : Nat) (H : Heap) (B : QB) (S : QS) (Z : Int → Nat → Prop) (k : Int) (d : CD) (h : QInv f H B S Z) (hd : S.cp k = some d) (hk : k ∈ S.ou) (hdseq : d.seq = k) (hn : ∀ b ∈ S.is, b.s ≠ k) (hlt : S.is.length < 4194304) :
    FN Try.prog 12 [(.pointer (some ⟨B.q, 0, none⟩)), .int .i64 k] H (fun r H' => r = .bool true ∧ ∃ S' v', QInv f H' { B with v := v' } S' Z ∧ Came { S with ou := S.ou.erase k, cp := putF S.cp k none } { d with red := true } S' ∧ mov H B.v v' ∧ Frm B.mut H H') := by
  refine fn_intro 19 Try.func12 rfl Try.ntmps12 rfl ?_
  refine wc_seq ?_
  refine wc_plain ?_
  refine wf_rd _ rfl rfl (RD.assign rfl) rfl ?_
  refine wf_nil ?_
  refine at_thn ?_
  refine wc_seq ?_
  refine wc_plain ?_
  refine wf_rd _ rfl rfl (RD.move rfl) rfl ?_
  refine wf_rd _ rfl rfl (RD.move rfl) rfl ?_
  refine wf_call rfl en16 rfl rfl (settle16 f H B S Z k d h hd hk) ?_
  rintro _ H1 ⟨cs, rfl, hc1, h1, hf1⟩
  obtain ⟨hh, ht, rfl, hhr, htr, hl1, hl2⟩ := hc1
  have hone := d.one (RSl.one hhr) (RSl.one htr)
  refine ⟨trivial, ?_⟩
  refine wf_rd _ rfl rfl (RD.move rfl) rfl ?_
  refine wf_rd _ rfl rfl (RD.extract rfl rfl) rfl ?_
  refine wf_rd _ rfl rfl (RD.extract rfl rfl) rfl ?_
  refine wf_alloc Try.zeroValue35 rfl rfl rfl (fun b5 H2 e5 z2 hb5 hk2 => ⟨trivial, ?_⟩)
  refine wf_storeA rfl rfl Try.sizeOf35 rfl hb5 hone rfl (fun H3 z3 hx3 hk3 => ⟨trivial, ?_⟩)
  replace hb5 := hx3
  refine wf_rd _ rfl rfl (RD.assign rfl) rfl ?_
  refine wf_nil ?_
  refine at_thn ?_
  refine wc_seq ?_
  refine wc_seq ?_
  refine wc_plain ?_
  refine wf_rd _ rfl rfl (RD.move rfl) rfl ?_
  refine wf_nil ?_
  refine at_thn ?_
  refine wc_yes rfl ?_
  refine wc_seq ?_
  refine wc_plain ?_
  refine wf_rd _ rfl rfl (RD.field rfl Try.underlying35 rfl Try.sizeOf4) rfl ?_
  refine wf_store1 rfl rfl Try.sizeOf4 rfl hb5 (by first | rfl | assumption) (Nat.le_of_ble_eq_true rfl) (fun H4 z4 hx4 hk4 => ⟨trivial, ?_⟩)
  replace hb5 := hx4
  refine wf_nil ?_
  refine at_thn ?_
  refine wc_plain ?_
  refine wf_rd _ rfl rfl (RD.move rfl) rfl ?_
  refine wf_rd _ rfl rfl (RD.load rfl (LD.all Try.isAgg35 Try.sizeOf35 hb5 rfl)) rfl ?_
  have hx4 : Ext H1 H4 := ((Ext.new z2 hk2).wrote z3 hk3 (by omega)).wrote z4 hk4 (by omega)
  have hz4 : ∀ b, Z k b → H4[b]? = H1[b]? := fun b hb => hx4.old b (h1.z k b hb).1
  have hz5 : ∀ b, Z k b → Z d.seq b := fun b hb => by rw [hdseq]; exact hb
  refine wf_call rfl en26 rfl rfl (stand26 f H4 B _ Z _ { d with red := true } (h1.ext hx4) ⟨hh, ht, rfl, hhr.mono hz4 hz5, htr.mono hz4 hz5, hl1, hl2⟩ (fun b hb => hdseq ▸ hn b hb) hlt) ?_
  rintro _ H5 ⟨S', v', hq5, hc5, hm5, hf5⟩
  refine ⟨trivial, ?_⟩
  refine wf_nil ?_
  refine at_thn ?_
  refine wc_seq ?_
  refine wc_plain ?_
  refine wf_rd _ rfl rfl (RD.move rfl) rfl ?_
  refine wf_rd _ rfl rfl (RD.assign rfl) rfl ?_
  refine wf_nil ?_
  refine at_thn ?_
  refine wc_ret ?_
  refine at_ret1 rfl rfl ?_
  exact ⟨rfl, S', v', hq5, hc5, hm5.mono (Nat.le_trans hf1.size hx4.size), ((hf1.trans (hx4.frm B.mut)).trans hf5)⟩
set_option maxRecDepth 100000 in
theorem pop9 (f : Nat) (H : Heap) (B : QB) (S : QS) (Z : Int → Nat → Prop) (a : It) (d : CD) (h : QInv f H B S Z) (ha : S.is[0]? = some a) (hd : S.cp a.s = some d) (hno : a.s ∉ S.ou) (hlt : S.is.length ≤ 4194304) :
    FN Try.prog 9 [(.pointer (some ⟨B.q, 0, none⟩))] H (fun r H' => ∃ (cs : List Value) (js : List It) (v' : Value), r = .tuple [.agg cs.toArray, .bool true].toArray ∧ RC f H' (fun b => H.size ≤ b ∧ b < H'.size) cs d ∧ Gone S.is a js ∧
      QInv f H' { B with v := v' } { S with is := js, ou := S.ou ++ [a.s] } Z ∧ mov H B.v v' ∧ Frm B.mut H H') := by
  have hq := h.q
  refine fn_intro 33 Try.func9 rfl Try.ntmps9 rfl ?_
  refine wc_seq ?_
  refine wc_plain ?_
  refine wf_alloc Try.zeroValue35 rfl rfl rfl (fun b2 H1 e2 z1 hb2 hk1 => ⟨trivial, ?_⟩)
  have n2_hq := ne_new hq e2
  replace hq := (hk1 _ (lt_of hq)).trans hq
  refine wf_rd _ rfl rfl (RD.assign rfl) rfl ?_
  refine wf_nil ?_
  refine at_thn ?_
  refine wc_seq ?_
  refine wc_plain ?_
  refine wf_rd _ rfl rfl (RD.move rfl) rfl ?_
  refine wf_rd _ rfl rfl (RD.nilCheck rfl) rfl ?_
  refine wf_rd _ rfl rfl (RD.field rfl Try.underlying63 rfl Try.sizeOf59) rfl ?_
  refine wf_rd _ rfl rfl (RD.load rfl (LD.one Try.isAgg59 hq rfl)) rfl ?_
  refine wf_call rfl en28 rfl rfl (pop28 H1 B.l B.bm B.v S.is a (h.pile.ext (Ext.new z1 hk1)) h.heap ha hlt) ?_
  rintro _ H2 ⟨js, v', rfl, hv', hp2, hg2, hf2⟩
  have hB := (h.ext (Ext.new z1 hk1)).pileTo hv' hp2 hg2.heap hf2
  replace hq := hf2.keep hq h.ok.npm.1
  replace hb2 := hf2.keep hb2 (fun hm => by have := h.lt (pm_mut _ hm); omega)
  have hm := hv'.mono (H := H) (by omega)
  refine ⟨trivial, ?_⟩
  refine wf_rd _ rfl rfl (RD.move rfl) rfl ?_
  refine wf_rd _ rfl rfl (RD.extract rfl rfl) rfl ?_
  refine wf_rd _ rfl rfl (RD.extract rfl rfl) rfl ?_
  refine wf_alloc Try.zeroValue69 rfl rfl rfl (fun b4 H3 e4 z3 hb4 hk3 => ⟨trivial, ?_⟩)
  have n4_hq := ne_new hq e4
  have n4_hb2 := ne_new hb2 e4
  replace hq := (hk3 _ (lt_of hq)).trans hq
  replace hb2 := (hk3 _ (lt_of hb2)).trans hb2
  refine wf_storeA rfl rfl Try.sizeOf69 rfl hb4 a.ones rfl (fun H4 z4 hx4 hk4 => ⟨trivial, ?_⟩)
  replace hq := (hk4 _ (by first | assumption | exact Ne.symm (by assumption) | omega)).trans hq
  replace hb2 := (hk4 _ (by first | assumption | exact Ne.symm (by assumption) | omega)).trans hb2
  replace hb4 := hx4
  refine wf_rd _ rfl rfl (RD.assign rfl) rfl ?_
  refine wf_nil ?_
  refine at_thn ?_
  refine wc_seq ?_
  refine wc_seq ?_
  refine wc_plain ?_
  refine wf_rd _ rfl rfl (RD.move rfl) rfl ?_
  refine wf_rd _ rfl rfl (RD.not rfl) rfl ?_
  obtain ⟨eo, co, hou0, hoM, hoO⟩ := hB.ou
  have hou : H4[B.bo]? = some (.map eo.toArray co) := ((hk4 _ (fun e => by have := lt_of hou0; omega)).trans (hk3 _ (lt_of hou0))).trans hou0
  have hlk : Go.S.look eo a.s = none := by rw [hoO.1]; exact if_neg hno
  refine wf_nil ?_
  refine at_thn ?_
  refine wc_no rfl ?_
  refine wc_skip ?_
  refine at_thn ?_
  refine wc_seq ?_
  refine wc_drawn [(0, 0), (1, 0), (2, 0), (3, 0), (4, 0), (5, 0), (6, 0), (7, 0), (8, 3)] (fun _ => True) (by kernel_rfl) (by kernel_rfl) trivial ?_
  refine wf_rd _ rfl rfl (RD.move rfl) rfl ?_
  refine wf_rd _ rfl rfl (RD.nilCheck rfl) rfl ?_
  refine wf_rd _ rfl rfl (RD.field rfl Try.underlying63 rfl Try.sizeOf61) rfl ?_
  refine wf_rd _ rfl rfl (RD.load rfl (LD.one Try.isAgg61 hq rfl)) rfl ?_
  refine wf_rd _ rfl rfl (RD.field rfl Try.underlying69 rfl Try.sizeOf3) rfl ?_
  refine wf_rd _ rfl rfl (RD.load rfl (LD.one Try.isAgg3 hb4 rfl)) rfl ?_
  refine wf_rd _ rfl rfl (RD.lkN (k := a.s) rfl rfl Try.underlying61 Try.underlying3 hou hoM Try.zeroValue3 hlk) rfl ?_
  refine wf_rd _ rfl rfl (RD.cast (q := 1) (RD.add64 rfl rfl (by omega)) rfl) rfl ?_
  refine wf_put (k := a.s) (v := .int .i64 1) rfl rfl rfl rfl Try.underlying61 Try.underlying3 hou hoM (fun H5 es5 c5 z5 hm5 hk5 pt5 => ⟨trivial, ?_⟩)
  replace hq := (hk5 _ h.ok.qo).trans hq
  replace hb2 := (hk5 _ (ne_map hb2 hou)).trans hb2
  replace hb4 := (hk5 _ (ne_map hb4 hou)).trans hb4
  have hD := hB.ouTo (((Ext.new z3 hk3).wrote z4 hk4 (by omega)).frm (fun b => b = B.bo) |>.trans (Frm.wrote z5 hk5 (fun _ => rfl))) hm5 pt5.mi (hoO.put hno pt5)
  obtain ⟨ec, cc, hcp, hcM, hcC⟩ := hD.cp
  obtain ⟨csd, hck, hcr⟩ := hcC.get hd
  refine wf_nil ?_
  refine at_thn ?_
  refine wc_seq ?_
  refine wc_drawn [(0, 0), (1, 0), (2, 0), (3, 0), (4, 0), (5, 0), (6, 0), (7, 3), (8, 3), (9, 0)] (fun _ => True) (by kernel_rfl) (by kernel_rfl) trivial ?_
  refine wf_rd _ rfl rfl (RD.move rfl) rfl ?_
  refine wf_rd _ rfl rfl (RD.nilCheck rfl) rfl ?_
  refine wf_rd _ rfl rfl (RD.field rfl Try.underlying63 rfl Try.sizeOf58) rfl ?_
  refine wf_rd _ rfl rfl (RD.load rfl (LD.one Try.isAgg58 hq rfl)) rfl ?_
  refine wf_rd _ rfl rfl (RD.field rfl Try.underlying69 rfl Try.sizeOf3) rfl ?_
  refine wf_rd _ rfl rfl (RD.load rfl (LD.one Try.isAgg3 hb4 rfl)) rfl ?_
  refine wf_rd _ rfl rfl (RD.lkY (k := a.s) rfl rfl Try.underlying58 Try.underlying3 hcp hcM hck) rfl ?_
  refine wf_call rfl en25 rfl rfl (copied25 f _ (Z a.s) _ d hcr (fun b hb => (hD.z _ b hb).1)) ?_
  rintro _ H6 ⟨cs', rfl, hc6, hx6⟩
  have hone := hc6.one
  obtain ⟨hh, ht, rfl, hhr, htr, hl1, hl2⟩ := hc6
  replace hb2 := hx6.keep hb2
  refine ⟨trivial, ?_⟩
  refine wf_storeA rfl rfl Try.sizeOf35 rfl hb2 hone rfl (fun H7 z7 hx7 hk7 => ⟨trivial, ?_⟩)
  replace hb2 := hx7
  refine wf_rd _ rfl rfl (RD.assign rfl) rfl ?_
  refine wf_nil ?_
  refine at_thn ?_
  refine wc_ret ?_
  refine at_ret2 rfl ⟨_, rfl, (LD.all Try.isAgg35 Try.sizeOf35 hb2 rfl)⟩ rfl ?_
  have hE := hD.ext hx6
  have hfw : Frm (fun b => b = b2) H6 H7 := Frm.wrote z7 hk7 (fun _ => rfl)
  have mo : B.mut B.bo := .inr (.inr (.inr (.inr (.inl rfl))))
  have n2 : ∀ b, ({ B with v := v' } : QB).mut b ∨ zn Z b → b ≠ b2 := fun b hb e => by
    rcases hb with hb | hb
    · have h9 := mut_mov hv' b (by omega) hb
      have := h.lt h9; omega
    · obtain ⟨kz, hb⟩ := hb; have := (h.z kz b hb).1; omega
  have hf7 : Frm B.mut H H7 := ((((((Ext.new z1 hk1).frm B.mut).trans (hf2.mono (fun j _ hj => pm_mut j hj))).trans (((Ext.new z3 hk3).wrote z4 hk4 (by omega)).frm _)).trans (Frm.wrote z5 hk5 (fun _ => mo))).trans (hx6.frm _)).trans' hfw (fun b hb e => absurd hb (by omega))
  have hzf : ∀ b, fresh H5 H6 b → H7[b]? = H6[b]? := fun b hb => hk7 b (fun e => by have := hb.1; have := hf2.size; omega)
  exact ⟨_, js, v', rfl, ⟨hh, ht, rfl, hhr.mono hzf (fun b hb => ⟨by have := hb.1; have := hf2.size; omega, by have := hb.2; omega⟩), htr.mono hzf (fun b hb => ⟨by have := hb.1; have := hf2.size; omega, by have := hb.2; omega⟩), hl1, hl2⟩, hg2, hE.frm hfw n2, hm, hf7⟩
set_option maxRecDepth 100000 in
theorem counts10 (f : Nat) (H : Heap) (B : QB) (S : QS) (Z : Int → Nat → Prop) (h : QInv f H B S Z) :
    FN Try.prog 10 [(.pointer (some ⟨B.q, 0, none⟩))] H (fun r H' => r = .tuple [.int .i64 S.is.length, .int .i64 S.ou.length].toArray ∧ H = H') := by
  have hq := h.q
  obtain ⟨eo, co, hou, hoM, hoO⟩ := h.ou
  refine fn_intro 14 Try.func10 rfl Try.ntmps10 rfl ?_
  refine wc_seq ?_
  refine wc_plain ?_
  refine wf_rd _ rfl rfl (RD.assign rfl) rfl ?_
  refine wf_rd _ rfl rfl (RD.assign rfl) rfl ?_
  refine wf_nil ?_
  refine at_thn ?_
  refine wc_seq ?_
  refine wc_drawn [(0, 0), (1, 0), (2, 0), (3, 0), (5, 1), (6, 1), (7, 1), (8, 1), (4, 2), (9, 0), (10, 0), (11, 0)] (fun X => X[B.q]? = some (.cells (B.cells S).toArray 63 (0, 0))) (by kernel_rfl) (by kernel_rfl) hq ?_
  refine wf_rd _ rfl rfl (RD.move rfl) rfl ?_
  refine wf_rd _ rfl rfl (RD.nilCheck rfl) rfl ?_
  refine wf_rd _ rfl rfl (RD.field rfl Try.underlying63 rfl Try.sizeOf59) rfl ?_
  refine wf_rd _ rfl rfl (RD.load rfl (LD.one Try.isAgg59 hq rfl)) rfl ?_
  refine wf_su _ rfl rfl (fun _ hC => (RD.move rfl)) ?_
  refine wf_su _ rfl rfl (fun _ hC => (RD.nilCheck rfl)) ?_
  refine wf_su _ rfl rfl (fun _ hC => (RD.field rfl Try.underlying63 rfl Try.sizeOf61)) ?_
  refine wf_su _ rfl rfl (fun _ hC => (RD.load rfl (LD.one Try.isAgg61 hC rfl))) ?_
  refine wf_call rfl en29 rfl rfl (len29 H B.l B.bm B.v S.is h.pile) ?_
  rintro _ _ ⟨rfl, rfl⟩
  refine ⟨hq, ?_⟩
  refine wf_rd _ rfl rfl (RD.lenMap rfl Try.underlying61 hou) rfl ?_
  refine wf_rd _ rfl rfl (RD.assign rfl) rfl ?_
  refine wf_rd _ rfl rfl (RD.assign rfl) rfl ?_
  refine wf_nil ?_
  refine at_thn ?_
  refine wc_ret ?_
  refine at_ret2 rfl rfl rfl ?_
  exact ⟨by rw [hoO.2.1], rfl⟩
end Go.Proofs.Ytfomnjippakjpaa
