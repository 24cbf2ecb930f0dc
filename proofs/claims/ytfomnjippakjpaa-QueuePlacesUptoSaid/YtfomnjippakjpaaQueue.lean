/-
  Contracts of functions of the given program, at the blocks of memory that they read and write.
-/
import Derived.Test.YtfomnjippakjpaaLine
import Derived.Test.YtfomnjippakjpaaCopied
import Derived.Test.YtfomnjippakjpaaQData
import Derived.Test.YtfomnjippakjpaaRows
namespace Go.Proofs.Ytfomnjippakjpaa
open Go.S

set_option maxRecDepth 100000 in
theorem stand26 (f : Nat) (H : Heap) (B : QB) (S : QS) (Z : Int → Nat → Prop) (cs : List Value) (c : CD) (h : QInv f H B S Z) (hc : RC f H (Z c.seq) cs c) (hn : ∀ b ∈ S.is, b.s ≠ c.seq) (hlt : S.is.length < 4194304) :
    FN Try.prog 26 [(.pointer (some ⟨B.q, 0, none⟩)), .agg cs.toArray] H (fun _ H' => ∃ S' v', QInv f H' { B with v := v' } S' Z ∧ Came S c S' ∧ mov H B.v v' ∧ Frm B.mut H H') := by
  have hc0 := hc
  obtain ⟨hh, ht, rfl, hhr, htr, hl1, hl2⟩ := hc0
  have hq := h.q
  obtain ⟨es, cc, hcp0, hcM, hcC⟩ := h.cp
  refine fn_intro 42 Try.func26 rfl Try.ntmps26 rfl ?_
  refine wc_seq ?_
  refine wc_plain ?_
  refine wf_box rfl rfl rfl rfl (fun b3 H1 e3 z1 hb3 hk1 => ⟨trivial, ?_⟩)
  have n3_hq := ne_new hq e3
  replace hq := (hk1 _ (lt_of hq)).trans hq
  have hcp := (hk1 _ (lt_of hcp0)).trans hcp0
  have hok := h.ok
  have hltc : B.bc < H.size := lt_of hcp0
  refine wf_nil ?_
  refine at_thn ?_
  refine wc_seq ?_
  refine wc_drawn [(0, 0), (1, 0), (2, 0), (3, 0), (4, 0), (5, 0), (6, 0), (7, 0), (8, 0), (9, 0), (10, 0), (11, 0)] (fun _ => True) (by kernel_rfl) (by kernel_rfl) trivial ?_
  refine wf_rd _ rfl rfl (RD.field rfl Try.underlying35 rfl Try.sizeOf33) rfl ?_
  refine wf_rd _ rfl rfl (RD.field rfl Try.underlying33 rfl Try.sizeOf3) rfl ?_
  refine wf_rd _ rfl rfl (RD.load rfl (LD.one Try.isAgg3 hb3 rfl)) rfl ?_
  refine wf_rd _ rfl rfl (RD.move rfl) rfl ?_
  refine wf_rd _ rfl rfl (RD.nilCheck rfl) rfl ?_
  refine wf_rd _ rfl rfl (RD.field rfl Try.underlying63 rfl Try.sizeOf23) rfl ?_
  refine wf_rd _ rfl rfl (RD.field rfl Try.underlying23 rfl Try.sizeOf3) rfl ?_
  refine wf_rd _ rfl rfl (RD.load rfl (LD.one Try.isAgg3 hq rfl)) rfl ?_
  refine wf_rd _ rfl rfl (RD.max rfl rfl) rfl ?_
  refine wf_rd _ rfl rfl (RD.min rfl rfl) rfl ?_
  refine wf_rd _ rfl rfl (RD.cast (q := rankOf S.cf.maxprio c.prio) (RD.max rfl rfl) (by unfold rankOf; split <;> (try split) <;> (try split) <;> omega)) rfl ?_
  refine wf_rd _ rfl rfl (RD.assign rfl) rfl ?_
  refine wf_nil ?_
  refine at_thn ?_
  refine wc_seq ?_
  refine wc_drawn [(0, 0), (1, 0), (2, 0), (3, 0), (4, 0), (5, 0), (6, 0), (7, 3)] (fun _ => True) (by kernel_rfl) (by kernel_rfl) trivial ?_
  refine wf_rd _ rfl rfl (RD.move rfl) rfl ?_
  refine wf_rd _ rfl rfl (RD.nilCheck rfl) rfl ?_
  refine wf_rd _ rfl rfl (RD.field rfl Try.underlying63 rfl Try.sizeOf58) rfl ?_
  refine wf_rd _ rfl rfl (RD.load rfl (LD.one Try.isAgg58 hq rfl)) rfl ?_
  refine wf_rd _ rfl rfl (RD.field rfl Try.underlying35 rfl Try.sizeOf3) rfl ?_
  refine wf_rd _ rfl rfl (RD.load rfl (LD.one Try.isAgg3 hb3 rfl)) rfl ?_
  refine wf_rd _ rfl rfl (RD.load rfl (LD.all Try.isAgg35 Try.sizeOf35 hb3 rfl)) rfl ?_
  refine wf_put (k := c.seq) (v := .agg (c.cells hh ht).toArray) rfl rfl rfl rfl Try.underlying58 Try.underlying3 hcp hcM (fun H2 es2 c2 z2 hm2 hk2 pt2 => ⟨trivial, ?_⟩)
  replace hq := (hk2 _ hok.qc).trans hq
  replace hb3 := (hk2 _ (by omega)).trans hb3
  have hA := h.cpTo (((Ext.new z1 hk1).frm (fun b => b = B.bc)).trans (Frm.wrote z2 hk2 (fun _ => rfl))) hm2 pt2.mi (hcC.put pt2 hc)
  refine wf_nil ?_
  refine at_thn ?_
  refine wc_seq ?_
  refine wc_drawn [(0, 0), (1, 0), (2, 0), (3, 0), (4, 0), (5, 0), (6, 0), (7, 0), (8, 3)] (fun _ => True) (by kernel_rfl) (by kernel_rfl) trivial ?_
  refine wf_rd _ rfl rfl (RD.move rfl) rfl ?_
  refine wf_rd _ rfl rfl (RD.nilCheck rfl) rfl ?_
  refine wf_rd _ rfl rfl (RD.field rfl Try.underlying63 rfl Try.sizeOf59) rfl ?_
  refine wf_rd _ rfl rfl (RD.load rfl (LD.one Try.isAgg59 hq rfl)) rfl ?_
  refine wf_rd _ rfl rfl (RD.move rfl) rfl ?_
  refine wf_rd _ rfl rfl (RD.field rfl Try.underlying35 rfl Try.sizeOf3) rfl ?_
  refine wf_rd _ rfl rfl (RD.load rfl (LD.one Try.isAgg3 hb3 rfl)) rfl ?_
  refine wf_rd _ rfl rfl (RD.build rfl (built69_0_1 _ _)) rfl ?_
  refine wf_call rfl en41 rfl rfl (put41 _ B.l B.bm B.v S.is ⟨rankOf S.cf.maxprio c.prio, c.seq, 0⟩ hA.pile h.heap hn hlt) ?_
  rintro _ H4 ⟨js, v', rfl, hv', hp4, hc4, hf4⟩
  have hB := hA.pileTo hv' hp4 hc4.heap hf4
  replace hq := hf4.keep hq hok.npm.1
  replace hb3 := hf4.keep hb3 (fun hm => by have := h.lt (pm_mut _ hm); omega)
  refine ⟨trivial, ?_⟩
  refine wf_nil ?_
  refine at_thn ?_
  refine wc_drawn [(0, 0), (1, 0), (2, 0), (3, 0), (4, 0), (5, 0), (6, 0), (7, 0), (8, 0), (9, 0), (10, 3)] (fun _ => True) (by kernel_rfl) (by kernel_rfl) trivial ?_
  refine wf_rd _ rfl rfl (RD.move rfl) rfl ?_
  refine wf_rd _ rfl rfl (RD.move rfl) rfl ?_
  refine wf_rd _ rfl rfl (RD.nilCheck rfl) rfl ?_
  refine wf_rd _ rfl rfl (RD.field rfl Try.underlying63 rfl Try.sizeOf3) rfl ?_
  refine wf_rd _ rfl rfl (RD.load rfl (LD.one Try.isAgg3 hq rfl)) rfl ?_
  refine wf_rd _ rfl rfl (RD.field rfl Try.underlying35 rfl Try.sizeOf3) rfl ?_
  refine wf_rd _ rfl rfl (RD.load rfl (LD.one Try.isAgg3 hb3 rfl)) rfl ?_
  refine wf_rd _ rfl rfl (RD.cast (q := max S.last c.seq) (RD.max rfl rfl) (by split <;> omega)) rfl ?_
  refine wf_rd _ rfl rfl (RD.nilCheck rfl) rfl ?_
  refine wf_rd _ rfl rfl (RD.field rfl Try.underlying63 rfl Try.sizeOf3) rfl ?_
  refine wf_store1 rfl rfl Try.sizeOf3 rfl hq (by first | rfl | assumption) (Nat.le_of_ble_eq_true rfl) (fun H5 z5 hx5 hk5 => ⟨trivial, ?_⟩)
  replace hb3 := (hk5 _ (by first | assumption | exact Ne.symm (by assumption) | omega)).trans hb3
  replace hq := hx5
  refine wf_nil ?_
  refine at_norm ?_
  refine at_ret0 rfl  ?_
  have hm := hv'.mono (H := H) (by omega)
  have hC := hB.qTo (S' := ⟨S.cf, js, putF S.cp c.seq (some c), S.ou, max S.last c.seq, S.tn⟩) (Frm.wrote z5 hk5 (fun _ => rfl)) hq rfl rfl rfl rfl
  have m1 : B.mut B.bc := .inr (.inr (.inr (.inl rfl)))
  have f5 : Frm B.mut H H5 := (((((Ext.new z1 hk1).frm B.mut).trans (Frm.wrote z2 hk2 (fun _ => m1))).trans (hf4.mono (fun j _ hj => pm_mut j hj))).trans (Frm.wrote z5 hk5 (fun _ => .inl rfl)))
  exact ⟨_, v', hC, ⟨rfl, hc4, rfl, rfl, rfl, rfl⟩, hm, f5⟩
set_option maxRecDepth 100000 in
theorem push7 (f : Nat) (H : Heap) (Z : Nat → Prop) (Y : Int → Nat → Prop) (B : QB) (S : QS) (cs : List Value) (c : CD) (h : QInv f H B S Y) (hc : RC f H Z cs c) (hZ : ∀ b, Z b → b < H.size) (hcn : S.cp (S.last + 1) = none) (hn : ∀ b ∈ S.is, b.s ≠ S.last + 1) (hlt : S.is.length < 4194304)
    (hlast : 0 ≤ S.last ∧ S.last < 4611686018427387904) :
    FN Try.prog 7 [(.pointer (some ⟨B.q, 0, none⟩)), .agg cs.toArray] H (fun r H' => r = .int .i64 (S.last + 1) ∧ ∃ S' v' Y', QInv f H' { B with v := v' } S' Y' ∧ (∀ k b, Y' k b → Y k b ∨ H.size ≤ b) ∧ Came S { c with seq := S.last + 1 } S' ∧ mov H B.v v' ∧ Frm B.mut H H') := by
  have hq := h.q
  have hc0 := hc
  obtain ⟨h0, t0, rfl, _⟩ := hc0
  refine fn_intro 18 Try.func7 rfl Try.ntmps7 rfl ?_
  refine wc_seq ?_
  refine wc_plain ?_
  refine wf_box rfl rfl rfl rfl (fun b3 H1 e3 z1 hb3 hk1 => ⟨trivial, ?_⟩)
  have n3_hq := ne_new hq e3
  replace hq := (hk1 _ (lt_of hq)).trans hq
  refine wf_rd _ rfl rfl (RD.assign rfl) rfl ?_
  refine wf_nil ?_
  refine at_thn ?_
  refine wc_seq ?_
  refine wc_plain ?_
  refine wf_rd _ rfl rfl (RD.load rfl (LD.all Try.isAgg35 Try.sizeOf35 hb3 rfl)) rfl ?_
  refine wf_call rfl en25 rfl rfl (copied25 f H1 Z _ c (RC.mono f _ _ _ _ _ _ (fun b hb => hk1 b (hZ b hb)) (fun _ h => h) hc) (fun b hb => by have := hZ b hb; omega)) ?_
  rintro _ H2 ⟨cs', rfl, hc2, hx2⟩
  obtain ⟨hh, ht, rfl, hhr, htr, hl1, hl2⟩ := hc2
  replace hq := hx2.keep hq
  replace hb3 := hx2.keep hb3
  refine ⟨trivial, ?_⟩
  refine wf_storeA (vs := c.cells hh ht) rfl rfl Try.sizeOf35 rfl hb3 (c.one (RSl.one hhr) (RSl.one htr)) rfl (fun H3 z3 hx3 hk3 => ⟨trivial, ?_⟩)
  replace hq := (hk3 _ n3_hq).trans hq
  replace hb3 := hx3
  refine wf_nil ?_
  refine at_thn ?_
  refine wc_seq ?_
  refine wc_plain ?_
  refine wf_rd _ rfl rfl (RD.move rfl) rfl ?_
  refine wf_rd _ rfl rfl (RD.nilCheck rfl) rfl ?_
  refine wf_rd _ rfl rfl (RD.field rfl Try.underlying63 rfl Try.sizeOf3) rfl ?_
  refine wf_rd _ rfl rfl (RD.load rfl (LD.one Try.isAgg3 hq rfl)) rfl ?_
  refine wf_rd _ rfl rfl (RD.add64 rfl rfl (by omega)) rfl ?_
  refine wf_rd _ rfl rfl (RD.field rfl Try.underlying35 rfl Try.sizeOf3) rfl ?_
  refine wf_store1 rfl rfl Try.sizeOf3 rfl hb3 (by first | rfl | assumption) (Nat.le_of_ble_eq_true rfl) (fun H4 z4 hx4 hk4 => ⟨trivial, ?_⟩)
  replace hq := (hk4 _ (by first | assumption | exact Ne.symm (by assumption) | omega)).trans hq
  replace hb3 := hx4
  refine wf_nil ?_
  refine at_thn ?_
  refine wc_seq ?_
  refine wc_plain ?_
  refine wf_rd _ rfl rfl (RD.move rfl) rfl ?_
  refine wf_rd _ rfl rfl (RD.load rfl (LD.all Try.isAgg35 Try.sizeOf35 hb3 rfl)) rfl ?_
  have hx4 : Ext H H4 := (((Ext.new z1 hk1).trans hx2).wrote z3 hk3 (by omega)).wrote z4 hk4 (by omega)
  have hz4 : ∀ b, fresh H1 H2 b → H4[b]? = H2[b]? := fun b hb => (hk4 b (by have := hb.1; omega)).trans (hk3 b (by have := hb.1; omega))
  have hz5 : ∀ b, fresh H1 H2 b → (if S.last + 1 = S.last + 1 then fresh H H2 b else Y (S.last + 1) b) := fun b hb => by rw [if_pos rfl]; exact ⟨by have := hb.1; omega, hb.2⟩
  have hY := (h.ext hx4).wide (Z' := fun k b => if k = S.last + 1 then fresh H H2 b else Y k b) (fun k b hk hb => by
    show (if k = S.last + 1 then fresh H H2 b else Y k b)
    rw [if_neg (fun e : k = S.last + 1 => hk (e ▸ hcn))]; exact hb) (fun k b hb => by
    split at hb
    · exact ⟨by have := hb.2; omega, fun hm => by have := h.lt hm; have := hb.1; omega⟩
    · exact ⟨by have := (h.z k b hb).1; have := hx4.size; omega, (h.z k b hb).2⟩) (fun k k' b h1 h2 => by
    split at h1 <;> split at h2
    · omega
    · have := (h.z _ b h2).1; have := h1.1; omega
    · have := (h.z _ b h1).1; have := h2.1; omega
    · exact h.zd k k' b h1 h2)
  refine wf_call rfl en26 rfl rfl (stand26 f H4 B S _ _ { c with seq := S.last + 1 } hY ⟨hh, ht, rfl, hhr.mono hz4 hz5, htr.mono hz4 hz5, hl1, hl2⟩ hn hlt) ?_
  rintro _ H5 ⟨S', v', hq5, hc5, hm5, hf5⟩
  replace hb3 := hf5.keep hb3 (fun hm => by have := h.lt hm; omega)
  refine ⟨trivial, ?_⟩
  refine wf_nil ?_
  refine at_thn ?_
  refine wc_seq ?_
  refine wc_plain ?_
  refine wf_rd _ rfl rfl (RD.field rfl Try.underlying35 rfl Try.sizeOf3) rfl ?_
  refine wf_rd _ rfl rfl (RD.load rfl (LD.one Try.isAgg3 hb3 rfl)) rfl ?_
  refine wf_rd _ rfl rfl (RD.assign rfl) rfl ?_
  refine wf_nil ?_
  refine at_thn ?_
  refine wc_ret ?_
  refine at_ret1 rfl rfl ?_
  exact ⟨rfl, S', v', _, hq5, fun k b hb => (by split at hb; exact .inr hb.1; exact .inl hb), hc5, hm5.mono hx4.size, ((hx4.frm B.mut).trans hf5)⟩
end Go.Proofs.Ytfomnjippakjpaa
