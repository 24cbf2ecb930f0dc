import Derived.Test.YtfomnjippakjpaaFacts
import Derived.Test.YtfomnjippakjpaaRows
namespace Go.Proofs.Ytfomnjippakjpaa
open Go.S

set_option maxRecDepth 100000 in
theorem clone40_nil (H : Heap) : FN Try.prog 40 [.slice none 0 0] H (fun v' H' => v' = .slice none 0 0 ∧ H' = H) := by
  refine fn_intro 8 Try.func40 rfl Try.ntmps40 rfl ?_
  refine wc_seq ?_
  refine wc_plain ?_
  refine wf_rd _ rfl rfl (RD.assign rfl) rfl ?_
  refine wf_nil ?_
  refine at_thn ?_
  refine wc_seq ?_
  refine wc_seq ?_
  refine wc_plain ?_
  refine wf_rd _ rfl rfl (RD.move rfl) rfl ?_
  refine wf_rd _ rfl rfl (RD.sleq rfl rfl Try.underlying31) rfl ?_
  refine wf_nil ?_
  refine at_thn ?_
  refine wc_yes rfl ?_
  refine wc_seq ?_
  refine wc_plain ?_
  refine wf_rd _ rfl rfl (RD.assign rfl) rfl ?_
  refine wf_nil ?_
  refine at_thn ?_
  refine wc_ret ?_
  refine at_thn_ret ?_
  refine at_ret1 rfl rfl ?_
  exact ⟨rfl, rfl⟩
set_option maxRecDepth 100000 in
theorem clone40 (H : Heap) (b off m c : Nat) (cs : List Value) (T : TypeId) (fz : Nat × Nat) (hb : H[b]? = some (.cells cs.toArray T fz)) (hl : off + m * 1 ≤ cs.length)
    (hone : ∀ u ∈ (cs.drop off).take (m * 1), u.oneCell' = true) (hm : m ≤ 2097152) :
    FN Try.prog 40 [.slice (some ⟨b, off, none⟩) m c] H (fun v' H' => (∃ g, v'.ownBlock = some g ∧ H.size ≤ g) ∧ Own H' 9 1 v' m ((cs.drop off).take (m * 1)) ∧ Ext H H') := by
  refine fn_intro 8 Try.func40 rfl Try.ntmps40 rfl ?_
  refine wc_seq ?_
  refine wc_plain ?_
  refine wf_rd _ rfl rfl (RD.assign rfl) rfl ?_
  refine wf_nil ?_
  refine at_thn ?_
  refine wc_seq ?_
  refine wc_seq ?_
  refine wc_plain ?_
  refine wf_rd _ rfl rfl (RD.move rfl) rfl ?_
  refine wf_rd _ rfl rfl (RD.sleq rfl rfl Try.underlying31) rfl ?_
  refine wf_nil ?_
  refine at_thn ?_
  refine wc_no rfl ?_
  refine wc_skip ?_
  refine at_thn ?_
  refine wc_seq ?_
  refine wc_plain ?_
  refine wf_mkSlice0 el31 rfl rfl (fun b5 H1 e5 z1 hb5 hk1 => ⟨trivial, ?_⟩)
  refine wf_rd _ rfl rfl (RD.move rfl) rfl ?_
  refine wf_append (news := (cs.drop off).take (m * 1)) el31 rfl rfl (Own.empty hb5) ((hk1 _ (lt_of hb)).trans hb) rfl hl hone (by omega) (by omega) rfl rfl (fun v2 H2 ho hg hw => ⟨trivial, ?_⟩)
  refine wf_rd _ rfl rfl (RD.assign rfl) rfl ?_
  refine wf_nil ?_
  refine at_thn ?_
  refine wc_ret ?_
  refine at_ret1 rfl rfl ?_
  have hx : Ext H H2 := (Ext.new z1 hk1).grew hg (fun g hg => by have : b5 = g := Option.some.inj hg; omega)
  refine ⟨?_, by simpa using ho, hx⟩
  rcases hw with hw | hw
  · exact ⟨b5, hw, by omega⟩
  · exact ⟨_, hw, by omega⟩

set_option maxRecDepth 100000 in
theorem clone40E (H : Heap) (a : Addr) (c : Nat) :
    FN Try.prog 40 [.slice (some a) 0 c] H (fun v' H' => (∃ g, v'.ownBlock = some g ∧ H.size ≤ g) ∧ Own H' 9 1 v' 0 [] ∧ Ext H H') := by
  refine fn_intro 8 Try.func40 rfl Try.ntmps40 rfl ?_
  refine wc_seq ?_
  refine wc_plain ?_
  refine wf_rd _ rfl rfl (RD.assign rfl) rfl ?_
  refine wf_nil ?_
  refine at_thn ?_
  refine wc_seq ?_
  refine wc_seq ?_
  refine wc_plain ?_
  refine wf_rd _ rfl rfl (RD.move rfl) rfl ?_
  refine wf_rd _ rfl rfl (RD.sleq rfl rfl Try.underlying31) rfl ?_
  refine wf_nil ?_
  refine at_thn ?_
  refine wc_no rfl ?_
  refine wc_skip ?_
  refine at_thn ?_
  refine wc_seq ?_
  refine wc_plain ?_
  refine wf_mkSlice0 el31 rfl rfl (fun b5 H1 e5 z1 hb5 hk1 => ⟨trivial, ?_⟩)
  refine wf_rd _ rfl rfl (RD.move rfl) rfl ?_
  refine wf_appendE el31 rfl rfl (Own.empty hb5) (by omega) (by omega) rfl rfl (fun v2 H2 ho hg hw => ⟨trivial, ?_⟩)
  refine wf_rd _ rfl rfl (RD.assign rfl) rfl ?_
  refine wf_nil ?_
  refine at_thn ?_
  refine wc_ret ?_
  refine at_ret1 rfl rfl ?_
  have hx : Ext H H2 := (Ext.new z1 hk1).grew hg (fun g hg => by have : b5 = g := Option.some.inj hg; omega)
  refine ⟨?_, by simpa using ho, hx⟩
  rcases hw with hw | hw
  · exact ⟨b5, hw, by omega⟩
  · exact ⟨_, hw, by omega⟩

set_option maxRecDepth 100000 in
theorem clone42_nil (H : Heap) : FN Try.prog 42 [.slice none 0 0] H (fun v' H' => v' = .slice none 0 0 ∧ H' = H) := by
  refine fn_intro 8 Try.func42 rfl Try.ntmps42 rfl ?_
  refine wc_seq ?_
  refine wc_plain ?_
  refine wf_rd _ rfl rfl (RD.assign rfl) rfl ?_
  refine wf_nil ?_
  refine at_thn ?_
  refine wc_seq ?_
  refine wc_seq ?_
  refine wc_plain ?_
  refine wf_rd _ rfl rfl (RD.move rfl) rfl ?_
  refine wf_rd _ rfl rfl (RD.sleq rfl rfl Try.underlying66) rfl ?_
  refine wf_nil ?_
  refine at_thn ?_
  refine wc_yes rfl ?_
  refine wc_seq ?_
  refine wc_plain ?_
  refine wf_rd _ rfl rfl (RD.assign rfl) rfl ?_
  refine wf_nil ?_
  refine at_thn ?_
  refine wc_ret ?_
  refine at_thn_ret ?_
  refine at_ret1 rfl rfl ?_
  exact ⟨rfl, rfl⟩
set_option maxRecDepth 100000 in
theorem clone42 (H : Heap) (b off m c : Nat) (cs : List Value) (T : TypeId) (fz : Nat × Nat) (hb : H[b]? = some (.cells cs.toArray T fz)) (hl : off + m * 3 ≤ cs.length)
    (hone : ∀ u ∈ (cs.drop off).take (m * 3), u.oneCell' = true) (hm : m ≤ 2097152) :
    FN Try.prog 42 [.slice (some ⟨b, off, none⟩) m c] H (fun v' H' => (∃ g, v'.ownBlock = some g ∧ H.size ≤ g) ∧ Own H' 69 3 v' m ((cs.drop off).take (m * 3)) ∧ Ext H H') := by
  refine fn_intro 8 Try.func42 rfl Try.ntmps42 rfl ?_
  refine wc_seq ?_
  refine wc_plain ?_
  refine wf_rd _ rfl rfl (RD.assign rfl) rfl ?_
  refine wf_nil ?_
  refine at_thn ?_
  refine wc_seq ?_
  refine wc_seq ?_
  refine wc_plain ?_
  refine wf_rd _ rfl rfl (RD.move rfl) rfl ?_
  refine wf_rd _ rfl rfl (RD.sleq rfl rfl Try.underlying66) rfl ?_
  refine wf_nil ?_
  refine at_thn ?_
  refine wc_no rfl ?_
  refine wc_skip ?_
  refine at_thn ?_
  refine wc_seq ?_
  refine wc_plain ?_
  refine wf_mkSlice0 el66 rfl rfl (fun b5 H1 e5 z1 hb5 hk1 => ⟨trivial, ?_⟩)
  refine wf_rd _ rfl rfl (RD.move rfl) rfl ?_
  refine wf_append (news := (cs.drop off).take (m * 3)) el66 rfl rfl (Own.empty hb5) ((hk1 _ (lt_of hb)).trans hb) rfl hl hone (by omega) (by omega) rfl rfl (fun v2 H2 ho hg hw => ⟨trivial, ?_⟩)
  refine wf_rd _ rfl rfl (RD.assign rfl) rfl ?_
  refine wf_nil ?_
  refine at_thn ?_
  refine wc_ret ?_
  refine at_ret1 rfl rfl ?_
  have hx : Ext H H2 := (Ext.new z1 hk1).grew hg (fun g hg => by have : b5 = g := Option.some.inj hg; omega)
  refine ⟨?_, by simpa using ho, hx⟩
  rcases hw with hw | hw
  · exact ⟨b5, hw, by omega⟩
  · exact ⟨_, hw, by omega⟩

set_option maxRecDepth 100000 in
theorem clone38_nil (H : Heap) : FN Try.prog 38 [.slice none 0 0] H (fun v' H' => v' = .slice none 0 0 ∧ H' = H) := by
  refine fn_intro 8 Try.func38 rfl Try.ntmps38 rfl ?_
  refine wc_seq ?_
  refine wc_plain ?_
  refine wf_rd _ rfl rfl (RD.assign rfl) rfl ?_
  refine wf_nil ?_
  refine at_thn ?_
  refine wc_seq ?_
  refine wc_seq ?_
  refine wc_plain ?_
  refine wf_rd _ rfl rfl (RD.move rfl) rfl ?_
  refine wf_rd _ rfl rfl (RD.sleq rfl rfl Try.underlying46) rfl ?_
  refine wf_nil ?_
  refine at_thn ?_
  refine wc_yes rfl ?_
  refine wc_seq ?_
  refine wc_plain ?_
  refine wf_rd _ rfl rfl (RD.assign rfl) rfl ?_
  refine wf_nil ?_
  refine at_thn ?_
  refine wc_ret ?_
  refine at_thn_ret ?_
  refine at_ret1 rfl rfl ?_
  exact ⟨rfl, rfl⟩
set_option maxRecDepth 100000 in
theorem clone38 (H : Heap) (b off m c : Nat) (cs : List Value) (T : TypeId) (fz : Nat × Nat) (hb : H[b]? = some (.cells cs.toArray T fz)) (hl : off + m * 1 ≤ cs.length)
    (hone : ∀ u ∈ (cs.drop off).take (m * 1), u.oneCell' = true) (hm : m ≤ 2097152) :
    FN Try.prog 38 [.slice (some ⟨b, off, none⟩) m c] H (fun v' H' => (∃ g, v'.ownBlock = some g ∧ H.size ≤ g) ∧ Own H' 3 1 v' m ((cs.drop off).take (m * 1)) ∧ Ext H H') := by
  refine fn_intro 8 Try.func38 rfl Try.ntmps38 rfl ?_
  refine wc_seq ?_
  refine wc_plain ?_
  refine wf_rd _ rfl rfl (RD.assign rfl) rfl ?_
  refine wf_nil ?_
  refine at_thn ?_
  refine wc_seq ?_
  refine wc_seq ?_
  refine wc_plain ?_
  refine wf_rd _ rfl rfl (RD.move rfl) rfl ?_
  refine wf_rd _ rfl rfl (RD.sleq rfl rfl Try.underlying46) rfl ?_
  refine wf_nil ?_
  refine at_thn ?_
  refine wc_no rfl ?_
  refine wc_skip ?_
  refine at_thn ?_
  refine wc_seq ?_
  refine wc_plain ?_
  refine wf_mkSlice0 el46 rfl rfl (fun b5 H1 e5 z1 hb5 hk1 => ⟨trivial, ?_⟩)
  refine wf_rd _ rfl rfl (RD.move rfl) rfl ?_
  refine wf_append (news := (cs.drop off).take (m * 1)) el46 rfl rfl (Own.empty hb5) ((hk1 _ (lt_of hb)).trans hb) rfl hl hone (by omega) (by omega) rfl rfl (fun v2 H2 ho hg hw => ⟨trivial, ?_⟩)
  refine wf_rd _ rfl rfl (RD.assign rfl) rfl ?_
  refine wf_nil ?_
  refine at_thn ?_
  refine wc_ret ?_
  refine at_ret1 rfl rfl ?_
  have hx : Ext H H2 := (Ext.new z1 hk1).grew hg (fun g hg => by have : b5 = g := Option.some.inj hg; omega)
  refine ⟨?_, by simpa using ho, hx⟩
  rcases hw with hw | hw
  · exact ⟨b5, hw, by omega⟩
  · exact ⟨_, hw, by omega⟩
end Go.Proofs.Ytfomnjippakjpaa
