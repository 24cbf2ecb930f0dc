/-
  Contracts of functions of the given program, at the blocks of memory that they read and write.
-/
import Derived.Test.YtfomnjippakjpaaOutQ
import Derived.Test.YtfomnjippakjpaaRows
namespace Go.Proofs.Ytfomnjippakjpaa
open Go.S

set_option maxRecDepth 100000 in
theorem index52 (H : Heap) (ks : List Int) (v : Value) (x : Int) (hown : Own H 3 1 v ks.length (ks.map ik)) (hl : ks.length ≤ 4194304) :
    FN Try.prog 52 [v, .int .i64 x] H (fun r H' => ∃ i : Int, r = .int .i64 i ∧ (0 ≤ i ↔ x ∈ ks) ∧ H = H') := by
  obtain ⟨p, c, rfl⟩ := hown.val
  refine fn_intro 19 Try.func52 rfl Try.ntmps52 rfl ?_
  refine wc_seq ?_
  refine wc_plain ?_
  refine wf_rd _ rfl rfl (RD.assign rfl) rfl ?_
  refine wf_nil ?_
  refine at_thn ?_
  refine wc_seq ?_
  refine wc_seq ?_
  refine wc_plain ?_
  refine wf_rd _ rfl rfl (RD.move rfl) rfl ?_
  refine wf_rd _ rfl rfl (RD.lenSl rfl Try.underlying46) rfl ?_
  refine wf_rd _ rfl rfl (RD.move rfl) rfl ?_
  refine wf_nil ?_
  refine at_thn ?_
  refine wc_block ?_
  refine wc_loop (fun i : Nat => [(0, .slice p ks.length c), (1, .int .i64 x), (4, .int .i64 0), (7, .int .i64 ks.length), (8, .int .i64 (i : Int))]) (fun i H1 => i ≤ ks.length ∧ H = H1 ∧ ∀ k, k < i → ks[k]? ≠ some x) (fun i => ks.length - i) 0 ⟨rfl, rfl, rfl, rfl, rfl, trivial⟩ ⟨Nat.zero_le _, rfl, fun k hk => absurd hk (by omega)⟩ ?_
  rintro j H1 ⟨hj, rfl, hno⟩
  show WC _ _ _ _ [(0, .slice p ks.length c), (1, .int .i64 x), (4, .int .i64 0), (7, .int .i64 ks.length), (8, .int .i64 (j : Int))] H
  refine wc_seq ?_
  refine wc_plain ?_
  refine wf_rd _ rfl rfl (RD.cmp _ rfl rfl rfl) rfl ?_
  refine wf_nil ?_
  refine at_thn ?_
  refine wc_seq ?_
  refine wc_cond rfl (fun hc9 => ?_) (fun hc9 => ?_)
  ·
    have hlt : j < ks.length := by simpa using hc9
    obtain ⟨a, haj⟩ : ∃ a, ks[j]? = some a := ⟨_, List.getElem?_eq_getElem hlt⟩
    obtain ⟨g, cap, cs, e9, hg, hca⟩ := own_int_at hown haj
    cases e9
    refine wc_skip ?_
    refine at_thn ?_
    refine wc_seq ?_
    refine wc_block ?_
    refine wc_seq ?_
    refine wc_plain ?_
    refine wf_rd _ rfl rfl (RD.move rfl) rfl ?_
    refine wf_rd _ rfl rfl (RD.assign rfl) rfl ?_
    refine wf_nil ?_
    refine at_thn ?_
    refine wc_seq ?_
    refine wc_plain ?_
    refine wf_rd _ rfl rfl (RD.move rfl) rfl ?_
    refine wf_rd _ rfl rfl (RD.move rfl) rfl ?_
    refine wf_rd _ rfl rfl (RD.move rfl) rfl ?_
    refine wf_rd _ rfl rfl (RD.indexN rfl rfl Try.underlying46 Try.sizeOf3 hlt) rfl ?_
    refine wf_rd _ rfl rfl (RD.load rfl (LD.one Try.isAgg3 hg hca)) rfl ?_
    refine wf_rd _ rfl rfl (RD.cmp _ rfl rfl rfl) rfl ?_
    refine wf_nil ?_
    refine at_thn ?_
    refine wc_cond rfl (fun hc16 => ?_) (fun hc16 => ?_)
    ·
      refine wc_seq ?_
      refine wc_plain ?_
      refine wf_rd _ rfl rfl (RD.move rfl) rfl ?_
      refine wf_rd _ rfl rfl (RD.assign rfl) rfl ?_
      refine wf_nil ?_
      refine at_thn ?_
      refine wc_ret ?_
      refine at_inB_ret ?_
      refine at_thn_ret ?_
      refine at_lp_ret ?_
      refine at_inB_ret ?_
      refine at_thn_ret ?_
      refine at_ret1 rfl rfl ?_
      refine ⟨j, rfl, ⟨fun _ => ?_, fun _ => by omega⟩, rfl⟩
      have hxa : x = a := by simpa using hc16
      exact hxa ▸ List.mem_of_getElem? haj
    ·
      refine wc_skip ?_
      refine at_inB ?_
      refine at_thn ?_
      refine wc_plain ?_
      refine wf_rd _ rfl rfl (RD.add64 rfl rfl (by omega)) rfl ?_
      refine wf_rd _ rfl rfl (RD.move rfl) rfl ?_
      refine wf_nil ?_
      refine at_lp (j + 1) (by show ks.length - (j + 1) < ks.length - j; omega) ⟨rfl, rfl, rfl, rfl, rfl, trivial⟩ ⟨by omega, rfl, fun k hk => ?_⟩
      rcases Nat.lt_or_ge k j with h1 | h1
      · exact hno k h1
      · obtain rfl : k = j := by omega
        intro e
        rw [haj] at e
        have := Option.some.inj e
        subst this
        simp at hc16
  ·
    have hjn : j = ks.length := by
      have : ¬ j < ks.length := by simpa using hc9
      omega
    refine wc_exit ?_
    refine at_thn_exit ?_
    refine at_lp_exit ?_
    refine at_inB_out ?_
    refine at_thn ?_
    refine wc_seq ?_
    refine wc_plain ?_
    refine wf_rd _ rfl rfl (RD.assign rfl) rfl ?_
    refine wf_nil ?_
    refine at_thn ?_
    refine wc_ret ?_
    refine at_ret1 rfl rfl ?_
    refine ⟨-1, rfl, ⟨fun h => absurd h (by omega), fun h => ?_⟩, rfl⟩
    obtain ⟨k, hk⟩ := List.getElem?_of_mem h
    have := (List.getElem?_eq_some_iff.1 hk).1
    exact absurd hk (hno k (by omega))
set_option maxRecDepth 100000 in
theorem contains36 (H : Heap) (ks : List Int) (v : Value) (x : Int) (hown : Own H 3 1 v ks.length (ks.map ik)) (hl : ks.length ≤ 4194304) :
    FN Try.prog 36 [v, .int .i64 x] H (fun r H' => r = .bool (decide (x ∈ ks)) ∧ H = H') := by
  refine fn_intro 9 Try.func36 rfl Try.ntmps36 rfl ?_
  refine wc_seq ?_
  refine wc_plain ?_
  refine wf_rd _ rfl rfl (RD.assign rfl) rfl ?_
  refine wf_nil ?_
  refine at_thn ?_
  refine wc_seq ?_
  refine wc_plain ?_
  refine wf_rd _ rfl rfl (RD.move rfl) rfl ?_
  refine wf_rd _ rfl rfl (RD.move rfl) rfl ?_
  refine wf_call rfl en52 rfl rfl (index52 H ks v x hown hl) ?_
  rintro _ _ ⟨i, rfl, hi, rfl⟩
  refine ⟨trivial, ?_⟩
  refine wf_rd _ rfl rfl (RD.cmp _ rfl rfl rfl) rfl ?_
  refine wf_rd _ rfl rfl (RD.assign rfl) rfl ?_
  refine wf_nil ?_
  refine at_thn ?_
  refine wc_ret ?_
  refine at_ret1 rfl rfl ?_
  exact ⟨congrArg Value.bool (by by_cases h : x ∈ ks <;> simp [h] <;> simp [← hi] at h ⊢ <;> omega), rfl⟩
set_option maxRecDepth 100000 in
theorem join19 (f : Nat) (H : Heap) (B : QB) (S : QS) (Z : Int → Nat → Prop) (x : Int) (h : QInv f H B S Z) (hx : x ∉ S.tn) (hl : S.tn.length ≤ 4194000) :
    FN Try.prog 19 [(.pointer (some ⟨B.q, 0, none⟩)), .int .i64 x] H (fun r H' => r = .bool true ∧ ∃ t', QInv f H' { B with t := t' } { S with tn := S.tn ++ [x] } Z ∧ mov H B.t t' ∧ Frm B.mut H H') := by
  have hq := h.q
  refine fn_intro 21 Try.func19 rfl Try.ntmps19 rfl ?_
  refine wc_seq ?_
  refine wc_plain ?_
  refine wf_rd _ rfl rfl (RD.assign rfl) rfl ?_
  refine wf_nil ?_
  refine at_thn ?_
  refine wc_seq ?_
  refine wc_seq ?_
  refine wc_plain ?_
  refine wf_rd _ rfl rfl (RD.move rfl) rfl ?_
  refine wf_rd _ rfl rfl (RD.nilCheck rfl) rfl ?_
  refine wf_rd _ rfl rfl (RD.field rfl Try.underlying63 rfl Try.sizeOf46) rfl ?_
  refine wf_rd _ rfl rfl (RD.load rfl (LD.one Try.isAgg46 hq rfl)) rfl ?_
  refine wf_rd _ rfl rfl (RD.move rfl) rfl ?_
  refine wf_call rfl en36 rfl rfl (contains36 H S.tn B.t x h.tn (by omega)) ?_
  rintro _ _ ⟨rfl, rfl⟩
  rw [decide_eq_false hx]
  refine ⟨trivial, ?_⟩
  refine wf_nil ?_
  refine at_thn ?_
  refine wc_no rfl ?_
  refine wc_skip ?_
  refine at_thn ?_
  refine wc_seq ?_
  refine wc_plain ?_
  refine wf_rd _ rfl rfl (RD.move rfl) rfl ?_
  refine wf_rd _ rfl rfl (RD.move rfl) rfl ?_
  refine wf_rd _ rfl rfl (RD.nilCheck rfl) rfl ?_
  refine wf_rd _ rfl rfl (RD.field rfl Try.underlying63 rfl Try.sizeOf46) rfl ?_
  refine wf_rd _ rfl rfl (RD.load rfl (LD.one Try.isAgg46 hq rfl)) rfl ?_
  refine wf_rd _ rfl rfl (RD.move rfl) rfl ?_
  refine wf_mkSlice1 el46 rfl rfl rfl rfl rfl rfl (fun b17 H1 e17 z1 hb17 hk1 => ⟨trivial, ?_⟩)
  have n17_hq := ne_new hq e17
  replace hq := (hk1 _ (lt_of hq)).trans hq
  refine wf_append (news := [ik x]) el46 rfl rfl (h.tn.keep (fun g hg => hk1 g (h.tn.lt hg))) hb17 rfl (Nat.le_refl _) (by simp [ik, Value.oneCell']) (by omega) (by omega) rfl rfl (fun t' H2 ho2 hg2 hw2 => ⟨trivial, ?_⟩)
  replace hq := (hg2.2 _ (lt_of hq) (fun e => (h.ok.t _ e.symm).1 rfl)).trans hq
  refine wf_rd _ rfl rfl (RD.nilCheck rfl) rfl ?_
  refine wf_rd _ rfl rfl (RD.field rfl Try.underlying63 rfl Try.sizeOf46) rfl ?_
  refine wf_store1 rfl rfl Try.sizeOf46 rfl hq ho2.one (Nat.le_of_ble_eq_true rfl) (fun H3 z3 hx3 hk3 => ⟨trivial, ?_⟩)
  replace hq := hx3
  refine wf_nil ?_
  refine at_thn ?_
  refine wc_seq ?_
  refine wc_plain ?_
  refine wf_rd _ rfl rfl (RD.assign rfl) rfl ?_
  refine wf_nil ?_
  refine at_thn ?_
  refine wc_ret ?_
  refine at_ret1 rfl rfl ?_
  have hm : mov H B.t t' := hw2.imp id (fun e => ⟨_, e, by omega⟩)
  have f3 : Frm (fun j => j = B.q ∨ B.t.ownBlock = some j) H H3 := ((Ext.frm (Ext.new z1 hk1) _).trans ⟨hg2.1, fun j hj hn => hg2.2 j hj (fun e => hn (.inr e.symm))⟩).trans (Frm.wrote z3 hk3 (fun _ => .inl rfl))
  have ho3 : Own H3 3 1 t' (S.tn ++ [x]).length ((S.tn ++ [x]).map ik) := by
    have := ho2.keep (H' := H3) (fun g hg => hk3 g (fun e => by
      have hqs := h.lt (.inl rfl : B.mut B.q)
      rcases hw2 with h9 | h9
      · exact (h.ok.t g (h9 ▸ hg)).1 e
      · rw [h9] at hg; have := Option.some.inj hg; omega))
    simpa using this
  exact ⟨rfl, t', h.tTo (S' := { S with tn := S.tn ++ [x] }) f3 hm hq rfl rfl rfl ho3, hm, f3.mono (fun j _ hj => hj.elim .inl (fun e => .inr (.inr (.inr (.inr (.inr (.inr e)))))))⟩
set_option maxRecDepth 100000 in
theorem same22 (H : Heap) (ks : List Int) (v w : Value) (h1 : Own H 3 1 v ks.length (ks.map ik)) (h2 : Own H 3 1 w ks.length (ks.map ik)) (hl : ks.length ≤ 4194304) :
    FN Try.prog 22 [v, w] H (fun r H' => r = .bool true ∧ H = H') := by
  obtain ⟨p, c, rfl⟩ := h1.val
  obtain ⟨p2, c2, rfl⟩ := h2.val
  refine fn_intro 26 Try.func22 rfl Try.ntmps22 rfl ?_
  refine wc_seq ?_
  refine wc_plain ?_
  refine wf_rd _ rfl rfl (RD.assign rfl) rfl ?_
  refine wf_nil ?_
  refine at_thn ?_
  refine wc_seq ?_
  refine wc_seq ?_
  refine wc_plain ?_
  refine wf_rd _ rfl rfl (RD.move rfl) rfl ?_
  refine wf_rd _ rfl rfl (RD.lenSl rfl Try.underlying46) rfl ?_
  refine wf_rd _ rfl rfl (RD.move rfl) rfl ?_
  refine wf_rd _ rfl rfl (RD.lenSl rfl Try.underlying46) rfl ?_
  refine wf_rd _ rfl rfl (RD.neF rfl rfl) rfl ?_
  refine wf_nil ?_
  refine at_thn ?_
  refine wc_no rfl ?_
  refine wc_skip ?_
  refine at_thn ?_
  refine wc_seq ?_
  refine wc_seq ?_
  refine wc_plain ?_
  refine wf_rd _ rfl rfl (RD.assign rfl) rfl ?_
  refine wf_nil ?_
  refine at_thn ?_
  refine wc_block ?_
  refine wc_loop (fun i : Nat => [(0, .slice p ks.length c), (1, .slice p2 ks.length c2), (4, .bool false), (5, .int .i64 (i : Int))]) (fun i H1 => i ≤ ks.length ∧ H = H1) (fun i => ks.length - i) 0 ⟨rfl, rfl, rfl, rfl, trivial⟩ ⟨Nat.zero_le _, rfl⟩ ?_
  rintro j H1 ⟨hj, rfl⟩
  show WC _ _ _ _ [(0, .slice p ks.length c), (1, .slice p2 ks.length c2), (4, .bool false), (5, .int .i64 (j : Int))] H
  refine wc_seq ?_
  refine wc_seq ?_
  refine wc_plain ?_
  refine wf_rd _ rfl rfl (RD.move rfl) rfl ?_
  refine wf_rd _ rfl rfl (RD.move rfl) rfl ?_
  refine wf_rd _ rfl rfl (RD.lenSl rfl Try.underlying46) rfl ?_
  refine wf_rd _ rfl rfl (RD.cmp _ rfl rfl rfl) rfl ?_
  refine wf_nil ?_
  refine at_thn ?_
  refine wc_cond rfl (fun hc14 => ?_) (fun hc14 => ?_)
  ·
    have hlt : j < ks.length := by simpa using hc14
    obtain ⟨a, haj⟩ : ∃ a, ks[j]? = some a := ⟨_, List.getElem?_eq_getElem hlt⟩
    obtain ⟨g, cap, cs, e9, hg, hca⟩ := own_int_at h1 haj
    cases e9
    obtain ⟨g2, cap2, cs2, e8, hg2, hca2⟩ := own_int_at h2 haj
    cases e8
    refine wc_skip ?_
    refine at_thn ?_
    refine wc_seq ?_
    refine wc_block ?_
    refine wc_seq ?_
    refine wc_drawn [(0, 0), (1, 0), (2, 0), (3, 0), (4, 0), (5, 0), (6, 0), (7, 0), (8, 0)] (fun _ => True) (by kernel_rfl) (by kernel_rfl) trivial ?_
    refine wf_rd _ rfl rfl (RD.move rfl) rfl ?_
    refine wf_rd _ rfl rfl (RD.move rfl) rfl ?_
    refine wf_rd _ rfl rfl (RD.indexN rfl rfl Try.underlying46 Try.sizeOf3 hlt) rfl ?_
    refine wf_rd _ rfl rfl (RD.load rfl (LD.one Try.isAgg3 hg hca)) rfl ?_
    refine wf_rd _ rfl rfl (RD.move rfl) rfl ?_
    refine wf_rd _ rfl rfl (RD.move rfl) rfl ?_
    refine wf_rd _ rfl rfl (RD.indexN rfl rfl Try.underlying46 Try.sizeOf3 hlt) rfl ?_
    refine wf_rd _ rfl rfl (RD.load rfl (LD.one Try.isAgg3 hg2 hca2)) rfl ?_
    refine wf_rd _ rfl rfl (RD.neF rfl rfl) rfl ?_
    refine wf_nil ?_
    refine at_thn ?_
    refine wc_no rfl ?_
    refine wc_skip ?_
    refine at_inB ?_
    refine at_thn ?_
    refine wc_plain ?_
    refine wf_rd _ rfl rfl (RD.move rfl) rfl ?_
    refine wf_rd _ rfl rfl (RD.add64 rfl rfl (by omega)) rfl ?_
    refine wf_rd _ rfl rfl (RD.assign rfl) rfl ?_
    refine wf_nil ?_
    refine at_lp (j + 1) (by show ks.length - (j + 1) < ks.length - j; omega) ⟨rfl, rfl, rfl, rfl, trivial⟩ ⟨by omega, rfl⟩
  ·
    refine wc_exit ?_
    refine at_thn_exit ?_
    refine at_lp_exit ?_
    refine at_inB_out ?_
    refine at_thn ?_
    refine wc_seq ?_
    refine wc_plain ?_
    refine wf_rd _ rfl rfl (RD.assign rfl) rfl ?_
    refine wf_nil ?_
    refine at_thn ?_
    refine wc_ret ?_
    refine at_ret1 rfl rfl ?_
    exact ⟨rfl, rfl⟩
theorem cloneInts (H : Heap) (v : Value) (ks : List Int) (h : Own H 3 1 v ks.length (ks.map ik)) (hl : ks.length ≤ 2097152) :
    FN Try.prog 38 [v] H (fun v' H' => Own H' 3 1 v' ks.length (ks.map ik) ∧ (∀ g, v'.ownBlock = some g → H.size ≤ g) ∧ Ext H H') := by
  rcases h.2 with ⟨rfl, h0⟩ | ⟨g, cap, cur, rfl, h0, h3, h4, h5, h6, h7⟩
  · refine (clone38_nil H).mono ?_
    rintro _ _ ⟨rfl, rfl⟩
    exact ⟨⟨h.1, .inl ⟨rfl, h0⟩⟩, by simp [Value.ownBlock], Ext.refl _⟩
  · have h8 : (cur.toList.drop 0).take (ks.length * 1) = ks.map ik := by rw [List.drop_zero]; exact h7
    refine (clone38 H g 0 ks.length cap cur.toList 3 (0, 0) (by simpa using h3) (by simp [h6]; omega) (by rw [h8]; intro u hu; obtain ⟨k, _, rfl⟩ := List.mem_map.1 hu; rfl) hl).mono ?_
    rintro v' H' ⟨⟨g', e, hg'⟩, ho, hx⟩
    rw [h8] at ho
    exact ⟨ho, fun g'' e' => by rw [e] at e'; have := Option.some.inj e'; omega, hx⟩
set_option maxRecDepth 100000 in
theorem consumers23 (f : Nat) (H : Heap) (B : QB) (S : QS) (Z : Int → Nat → Prop) (h : QInv f H B S Z) (hl : S.tn.length ≤ 2097152) :
    FN Try.prog 23 [(.pointer (some ⟨B.q, 0, none⟩))] H (fun r H' => Own H' 3 1 r S.tn.length (S.tn.map ik) ∧ (∀ g, r.ownBlock = some g → H.size ≤ g) ∧ Ext H H') := by
  have hq := h.q
  have hcl := cloneInts H B.t S.tn h.tn hl
  refine fn_intro 8 Try.func23 rfl Try.ntmps23 rfl ?_
  refine wc_seq ?_
  refine wc_plain ?_
  refine wf_rd _ rfl rfl (RD.assign rfl) rfl ?_
  refine wf_nil ?_
  refine at_thn ?_
  refine wc_seq ?_
  refine wc_plain ?_
  refine wf_rd _ rfl rfl (RD.move rfl) rfl ?_
  refine wf_rd _ rfl rfl (RD.nilCheck rfl) rfl ?_
  refine wf_rd _ rfl rfl (RD.field rfl Try.underlying63 rfl Try.sizeOf46) rfl ?_
  refine wf_rd _ rfl rfl (RD.load rfl (LD.one Try.isAgg46 hq rfl)) rfl ?_
  refine wf_call rfl en38 rfl rfl hcl ?_
  rintro v' H1 ⟨ho, hy, hx⟩
  refine ⟨trivial, ?_⟩
  refine wf_rd _ rfl rfl (RD.assign rfl) rfl ?_
  refine wf_nil ?_
  refine at_thn ?_
  refine wc_ret ?_
  refine at_ret1 rfl rfl ?_
  exact ⟨ho, hy, hx⟩
end Go.Proofs.Ytfomnjippakjpaa
