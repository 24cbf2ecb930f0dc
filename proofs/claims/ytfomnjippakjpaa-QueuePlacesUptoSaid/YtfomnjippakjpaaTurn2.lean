/-
  Contracts of functions of the given program, at the blocks of memory that they read and write.
-/
import Derived.Test.YtfomnjippakjpaaLeave
import Derived.Test.YtfomnjippakjpaaRows
namespace Go.Proofs.Ytfomnjippakjpaa
open Go.S

set_option maxRecDepth 100000 in
theorem turn20 (f : Nat) (H : Heap) (B : QB) (S : QS) (Z : Int → Nat → Prop) (g : Nat) (caps : List Value) (P : Int → Bool) (x : Int) (j0 : Nat) (h : QInv f H B S Z) (hl : S.tn.length ≤ 4194000)
    (hent : ∀ A w, (callFunc g A).run Try.prog w = .ok (.enter g A) w) (hcan : ∀ H y, FN Try.prog g ([.int .i64 y] ++ caps) H (fun r H' => r = .bool (P y) ∧ H = H'))
    (hx0 : S.tn[j0]? = some x) (hpx : P x = true) (hno : ∀ k y, k < j0 → S.tn[k]? = some y → P y = false) :
    FN Try.prog 20 [(.pointer (some ⟨B.q, 0, none⟩)), .func (.func g) #[] caps.toArray] H (fun r H' => r = .tuple [.int .i64 x, .bool true].toArray ∧ ∃ t', QInv f H' { B with t := t' } { S with tn := S.tn.filter (· != x) ++ [x] } Z ∧ mov H B.t t' ∧ Frm B.mut H H') := by
  have hq := h.q
  have hown := h.tn
  obtain ⟨p, c, hbt⟩ := hown.val
  have hj0 := (List.getElem?_eq_some_iff.1 hx0).1
  have hval : (B.cells S)[14]? = some (.slice p S.tn.length c) := by rw [← hbt]; rfl
  rw [hbt] at hown
  refine fn_intro 28 Try.func20 rfl Try.ntmps20 rfl ?_
  refine wc_seq ?_
  refine wc_plain ?_
  refine wf_rd _ rfl rfl (RD.assign rfl) rfl ?_
  refine wf_rd _ rfl rfl (RD.assign rfl) rfl ?_
  refine wf_nil ?_
  refine at_thn ?_
  refine wc_seq ?_
  refine wc_seq ?_
  refine wc_plain ?_
  refine wf_rd _ rfl rfl (RD.move rfl) rfl ?_
  refine wf_rd _ rfl rfl (RD.nilCheck rfl) rfl ?_
  refine wf_rd _ rfl rfl (RD.field rfl Try.underlying63 rfl Try.sizeOf46) rfl ?_
  refine wf_rd _ rfl rfl (RD.load rfl (LD.one Try.isAgg46 hq hval)) rfl ?_
  refine wf_rd _ rfl rfl (RD.lenSl rfl Try.underlying46) rfl ?_
  refine wf_rd _ rfl rfl (RD.move rfl) rfl ?_
  refine wf_nil ?_
  refine at_thn ?_
  refine wc_block ?_
  refine wc_loop (fun i : Nat => [(0, (.pointer (some ⟨B.q, 0, none⟩))), (1, .func (.func g) #[] caps.toArray), (4, .int .i64 0), (5, .bool false), (11, .slice p S.tn.length c), (12, .int .i64 S.tn.length), (13, .int .i64 (i : Int))]) (fun i H1 => i ≤ j0 ∧ H = H1) (fun i => S.tn.length - i) 0 ⟨rfl, rfl, rfl, rfl, rfl, rfl, rfl, trivial⟩ ⟨Nat.zero_le _, rfl⟩ ?_
  rintro j H1 ⟨hj, rfl⟩
  show WC _ _ _ _ [(0, (.pointer (some ⟨B.q, 0, none⟩))), (1, .func (.func g) #[] caps.toArray), (4, .int .i64 0), (5, .bool false), (11, .slice p S.tn.length c), (12, .int .i64 S.tn.length), (13, .int .i64 (j : Int))] H
  have hlt : j < S.tn.length := by omega
  obtain ⟨a, haj⟩ : ∃ a, S.tn[j]? = some a := ⟨_, List.getElem?_eq_getElem hlt⟩
  obtain ⟨bg, cap, cs, e9, hg, hca⟩ := own_int_at hown haj
  cases e9
  refine wc_seq ?_
  refine wc_plain ?_
  refine wf_rd _ rfl rfl (RD.cmp true rfl rfl (congrArg some (decide_eq_true (by omega)))) rfl ?_
  refine wf_nil ?_
  refine at_thn ?_
  refine wc_seq ?_
  refine wc_yes rfl ?_
  refine wc_skip ?_
  refine at_thn ?_
  refine wc_seq ?_
  refine wc_block ?_
  refine wc_seq ?_
  refine wc_plain ?_
  refine wf_rd _ rfl rfl (RD.indexN rfl rfl Try.underlying46 Try.sizeOf3 hlt) rfl ?_
  refine wf_rd _ rfl rfl (RD.load rfl (LD.one Try.isAgg3 hg hca)) rfl ?_
  refine wf_rd _ rfl rfl (RD.assign rfl) rfl ?_
  refine wf_nil ?_
  refine at_thn ?_
  refine wc_seq ?_
  refine wc_plain ?_
  refine wf_rd _ rfl rfl (RD.move rfl) rfl ?_
  refine wf_rd _ rfl rfl (RD.move rfl) rfl ?_
  refine wf_callv (caps := caps) rfl rfl (hent) rfl rfl (hcan H a) ?_
  rintro _ _ ⟨rfl, rfl⟩
  refine ⟨trivial, ?_⟩
  refine wf_nil ?_
  refine at_thn ?_
  refine wc_cond rfl (fun hc19 => ?_) (fun hc19 => ?_)
  ·
    have hax : a = x := by
      rcases Nat.lt_or_ge j j0 with h1 | h1
      · have := hno j a h1 haj; rw [this] at hc19; cases hc19
      · obtain rfl : j = j0 := by omega
        rw [hx0] at haj; exact (Option.some.inj haj).symm
    subst hax
    refine wc_seq ?_
    refine wc_plain ?_
    refine wf_rd _ rfl rfl (RD.move rfl) rfl ?_
    refine wf_rd _ rfl rfl (RD.move rfl) rfl ?_
    refine wf_call rfl en37 rfl rfl (leave37 f H B S Z a h (List.mem_of_getElem? haj) (by omega)) ?_
    rintro _ H2 ⟨t2, b2, rfl, h2, hm2, hf2⟩
    refine ⟨trivial, ?_⟩
    refine wf_nil ?_
    refine at_thn ?_
    refine wc_seq ?_
    refine wc_plain ?_
    refine wf_rd _ rfl rfl (RD.move rfl) rfl ?_
    refine wf_rd _ rfl rfl (RD.move rfl) rfl ?_
    refine wf_call rfl en19 rfl rfl (join19 f H2 { B with t := t2 } _ Z a h2 (by simp) (Nat.le_trans (List.length_filter_le _ _) hl)) ?_
    rintro _ H3 ⟨rfl, t3, h3, hm3, hf3⟩
    refine ⟨trivial, ?_⟩
    refine wf_nil ?_
    refine at_thn ?_
    refine wc_seq ?_
    refine wc_plain ?_
    refine wf_rd _ rfl rfl (RD.move rfl) rfl ?_
    refine wf_rd _ rfl rfl (RD.assign rfl) rfl ?_
    refine wf_rd _ rfl rfl (RD.assign rfl) rfl ?_
    refine wf_nil ?_
    refine at_thn ?_
    refine wc_ret ?_
    refine at_inB_ret ?_
    refine at_thn_ret ?_
    refine at_lp_ret ?_
    refine at_inB_ret ?_
    refine at_thn_ret ?_
    refine at_ret2 rfl rfl rfl ?_
    have hm : mov H B.t t3 := by
      rcases hm3 with e | ⟨g3, e, hs⟩
      · exact hm2.imp (fun h => e.trans h) (fun ⟨g2, h1, h2⟩ => ⟨g2, e.trans h1, h2⟩)
      · exact .inr ⟨g3, e, Nat.le_trans hf2.size hs⟩
    exact ⟨rfl, t3, h3, hm, hf2.trans' hf3 (mut_movt hm2)⟩
  ·
    refine wc_skip ?_
    refine at_inB ?_
    refine at_thn ?_
    refine wc_plain ?_
    refine wf_rd _ rfl rfl (RD.add64 rfl rfl (by omega)) rfl ?_
    refine wf_rd _ rfl rfl (RD.move rfl) rfl ?_
    refine wf_nil ?_
    refine at_lp (j + 1) (by show S.tn.length - (j + 1) < S.tn.length - j; omega) ⟨rfl, rfl, rfl, rfl, rfl, rfl, rfl, trivial⟩ ⟨?_, rfl⟩
    rcases Nat.lt_or_ge j j0 with h1 | h1
    · omega
    · obtain rfl : j = j0 := by omega
      rw [hx0] at haj; have := Option.some.inj haj; subst this; rw [hpx] at hc19; cases hc19
end Go.Proofs.Ytfomnjippakjpaa
