/-
  Contracts of functions of the given program, at the blocks of memory that they read and write.
-/
import Derived.Test.YtfomnjippakjpaaAnyOrd
import Derived.Test.YtfomnjippakjpaaQData
import Derived.Test.YtfomnjippakjpaaFacts
import Derived.Test.YtfomnjippakjpaaRows
namespace Go.Proofs.Ytfomnjippakjpaa
open Go.S

theorem built83_1 (m : Option Nat) : Try.prog.built 83 [(1, .map m)] = some [.slice none 0 0, .map m].toArray := by kernel_rfl
theorem built85_0 (p : Option Addr) (n c : Nat) (m : Option Nat) : Try.prog.built 85 [(0, .agg #[.slice p n c, .map m])] = some [.slice p n c, .map m].toArray := by kernel_rfl
theorem built63 (cf : CF) (m1 : Option Nat) (p : Option Addr) (m3 : Option Nat) : Try.prog.built 63 [(0, .agg cf.cells.toArray), (1, .map m1), (2, .pointer p), (3, .map m3)] = some (cf.cells ++ ([.map m1, .pointer p, .map m3, .int .i64 0, .slice none 0 0] : List Value)).toArray := by kernel_rfl
set_option maxRecDepth 100000 in
theorem new24 (H : Heap) : FN Try.prog 24 [] H (fun r H' => ∃ l bm, r = .pointer (some ⟨l, 0, none⟩) ∧ H'[l]? = some (.cells [.slice none 0 0, .map (some bm)].toArray 85 (0, 0)) ∧ H'[bm]? = some (.map ([] : List MapEntry).toArray 0) ∧ H.size ≤ l ∧ H.size ≤ bm ∧ l ≠ bm ∧ Ext H H') := by
  refine fn_intro 5 Try.func24 rfl Try.ntmps24 rfl ?_
  refine wc_seq ?_
  refine wc_plain ?_
  refine wf_rd _ rfl rfl (RD.assign rfl) rfl ?_
  refine wf_nil ?_
  refine at_thn ?_
  refine wc_seq ?_
  refine wc_plain ?_
  refine wf_mkMap rfl rfl (fun b1 H1 e1 z1 hb1 hk1 => ⟨trivial, ?_⟩)
  refine wf_rd _ rfl rfl (RD.build rfl (built83_1 _)) rfl ?_
  refine wf_rd _ rfl rfl (RD.build rfl (built85_0 _ _ _ _)) rfl ?_
  refine wf_box rfl rfl rfl rfl (fun b4 H2 e4 z2 hb4 hk2 => ⟨trivial, ?_⟩)
  have n4_hb1 := ne_new hb1 e4
  replace hb1 := (hk2 _ (lt_of hb1)).trans hb1
  refine wf_rd _ rfl rfl (RD.assign rfl) rfl ?_
  refine wf_nil ?_
  refine at_thn ?_
  refine wc_ret ?_
  refine at_ret1 rfl rfl ?_
  exact ⟨b4, b1, rfl, hb4, hb1, by omega, by omega, by omega, (Ext.new z1 hk1).trans (Ext.new z2 hk2)⟩
set_option maxRecDepth 100000 in
theorem new6 (f : Nat) (H : Heap) (cf : CF) : FN Try.prog 6 [.agg cf.cells.toArray] H (fun r H' => ∃ B : QB, r = .pointer (some ⟨B.q, 0, none⟩) ∧ QInv f H' B ⟨cf, [], fun _ => none, [], 0, []⟩ (fun _ _ => False) ∧ (∀ b, B.mut b → H.size ≤ b) ∧ Ext H H') := by
  refine fn_intro 9 Try.func6 rfl Try.ntmps6 rfl ?_
  refine wc_seq ?_
  refine wc_plain ?_
  refine wf_box rfl rfl rfl rfl (fun b1 H1 e1 z1 hb1 hk1 => ⟨trivial, ?_⟩)
  refine wf_rd _ rfl rfl (RD.assign rfl) rfl ?_
  refine wf_nil ?_
  refine at_thn ?_
  refine wc_seq ?_
  refine wc_any (by kernel_rfl) ?_
  refine wa_step [0, 1, 2, 3] (by kernel_rfl) rfl (List.forall_mem_cons.2 ⟨⟨_, rfl, ?_⟩, List.forall_mem_cons.2 ⟨⟨_, rfl, ?_⟩, List.forall_mem_cons.2 ⟨⟨_, rfl, ?_⟩, List.forall_mem_cons.2 ⟨⟨_, rfl, ?_⟩, fun _ h => nomatch h⟩⟩⟩⟩)
  ·
    refine wf_rd _ rfl rfl (RD.load rfl (LD.all Try.isAgg23 Try.sizeOf23 hb1 rfl)) rfl ?_
    refine wa_next ?_
    refine wa_step [1, 2, 3] (by kernel_rfl) rfl (List.forall_mem_cons.2 ⟨⟨_, rfl, ?_⟩, List.forall_mem_cons.2 ⟨⟨_, rfl, ?_⟩, List.forall_mem_cons.2 ⟨⟨_, rfl, ?_⟩, fun _ h => nomatch h⟩⟩⟩)
    ·
      refine wf_mkMap rfl rfl (fun b4 H2 e4 z2 hb4 hk2 => ⟨trivial, ?_⟩)
      have n4_hb1 := ne_new hb1 e4
      replace hb1 := (hk2 _ (lt_of hb1)).trans hb1
      refine wa_next ?_
      refine wa_step [2, 3] (by kernel_rfl) rfl (List.forall_mem_cons.2 ⟨⟨_, rfl, ?_⟩, List.forall_mem_cons.2 ⟨⟨_, rfl, ?_⟩, fun _ h => nomatch h⟩⟩)
      ·
        refine wf_call rfl en24 rfl rfl (new24 H2) ?_
        rintro _ H3 ⟨l, bm, rfl, hl, hbm, hsl, hsb, nlb, hx24⟩
        have zl := lt_of hl
        have zb := lt_of hbm
        have zx := hx24.size
        replace hb1 := hx24.keep hb1
        replace hb4 := hx24.keep hb4
        refine ⟨trivial, ?_⟩
        refine wa_next ?_
        refine wa_step [3] (by kernel_rfl) rfl (List.forall_mem_cons.2 ⟨⟨_, rfl, ?_⟩, fun _ h => nomatch h⟩)
        ·
          refine wf_mkMap rfl rfl (fun b6 H4 e6 z4 hb6 hk4 => ⟨trivial, ?_⟩)
          have n6_hb1 := ne_new hb1 e6
          have n6_hb4 := ne_new hb4 e6
          have n6_hl := ne_new hl e6
          have n6_hbm := ne_new hbm e6
          replace hb1 := (hk4 _ (lt_of hb1)).trans hb1
          replace hb4 := (hk4 _ (lt_of hb4)).trans hb4
          replace hl := (hk4 _ (lt_of hl)).trans hl
          replace hbm := (hk4 _ (lt_of hbm)).trans hbm
          refine wa_next ?_
          refine wa_step [4] (by kernel_rfl) rfl (List.forall_mem_cons.2 ⟨⟨_, rfl, ?_⟩, fun _ h => nomatch h⟩)
          ·
            refine wf_rd _ rfl rfl (RD.build rfl (built63 cf _ _ _)) rfl ?_
            refine wa_next ?_
            refine wa_step [5] (by kernel_rfl) rfl (List.forall_mem_cons.2 ⟨⟨_, rfl, ?_⟩, fun _ h => nomatch h⟩)
            ·
              refine wf_box rfl rfl rfl rfl (fun b8 H5 e8 z5 hb8 hk5 => ⟨trivial, ?_⟩)
              have n8_hb1 := ne_new hb1 e8
              have n8_hb4 := ne_new hb4 e8
              have n8_hl := ne_new hl e8
              have n8_hbm := ne_new hbm e8
              have n8_hb6 := ne_new hb6 e8
              replace hb1 := (hk5 _ (lt_of hb1)).trans hb1
              replace hb4 := (hk5 _ (lt_of hb4)).trans hb4
              replace hl := (hk5 _ (lt_of hl)).trans hl
              replace hbm := (hk5 _ (lt_of hbm)).trans hbm
              replace hb6 := (hk5 _ (lt_of hb6)).trans hb6
              refine wa_next ?_
              refine wa_step [6] (by kernel_rfl) rfl (List.forall_mem_cons.2 ⟨⟨_, rfl, ?_⟩, fun _ h => nomatch h⟩)
              ·
                refine wf_rd _ rfl rfl (RD.assign rfl) rfl ?_
                refine wa_next ?_
                refine wa_end (by kernel_rfl) ?_
                refine at_thn ?_
                refine wc_ret ?_
                refine at_ret1 rfl rfl ?_
                exact ⟨⟨b8, l, bm, b4, b6, .slice none 0 0, .slice none 0 0⟩, rfl, ⟨⟨by dsimp only; omega, by dsimp only; omega, by dsimp only; omega, by dsimp only; omega, by dsimp only; omega, by dsimp only; omega, by dsimp only; omega, by dsimp only; omega, by dsimp only; omega, by dsimp only; omega, by simp [Value.ownBlock], by simp [Value.ownBlock]⟩, hb8, ⟨⟨_, hl⟩, Own.nil _ _ _, [], 0, hbm, MI.nil 0, ⟨by simp, fun _ _ => rfl⟩⟩, fun k h0 hk => absurd hk (by simp), ⟨[], 0, hb4, MI.nil 0, fun _ => rfl⟩, ⟨[], 0, hb6, MI.nil 0, fun _ => by simp [Go.S.look_nil], rfl, by simp⟩, Own.nil _ _ _, fun _ _ h => h.elim, fun _ _ _ h => h.elim⟩, (by rintro b (h | h | h | h | h | h | h) <;> first | (have h1 : b = _ := h; subst h1; omega) | (simp [Value.ownBlock] at h)), (((((Ext.new z1 hk1).trans (Ext.new z2 hk2)).trans hx24).trans (Ext.new z4 hk4)).trans (Ext.new z5 hk5))⟩
      ·
        refine wf_mkMap rfl rfl (fun b6 H3 e6 z3 hb6 hk3 => ⟨trivial, ?_⟩)
        have n6_hb1 := ne_new hb1 e6
        have n6_hb4 := ne_new hb4 e6
        replace hb1 := (hk3 _ (lt_of hb1)).trans hb1
        replace hb4 := (hk3 _ (lt_of hb4)).trans hb4
        refine wa_next ?_
        refine wa_step [2] (by kernel_rfl) rfl (List.forall_mem_cons.2 ⟨⟨_, rfl, ?_⟩, fun _ h => nomatch h⟩)
        ·
          refine wf_call rfl en24 rfl rfl (new24 H3) ?_
          rintro _ H4 ⟨l, bm, rfl, hl, hbm, hsl, hsb, nlb, hx24⟩
          have zl := lt_of hl
          have zb := lt_of hbm
          have zx := hx24.size
          replace hb1 := hx24.keep hb1
          replace hb4 := hx24.keep hb4
          replace hb6 := hx24.keep hb6
          refine ⟨trivial, ?_⟩
          refine wa_next ?_
          refine wa_step [4] (by kernel_rfl) rfl (List.forall_mem_cons.2 ⟨⟨_, rfl, ?_⟩, fun _ h => nomatch h⟩)
          ·
            refine wf_rd _ rfl rfl (RD.build rfl (built63 cf _ _ _)) rfl ?_
            refine wa_next ?_
            refine wa_step [5] (by kernel_rfl) rfl (List.forall_mem_cons.2 ⟨⟨_, rfl, ?_⟩, fun _ h => nomatch h⟩)
            ·
              refine wf_box rfl rfl rfl rfl (fun b8 H5 e8 z5 hb8 hk5 => ⟨trivial, ?_⟩)
              have n8_hb1 := ne_new hb1 e8
              have n8_hb4 := ne_new hb4 e8
              have n8_hb6 := ne_new hb6 e8
              have n8_hl := ne_new hl e8
              have n8_hbm := ne_new hbm e8
              replace hb1 := (hk5 _ (lt_of hb1)).trans hb1
              replace hb4 := (hk5 _ (lt_of hb4)).trans hb4
              replace hb6 := (hk5 _ (lt_of hb6)).trans hb6
              replace hl := (hk5 _ (lt_of hl)).trans hl
              replace hbm := (hk5 _ (lt_of hbm)).trans hbm
              refine wa_next ?_
              refine wa_step [6] (by kernel_rfl) rfl (List.forall_mem_cons.2 ⟨⟨_, rfl, ?_⟩, fun _ h => nomatch h⟩)
              ·
                refine wf_rd _ rfl rfl (RD.assign rfl) rfl ?_
                refine wa_next ?_
                refine wa_end (by kernel_rfl) ?_
                refine at_thn ?_
                refine wc_ret ?_
                refine at_ret1 rfl rfl ?_
                exact ⟨⟨b8, l, bm, b4, b6, .slice none 0 0, .slice none 0 0⟩, rfl, ⟨⟨by dsimp only; omega, by dsimp only; omega, by dsimp only; omega, by dsimp only; omega, by dsimp only; omega, by dsimp only; omega, by dsimp only; omega, by dsimp only; omega, by dsimp only; omega, by dsimp only; omega, by simp [Value.ownBlock], by simp [Value.ownBlock]⟩, hb8, ⟨⟨_, hl⟩, Own.nil _ _ _, [], 0, hbm, MI.nil 0, ⟨by simp, fun _ _ => rfl⟩⟩, fun k h0 hk => absurd hk (by simp), ⟨[], 0, hb4, MI.nil 0, fun _ => rfl⟩, ⟨[], 0, hb6, MI.nil 0, fun _ => by simp [Go.S.look_nil], rfl, by simp⟩, Own.nil _ _ _, fun _ _ h => h.elim, fun _ _ _ h => h.elim⟩, (by rintro b (h | h | h | h | h | h | h) <;> first | (have h1 : b = _ := h; subst h1; omega) | (simp [Value.ownBlock] at h)), (((((Ext.new z1 hk1).trans (Ext.new z2 hk2)).trans (Ext.new z3 hk3)).trans hx24).trans (Ext.new z5 hk5))⟩
    ·
      refine wf_call rfl en24 rfl rfl (new24 H1) ?_
      rintro _ H2 ⟨l, bm, rfl, hl, hbm, hsl, hsb, nlb, hx24⟩
      have zl := lt_of hl
      have zb := lt_of hbm
      have zx := hx24.size
      replace hb1 := hx24.keep hb1
      refine ⟨trivial, ?_⟩
      refine wa_next ?_
      refine wa_step [1, 3] (by kernel_rfl) rfl (List.forall_mem_cons.2 ⟨⟨_, rfl, ?_⟩, List.forall_mem_cons.2 ⟨⟨_, rfl, ?_⟩, fun _ h => nomatch h⟩⟩)
      ·
        refine wf_mkMap rfl rfl (fun b4 H3 e4 z3 hb4 hk3 => ⟨trivial, ?_⟩)
        have n4_hb1 := ne_new hb1 e4
        have n4_hl := ne_new hl e4
        have n4_hbm := ne_new hbm e4
        replace hb1 := (hk3 _ (lt_of hb1)).trans hb1
        replace hl := (hk3 _ (lt_of hl)).trans hl
        replace hbm := (hk3 _ (lt_of hbm)).trans hbm
        refine wa_next ?_
        refine wa_step [3] (by kernel_rfl) rfl (List.forall_mem_cons.2 ⟨⟨_, rfl, ?_⟩, fun _ h => nomatch h⟩)
        ·
          refine wf_mkMap rfl rfl (fun b6 H4 e6 z4 hb6 hk4 => ⟨trivial, ?_⟩)
          have n6_hb1 := ne_new hb1 e6
          have n6_hl := ne_new hl e6
          have n6_hbm := ne_new hbm e6
          have n6_hb4 := ne_new hb4 e6
          replace hb1 := (hk4 _ (lt_of hb1)).trans hb1
          replace hl := (hk4 _ (lt_of hl)).trans hl
          replace hbm := (hk4 _ (lt_of hbm)).trans hbm
          replace hb4 := (hk4 _ (lt_of hb4)).trans hb4
          refine wa_next ?_
          refine wa_step [4] (by kernel_rfl) rfl (List.forall_mem_cons.2 ⟨⟨_, rfl, ?_⟩, fun _ h => nomatch h⟩)
          ·
            refine wf_rd _ rfl rfl (RD.build rfl (built63 cf _ _ _)) rfl ?_
            refine wa_next ?_
            refine wa_step [5] (by kernel_rfl) rfl (List.forall_mem_cons.2 ⟨⟨_, rfl, ?_⟩, fun _ h => nomatch h⟩)
            ·
              refine wf_box rfl rfl rfl rfl (fun b8 H5 e8 z5 hb8 hk5 => ⟨trivial, ?_⟩)
              have n8_hb1 := ne_new hb1 e8
              have n8_hl := ne_new hl e8
              have n8_hbm := ne_new hbm e8
              have n8_hb4 := ne_new hb4 e8
              have n8_hb6 := ne_new hb6 e8
              replace hb1 := (hk5 _ (lt_of hb1)).trans hb1
              replace hl := (hk5 _ (lt_of hl)).trans hl
              replace hbm := (hk5 _ (lt_of hbm)).trans hbm
              replace hb4 := (hk5 _ (lt_of hb4)).trans hb4
              replace hb6 := (hk5 _ (lt_of hb6)).trans hb6
              refine wa_next ?_
              refine wa_step [6] (by kernel_rfl) rfl (List.forall_mem_cons.2 ⟨⟨_, rfl, ?_⟩, fun _ h => nomatch h⟩)
              ·
                refine wf_rd _ rfl rfl (RD.assign rfl) rfl ?_
                refine wa_next ?_
                refine wa_end (by kernel_rfl) ?_
                refine at_thn ?_
                refine wc_ret ?_
                refine at_ret1 rfl rfl ?_
                exact ⟨⟨b8, l, bm, b4, b6, .slice none 0 0, .slice none 0 0⟩, rfl, ⟨⟨by dsimp only; omega, by dsimp only; omega, by dsimp only; omega, by dsimp only; omega, by dsimp only; omega, by dsimp only; omega, by dsimp only; omega, by dsimp only; omega, by dsimp only; omega, by dsimp only; omega, by simp [Value.ownBlock], by simp [Value.ownBlock]⟩, hb8, ⟨⟨_, hl⟩, Own.nil _ _ _, [], 0, hbm, MI.nil 0, ⟨by simp, fun _ _ => rfl⟩⟩, fun k h0 hk => absurd hk (by simp), ⟨[], 0, hb4, MI.nil 0, fun _ => rfl⟩, ⟨[], 0, hb6, MI.nil 0, fun _ => by simp [Go.S.look_nil], rfl, by simp⟩, Own.nil _ _ _, fun _ _ h => h.elim, fun _ _ _ h => h.elim⟩, (by rintro b (h | h | h | h | h | h | h) <;> first | (have h1 : b = _ := h; subst h1; omega) | (simp [Value.ownBlock] at h)), (((((Ext.new z1 hk1).trans hx24).trans (Ext.new z3 hk3)).trans (Ext.new z4 hk4)).trans (Ext.new z5 hk5))⟩
      ·
        refine wf_mkMap rfl rfl (fun b6 H3 e6 z3 hb6 hk3 => ⟨trivial, ?_⟩)
        have n6_hb1 := ne_new hb1 e6
        have n6_hl := ne_new hl e6
        have n6_hbm := ne_new hbm e6
        replace hb1 := (hk3 _ (lt_of hb1)).trans hb1
        replace hl := (hk3 _ (lt_of hl)).trans hl
        replace hbm := (hk3 _ (lt_of hbm)).trans hbm
        refine wa_next ?_
        refine wa_step [1] (by kernel_rfl) rfl (List.forall_mem_cons.2 ⟨⟨_, rfl, ?_⟩, fun _ h => nomatch h⟩)
        ·
          refine wf_mkMap rfl rfl (fun b4 H4 e4 z4 hb4 hk4 => ⟨trivial, ?_⟩)
          have n4_hb1 := ne_new hb1 e4
          have n4_hl := ne_new hl e4
          have n4_hbm := ne_new hbm e4
          have n4_hb6 := ne_new hb6 e4
          replace hb1 := (hk4 _ (lt_of hb1)).trans hb1
          replace hl := (hk4 _ (lt_of hl)).trans hl
          replace hbm := (hk4 _ (lt_of hbm)).trans hbm
          replace hb6 := (hk4 _ (lt_of hb6)).trans hb6
          refine wa_next ?_
          refine wa_step [4] (by kernel_rfl) rfl (List.forall_mem_cons.2 ⟨⟨_, rfl, ?_⟩, fun _ h => nomatch h⟩)
          ·
            refine wf_rd _ rfl rfl (RD.build rfl (built63 cf _ _ _)) rfl ?_
            refine wa_next ?_
            refine wa_step [5] (by kernel_rfl) rfl (List.forall_mem_cons.2 ⟨⟨_, rfl, ?_⟩, fun _ h => nomatch h⟩)
            ·
              refine wf_box rfl rfl rfl rfl (fun b8 H5 e8 z5 hb8 hk5 => ⟨trivial, ?_⟩)
              have n8_hb1 := ne_new hb1 e8
              have n8_hl := ne_new hl e8
              have n8_hbm := ne_new hbm e8
              have n8_hb6 := ne_new hb6 e8
              have n8_hb4 := ne_new hb4 e8
              replace hb1 := (hk5 _ (lt_of hb1)).trans hb1
              replace hl := (hk5 _ (lt_of hl)).trans hl
              replace hbm := (hk5 _ (lt_of hbm)).trans hbm
              replace hb6 := (hk5 _ (lt_of hb6)).trans hb6
              replace hb4 := (hk5 _ (lt_of hb4)).trans hb4
              refine wa_next ?_
              refine wa_step [6] (by kernel_rfl) rfl (List.forall_mem_cons.2 ⟨⟨_, rfl, ?_⟩, fun _ h => nomatch h⟩)
              ·
                refine wf_rd _ rfl rfl (RD.assign rfl) rfl ?_
                refine wa_next ?_
                refine wa_end (by kernel_rfl) ?_
                refine at_thn ?_
                refine wc_ret ?_
                refine at_ret1 rfl rfl ?_
                exact ⟨⟨b8, l, bm, b4, b6, .slice none 0 0, .slice none 0 0⟩, rfl, ⟨⟨by dsimp only; omega, by dsimp only; omega, by dsimp only; omega, by dsimp only; omega, by dsimp only; omega, by dsimp only; omega, by dsimp only; omega, by dsimp only; omega, by dsimp only; omega, by dsimp only; omega, by simp [Value.ownBlock], by simp [Value.ownBlock]⟩, hb8, ⟨⟨_, hl⟩, Own.nil _ _ _, [], 0, hbm, MI.nil 0, ⟨by simp, fun _ _ => rfl⟩⟩, fun k h0 hk => absurd hk (by simp), ⟨[], 0, hb4, MI.nil 0, fun _ => rfl⟩, ⟨[], 0, hb6, MI.nil 0, fun _ => by simp [Go.S.look_nil], rfl, by simp⟩, Own.nil _ _ _, fun _ _ h => h.elim, fun _ _ _ h => h.elim⟩, (by rintro b (h | h | h | h | h | h | h) <;> first | (have h1 : b = _ := h; subst h1; omega) | (simp [Value.ownBlock] at h)), (((((Ext.new z1 hk1).trans hx24).trans (Ext.new z3 hk3)).trans (Ext.new z4 hk4)).trans (Ext.new z5 hk5))⟩
    ·
      refine wf_mkMap rfl rfl (fun b6 H2 e6 z2 hb6 hk2 => ⟨trivial, ?_⟩)
      have n6_hb1 := ne_new hb1 e6
      replace hb1 := (hk2 _ (lt_of hb1)).trans hb1
      refine wa_next ?_
      refine wa_step [1, 2] (by kernel_rfl) rfl (List.forall_mem_cons.2 ⟨⟨_, rfl, ?_⟩, List.forall_mem_cons.2 ⟨⟨_, rfl, ?_⟩, fun _ h => nomatch h⟩⟩)
      ·
        refine wf_mkMap rfl rfl (fun b4 H3 e4 z3 hb4 hk3 => ⟨trivial, ?_⟩)
        have n4_hb1 := ne_new hb1 e4
        have n4_hb6 := ne_new hb6 e4
        replace hb1 := (hk3 _ (lt_of hb1)).trans hb1
        replace hb6 := (hk3 _ (lt_of hb6)).trans hb6
        refine wa_next ?_
        refine wa_step [2] (by kernel_rfl) rfl (List.forall_mem_cons.2 ⟨⟨_, rfl, ?_⟩, fun _ h => nomatch h⟩)
        ·
          refine wf_call rfl en24 rfl rfl (new24 H3) ?_
          rintro _ H4 ⟨l, bm, rfl, hl, hbm, hsl, hsb, nlb, hx24⟩
          have zl := lt_of hl
          have zb := lt_of hbm
          have zx := hx24.size
          replace hb1 := hx24.keep hb1
          replace hb6 := hx24.keep hb6
          replace hb4 := hx24.keep hb4
          refine ⟨trivial, ?_⟩
          refine wa_next ?_
          refine wa_step [4] (by kernel_rfl) rfl (List.forall_mem_cons.2 ⟨⟨_, rfl, ?_⟩, fun _ h => nomatch h⟩)
          ·
            refine wf_rd _ rfl rfl (RD.build rfl (built63 cf _ _ _)) rfl ?_
            refine wa_next ?_
            refine wa_step [5] (by kernel_rfl) rfl (List.forall_mem_cons.2 ⟨⟨_, rfl, ?_⟩, fun _ h => nomatch h⟩)
            ·
              refine wf_box rfl rfl rfl rfl (fun b8 H5 e8 z5 hb8 hk5 => ⟨trivial, ?_⟩)
              have n8_hb1 := ne_new hb1 e8
              have n8_hb6 := ne_new hb6 e8
              have n8_hb4 := ne_new hb4 e8
              have n8_hl := ne_new hl e8
              have n8_hbm := ne_new hbm e8
              replace hb1 := (hk5 _ (lt_of hb1)).trans hb1
              replace hb6 := (hk5 _ (lt_of hb6)).trans hb6
              replace hb4 := (hk5 _ (lt_of hb4)).trans hb4
              replace hl := (hk5 _ (lt_of hl)).trans hl
              replace hbm := (hk5 _ (lt_of hbm)).trans hbm
              refine wa_next ?_
              refine wa_step [6] (by kernel_rfl) rfl (List.forall_mem_cons.2 ⟨⟨_, rfl, ?_⟩, fun _ h => nomatch h⟩)
              ·
                refine wf_rd _ rfl rfl (RD.assign rfl) rfl ?_
                refine wa_next ?_
                refine wa_end (by kernel_rfl) ?_
                refine at_thn ?_
                refine wc_ret ?_
                refine at_ret1 rfl rfl ?_
                exact ⟨⟨b8, l, bm, b4, b6, .slice none 0 0, .slice none 0 0⟩, rfl, ⟨⟨by dsimp only; omega, by dsimp only; omega, by dsimp only; omega, by dsimp only; omega, by dsimp only; omega, by dsimp only; omega, by dsimp only; omega, by dsimp only; omega, by dsimp only; omega, by dsimp only; omega, by simp [Value.ownBlock], by simp [Value.ownBlock]⟩, hb8, ⟨⟨_, hl⟩, Own.nil _ _ _, [], 0, hbm, MI.nil 0, ⟨by simp, fun _ _ => rfl⟩⟩, fun k h0 hk => absurd hk (by simp), ⟨[], 0, hb4, MI.nil 0, fun _ => rfl⟩, ⟨[], 0, hb6, MI.nil 0, fun _ => by simp [Go.S.look_nil], rfl, by simp⟩, Own.nil _ _ _, fun _ _ h => h.elim, fun _ _ _ h => h.elim⟩, (by rintro b (h | h | h | h | h | h | h) <;> first | (have h1 : b = _ := h; subst h1; omega) | (simp [Value.ownBlock] at h)), (((((Ext.new z1 hk1).trans (Ext.new z2 hk2)).trans (Ext.new z3 hk3)).trans hx24).trans (Ext.new z5 hk5))⟩
      ·
        refine wf_call rfl en24 rfl rfl (new24 H2) ?_
        rintro _ H3 ⟨l, bm, rfl, hl, hbm, hsl, hsb, nlb, hx24⟩
        have zl := lt_of hl
        have zb := lt_of hbm
        have zx := hx24.size
        replace hb1 := hx24.keep hb1
        replace hb6 := hx24.keep hb6
        refine ⟨trivial, ?_⟩
        refine wa_next ?_
        refine wa_step [1] (by kernel_rfl) rfl (List.forall_mem_cons.2 ⟨⟨_, rfl, ?_⟩, fun _ h => nomatch h⟩)
        ·
          refine wf_mkMap rfl rfl (fun b4 H4 e4 z4 hb4 hk4 => ⟨trivial, ?_⟩)
          have n4_hb1 := ne_new hb1 e4
          have n4_hb6 := ne_new hb6 e4
          have n4_hl := ne_new hl e4
          have n4_hbm := ne_new hbm e4
          replace hb1 := (hk4 _ (lt_of hb1)).trans hb1
          replace hb6 := (hk4 _ (lt_of hb6)).trans hb6
          replace hl := (hk4 _ (lt_of hl)).trans hl
          replace hbm := (hk4 _ (lt_of hbm)).trans hbm
          refine wa_next ?_
          refine wa_step [4] (by kernel_rfl) rfl (List.forall_mem_cons.2 ⟨⟨_, rfl, ?_⟩, fun _ h => nomatch h⟩)
          ·
            refine wf_rd _ rfl rfl (RD.build rfl (built63 cf _ _ _)) rfl ?_
            refine wa_next ?_
            refine wa_step [5] (by kernel_rfl) rfl (List.forall_mem_cons.2 ⟨⟨_, rfl, ?_⟩, fun _ h => nomatch h⟩)
            ·
              refine wf_box rfl rfl rfl rfl (fun b8 H5 e8 z5 hb8 hk5 => ⟨trivial, ?_⟩)
              have n8_hb1 := ne_new hb1 e8
              have n8_hb6 := ne_new hb6 e8
              have n8_hl := ne_new hl e8
              have n8_hbm := ne_new hbm e8
              have n8_hb4 := ne_new hb4 e8
              replace hb1 := (hk5 _ (lt_of hb1)).trans hb1
              replace hb6 := (hk5 _ (lt_of hb6)).trans hb6
              replace hl := (hk5 _ (lt_of hl)).trans hl
              replace hbm := (hk5 _ (lt_of hbm)).trans hbm
              replace hb4 := (hk5 _ (lt_of hb4)).trans hb4
              refine wa_next ?_
              refine wa_step [6] (by kernel_rfl) rfl (List.forall_mem_cons.2 ⟨⟨_, rfl, ?_⟩, fun _ h => nomatch h⟩)
              ·
                refine wf_rd _ rfl rfl (RD.assign rfl) rfl ?_
                refine wa_next ?_
                refine wa_end (by kernel_rfl) ?_
                refine at_thn ?_
                refine wc_ret ?_
                refine at_ret1 rfl rfl ?_
                exact ⟨⟨b8, l, bm, b4, b6, .slice none 0 0, .slice none 0 0⟩, rfl, ⟨⟨by dsimp only; omega, by dsimp only; omega, by dsimp only; omega, by dsimp only; omega, by dsimp only; omega, by dsimp only; omega, by dsimp only; omega, by dsimp only; omega, by dsimp only; omega, by dsimp only; omega, by simp [Value.ownBlock], by simp [Value.ownBlock]⟩, hb8, ⟨⟨_, hl⟩, Own.nil _ _ _, [], 0, hbm, MI.nil 0, ⟨by simp, fun _ _ => rfl⟩⟩, fun k h0 hk => absurd hk (by simp), ⟨[], 0, hb4, MI.nil 0, fun _ => rfl⟩, ⟨[], 0, hb6, MI.nil 0, fun _ => by simp [Go.S.look_nil], rfl, by simp⟩, Own.nil _ _ _, fun _ _ h => h.elim, fun _ _ _ h => h.elim⟩, (by rintro b (h | h | h | h | h | h | h) <;> first | (have h1 : b = _ := h; subst h1; omega) | (simp [Value.ownBlock] at h)), (((((Ext.new z1 hk1).trans (Ext.new z2 hk2)).trans hx24).trans (Ext.new z4 hk4)).trans (Ext.new z5 hk5))⟩
  ·
    refine wf_mkMap rfl rfl (fun b4 H2 e4 z2 hb4 hk2 => ⟨trivial, ?_⟩)
    have n4_hb1 := ne_new hb1 e4
    replace hb1 := (hk2 _ (lt_of hb1)).trans hb1
    refine wa_next ?_
    refine wa_step [0, 2, 3] (by kernel_rfl) rfl (List.forall_mem_cons.2 ⟨⟨_, rfl, ?_⟩, List.forall_mem_cons.2 ⟨⟨_, rfl, ?_⟩, List.forall_mem_cons.2 ⟨⟨_, rfl, ?_⟩, fun _ h => nomatch h⟩⟩⟩)
    ·
      refine wf_rd _ rfl rfl (RD.load rfl (LD.all Try.isAgg23 Try.sizeOf23 hb1 rfl)) rfl ?_
      refine wa_next ?_
      refine wa_step [2, 3] (by kernel_rfl) rfl (List.forall_mem_cons.2 ⟨⟨_, rfl, ?_⟩, List.forall_mem_cons.2 ⟨⟨_, rfl, ?_⟩, fun _ h => nomatch h⟩⟩)
      ·
        refine wf_call rfl en24 rfl rfl (new24 H2) ?_
        rintro _ H3 ⟨l, bm, rfl, hl, hbm, hsl, hsb, nlb, hx24⟩
        have zl := lt_of hl
        have zb := lt_of hbm
        have zx := hx24.size
        replace hb1 := hx24.keep hb1
        replace hb4 := hx24.keep hb4
        refine ⟨trivial, ?_⟩
        refine wa_next ?_
        refine wa_step [3] (by kernel_rfl) rfl (List.forall_mem_cons.2 ⟨⟨_, rfl, ?_⟩, fun _ h => nomatch h⟩)
        ·
          refine wf_mkMap rfl rfl (fun b6 H4 e6 z4 hb6 hk4 => ⟨trivial, ?_⟩)
          have n6_hb1 := ne_new hb1 e6
          have n6_hb4 := ne_new hb4 e6
          have n6_hl := ne_new hl e6
          have n6_hbm := ne_new hbm e6
          replace hb1 := (hk4 _ (lt_of hb1)).trans hb1
          replace hb4 := (hk4 _ (lt_of hb4)).trans hb4
          replace hl := (hk4 _ (lt_of hl)).trans hl
          replace hbm := (hk4 _ (lt_of hbm)).trans hbm
          refine wa_next ?_
          refine wa_step [4] (by kernel_rfl) rfl (List.forall_mem_cons.2 ⟨⟨_, rfl, ?_⟩, fun _ h => nomatch h⟩)
          ·
            refine wf_rd _ rfl rfl (RD.build rfl (built63 cf _ _ _)) rfl ?_
            refine wa_next ?_
            refine wa_step [5] (by kernel_rfl) rfl (List.forall_mem_cons.2 ⟨⟨_, rfl, ?_⟩, fun _ h => nomatch h⟩)
            ·
              refine wf_box rfl rfl rfl rfl (fun b8 H5 e8 z5 hb8 hk5 => ⟨trivial, ?_⟩)
              have n8_hb1 := ne_new hb1 e8
              have n8_hb4 := ne_new hb4 e8
              have n8_hl := ne_new hl e8
              have n8_hbm := ne_new hbm e8
              have n8_hb6 := ne_new hb6 e8
              replace hb1 := (hk5 _ (lt_of hb1)).trans hb1
              replace hb4 := (hk5 _ (lt_of hb4)).trans hb4
              replace hl := (hk5 _ (lt_of hl)).trans hl
              replace hbm := (hk5 _ (lt_of hbm)).trans hbm
              replace hb6 := (hk5 _ (lt_of hb6)).trans hb6
              refine wa_next ?_
              refine wa_step [6] (by kernel_rfl) rfl (List.forall_mem_cons.2 ⟨⟨_, rfl, ?_⟩, fun _ h => nomatch h⟩)
              ·
                refine wf_rd _ rfl rfl (RD.assign rfl) rfl ?_
                refine wa_next ?_
                refine wa_end (by kernel_rfl) ?_
                refine at_thn ?_
                refine wc_ret ?_
                refine at_ret1 rfl rfl ?_
                exact ⟨⟨b8, l, bm, b4, b6, .slice none 0 0, .slice none 0 0⟩, rfl, ⟨⟨by dsimp only; omega, by dsimp only; omega, by dsimp only; omega, by dsimp only; omega, by dsimp only; omega, by dsimp only; omega, by dsimp only; omega, by dsimp only; omega, by dsimp only; omega, by dsimp only; omega, by simp [Value.ownBlock], by simp [Value.ownBlock]⟩, hb8, ⟨⟨_, hl⟩, Own.nil _ _ _, [], 0, hbm, MI.nil 0, ⟨by simp, fun _ _ => rfl⟩⟩, fun k h0 hk => absurd hk (by simp), ⟨[], 0, hb4, MI.nil 0, fun _ => rfl⟩, ⟨[], 0, hb6, MI.nil 0, fun _ => by simp [Go.S.look_nil], rfl, by simp⟩, Own.nil _ _ _, fun _ _ h => h.elim, fun _ _ _ h => h.elim⟩, (by rintro b (h | h | h | h | h | h | h) <;> first | (have h1 : b = _ := h; subst h1; omega) | (simp [Value.ownBlock] at h)), (((((Ext.new z1 hk1).trans (Ext.new z2 hk2)).trans hx24).trans (Ext.new z4 hk4)).trans (Ext.new z5 hk5))⟩
      ·
        refine wf_mkMap rfl rfl (fun b6 H3 e6 z3 hb6 hk3 => ⟨trivial, ?_⟩)
        have n6_hb1 := ne_new hb1 e6
        have n6_hb4 := ne_new hb4 e6
        replace hb1 := (hk3 _ (lt_of hb1)).trans hb1
        replace hb4 := (hk3 _ (lt_of hb4)).trans hb4
        refine wa_next ?_
        refine wa_step [2] (by kernel_rfl) rfl (List.forall_mem_cons.2 ⟨⟨_, rfl, ?_⟩, fun _ h => nomatch h⟩)
        ·
          refine wf_call rfl en24 rfl rfl (new24 H3) ?_
          rintro _ H4 ⟨l, bm, rfl, hl, hbm, hsl, hsb, nlb, hx24⟩
          have zl := lt_of hl
          have zb := lt_of hbm
          have zx := hx24.size
          replace hb1 := hx24.keep hb1
          replace hb4 := hx24.keep hb4
          replace hb6 := hx24.keep hb6
          refine ⟨trivial, ?_⟩
          refine wa_next ?_
          refine wa_step [4] (by kernel_rfl) rfl (List.forall_mem_cons.2 ⟨⟨_, rfl, ?_⟩, fun _ h => nomatch h⟩)
          ·
            refine wf_rd _ rfl rfl (RD.build rfl (built63 cf _ _ _)) rfl ?_
            refine wa_next ?_
            refine wa_step [5] (by kernel_rfl) rfl (List.forall_mem_cons.2 ⟨⟨_, rfl, ?_⟩, fun _ h => nomatch h⟩)
            ·
              refine wf_box rfl rfl rfl rfl (fun b8 H5 e8 z5 hb8 hk5 => ⟨trivial, ?_⟩)
              have n8_hb1 := ne_new hb1 e8
              have n8_hb4 := ne_new hb4 e8
              have n8_hb6 := ne_new hb6 e8
              have n8_hl := ne_new hl e8
              have n8_hbm := ne_new hbm e8
              replace hb1 := (hk5 _ (lt_of hb1)).trans hb1
              replace hb4 := (hk5 _ (lt_of hb4)).trans hb4
              replace hb6 := (hk5 _ (lt_of hb6)).trans hb6
              replace hl := (hk5 _ (lt_of hl)).trans hl
              replace hbm := (hk5 _ (lt_of hbm)).trans hbm
              refine wa_next ?_
              refine wa_step [6] (by kernel_rfl) rfl (List.forall_mem_cons.2 ⟨⟨_, rfl, ?_⟩, fun _ h => nomatch h⟩)
              ·
                refine wf_rd _ rfl rfl (RD.assign rfl) rfl ?_
                refine wa_next ?_
                refine wa_end (by kernel_rfl) ?_
                refine at_thn ?_
                refine wc_ret ?_
                refine at_ret1 rfl rfl ?_
                exact ⟨⟨b8, l, bm, b4, b6, .slice none 0 0, .slice none 0 0⟩, rfl, ⟨⟨by dsimp only; omega, by dsimp only; omega, by dsimp only; omega, by dsimp only; omega, by dsimp only; omega, by dsimp only; omega, by dsimp only; omega, by dsimp only; omega, by dsimp only; omega, by dsimp only; omega, by simp [Value.ownBlock], by simp [Value.ownBlock]⟩, hb8, ⟨⟨_, hl⟩, Own.nil _ _ _, [], 0, hbm, MI.nil 0, ⟨by simp, fun _ _ => rfl⟩⟩, fun k h0 hk => absurd hk (by simp), ⟨[], 0, hb4, MI.nil 0, fun _ => rfl⟩, ⟨[], 0, hb6, MI.nil 0, fun _ => by simp [Go.S.look_nil], rfl, by simp⟩, Own.nil _ _ _, fun _ _ h => h.elim, fun _ _ _ h => h.elim⟩, (by rintro b (h | h | h | h | h | h | h) <;> first | (have h1 : b = _ := h; subst h1; omega) | (simp [Value.ownBlock] at h)), (((((Ext.new z1 hk1).trans (Ext.new z2 hk2)).trans (Ext.new z3 hk3)).trans hx24).trans (Ext.new z5 hk5))⟩
    ·
      refine wf_call rfl en24 rfl rfl (new24 H2) ?_
      rintro _ H3 ⟨l, bm, rfl, hl, hbm, hsl, hsb, nlb, hx24⟩
      have zl := lt_of hl
      have zb := lt_of hbm
      have zx := hx24.size
      replace hb1 := hx24.keep hb1
      replace hb4 := hx24.keep hb4
      refine ⟨trivial, ?_⟩
      refine wa_next ?_
      refine wa_step [0, 3] (by kernel_rfl) rfl (List.forall_mem_cons.2 ⟨⟨_, rfl, ?_⟩, List.forall_mem_cons.2 ⟨⟨_, rfl, ?_⟩, fun _ h => nomatch h⟩⟩)
      ·
        refine wf_rd _ rfl rfl (RD.load rfl (LD.all Try.isAgg23 Try.sizeOf23 hb1 rfl)) rfl ?_
        refine wa_next ?_
        refine wa_step [3] (by kernel_rfl) rfl (List.forall_mem_cons.2 ⟨⟨_, rfl, ?_⟩, fun _ h => nomatch h⟩)
        ·
          refine wf_mkMap rfl rfl (fun b6 H4 e6 z4 hb6 hk4 => ⟨trivial, ?_⟩)
          have n6_hb1 := ne_new hb1 e6
          have n6_hb4 := ne_new hb4 e6
          have n6_hl := ne_new hl e6
          have n6_hbm := ne_new hbm e6
          replace hb1 := (hk4 _ (lt_of hb1)).trans hb1
          replace hb4 := (hk4 _ (lt_of hb4)).trans hb4
          replace hl := (hk4 _ (lt_of hl)).trans hl
          replace hbm := (hk4 _ (lt_of hbm)).trans hbm
          refine wa_next ?_
          refine wa_step [4] (by kernel_rfl) rfl (List.forall_mem_cons.2 ⟨⟨_, rfl, ?_⟩, fun _ h => nomatch h⟩)
          ·
            refine wf_rd _ rfl rfl (RD.build rfl (built63 cf _ _ _)) rfl ?_
            refine wa_next ?_
            refine wa_step [5] (by kernel_rfl) rfl (List.forall_mem_cons.2 ⟨⟨_, rfl, ?_⟩, fun _ h => nomatch h⟩)
            ·
              refine wf_box rfl rfl rfl rfl (fun b8 H5 e8 z5 hb8 hk5 => ⟨trivial, ?_⟩)
              have n8_hb1 := ne_new hb1 e8
              have n8_hb4 := ne_new hb4 e8
              have n8_hl := ne_new hl e8
              have n8_hbm := ne_new hbm e8
              have n8_hb6 := ne_new hb6 e8
              replace hb1 := (hk5 _ (lt_of hb1)).trans hb1
              replace hb4 := (hk5 _ (lt_of hb4)).trans hb4
              replace hl := (hk5 _ (lt_of hl)).trans hl
              replace hbm := (hk5 _ (lt_of hbm)).trans hbm
              replace hb6 := (hk5 _ (lt_of hb6)).trans hb6
              refine wa_next ?_
              refine wa_step [6] (by kernel_rfl) rfl (List.forall_mem_cons.2 ⟨⟨_, rfl, ?_⟩, fun _ h => nomatch h⟩)
              ·
                refine wf_rd _ rfl rfl (RD.assign rfl) rfl ?_
                refine wa_next ?_
                refine wa_end (by kernel_rfl) ?_
                refine at_thn ?_
                refine wc_ret ?_
                refine at_ret1 rfl rfl ?_
                exact ⟨⟨b8, l, bm, b4, b6, .slice none 0 0, .slice none 0 0⟩, rfl, ⟨⟨by dsimp only; omega, by dsimp only; omega, by dsimp only; omega, by dsimp only; omega, by dsimp only; omega, by dsimp only; omega, by dsimp only; omega, by dsimp only; omega, by dsimp only; omega, by dsimp only; omega, by simp [Value.ownBlock], by simp [Value.ownBlock]⟩, hb8, ⟨⟨_, hl⟩, Own.nil _ _ _, [], 0, hbm, MI.nil 0, ⟨by simp, fun _ _ => rfl⟩⟩, fun k h0 hk => absurd hk (by simp), ⟨[], 0, hb4, MI.nil 0, fun _ => rfl⟩, ⟨[], 0, hb6, MI.nil 0, fun _ => by simp [Go.S.look_nil], rfl, by simp⟩, Own.nil _ _ _, fun _ _ h => h.elim, fun _ _ _ h => h.elim⟩, (by rintro b (h | h | h | h | h | h | h) <;> first | (have h1 : b = _ := h; subst h1; omega) | (simp [Value.ownBlock] at h)), (((((Ext.new z1 hk1).trans (Ext.new z2 hk2)).trans hx24).trans (Ext.new z4 hk4)).trans (Ext.new z5 hk5))⟩
      ·
        refine wf_mkMap rfl rfl (fun b6 H4 e6 z4 hb6 hk4 => ⟨trivial, ?_⟩)
        have n6_hb1 := ne_new hb1 e6
        have n6_hb4 := ne_new hb4 e6
        have n6_hl := ne_new hl e6
        have n6_hbm := ne_new hbm e6
        replace hb1 := (hk4 _ (lt_of hb1)).trans hb1
        replace hb4 := (hk4 _ (lt_of hb4)).trans hb4
        replace hl := (hk4 _ (lt_of hl)).trans hl
        replace hbm := (hk4 _ (lt_of hbm)).trans hbm
        refine wa_next ?_
        refine wa_step [0] (by kernel_rfl) rfl (List.forall_mem_cons.2 ⟨⟨_, rfl, ?_⟩, fun _ h => nomatch h⟩)
        ·
          refine wf_rd _ rfl rfl (RD.load rfl (LD.all Try.isAgg23 Try.sizeOf23 hb1 rfl)) rfl ?_
          refine wa_next ?_
          refine wa_step [4] (by kernel_rfl) rfl (List.forall_mem_cons.2 ⟨⟨_, rfl, ?_⟩, fun _ h => nomatch h⟩)
          ·
            refine wf_rd _ rfl rfl (RD.build rfl (built63 cf _ _ _)) rfl ?_
            refine wa_next ?_
            refine wa_step [5] (by kernel_rfl) rfl (List.forall_mem_cons.2 ⟨⟨_, rfl, ?_⟩, fun _ h => nomatch h⟩)
            ·
              refine wf_box rfl rfl rfl rfl (fun b8 H5 e8 z5 hb8 hk5 => ⟨trivial, ?_⟩)
              have n8_hb1 := ne_new hb1 e8
              have n8_hb4 := ne_new hb4 e8
              have n8_hl := ne_new hl e8
              have n8_hbm := ne_new hbm e8
              have n8_hb6 := ne_new hb6 e8
              replace hb1 := (hk5 _ (lt_of hb1)).trans hb1
              replace hb4 := (hk5 _ (lt_of hb4)).trans hb4
              replace hl := (hk5 _ (lt_of hl)).trans hl
              replace hbm := (hk5 _ (lt_of hbm)).trans hbm
              replace hb6 := (hk5 _ (lt_of hb6)).trans hb6
              refine wa_next ?_
              refine wa_step [6] (by kernel_rfl) rfl (List.forall_mem_cons.2 ⟨⟨_, rfl, ?_⟩, fun _ h => nomatch h⟩)
              ·
                refine wf_rd _ rfl rfl (RD.assign rfl) rfl ?_
                refine wa_next ?_
                refine wa_end (by kernel_rfl) ?_
                refine at_thn ?_
                refine wc_ret ?_
                refine at_ret1 rfl rfl ?_
                exact ⟨⟨b8, l, bm, b4, b6, .slice none 0 0, .slice none 0 0⟩, rfl, ⟨⟨by dsimp only; omega, by dsimp only; omega, by dsimp only; omega, by dsimp only; omega, by dsimp only; omega, by dsimp only; omega, by dsimp only; omega, by dsimp only; omega, by dsimp only; omega, by dsimp only; omega, by simp [Value.ownBlock], by simp [Value.ownBlock]⟩, hb8, ⟨⟨_, hl⟩, Own.nil _ _ _, [], 0, hbm, MI.nil 0, ⟨by simp, fun _ _ => rfl⟩⟩, fun k h0 hk => absurd hk (by simp), ⟨[], 0, hb4, MI.nil 0, fun _ => rfl⟩, ⟨[], 0, hb6, MI.nil 0, fun _ => by simp [Go.S.look_nil], rfl, by simp⟩, Own.nil _ _ _, fun _ _ h => h.elim, fun _ _ _ h => h.elim⟩, (by rintro b (h | h | h | h | h | h | h) <;> first | (have h1 : b = _ := h; subst h1; omega) | (simp [Value.ownBlock] at h)), (((((Ext.new z1 hk1).trans (Ext.new z2 hk2)).trans hx24).trans (Ext.new z4 hk4)).trans (Ext.new z5 hk5))⟩
    ·
      refine wf_mkMap rfl rfl (fun b6 H3 e6 z3 hb6 hk3 => ⟨trivial, ?_⟩)
      have n6_hb1 := ne_new hb1 e6
      have n6_hb4 := ne_new hb4 e6
      replace hb1 := (hk3 _ (lt_of hb1)).trans hb1
      replace hb4 := (hk3 _ (lt_of hb4)).trans hb4
      refine wa_next ?_
      refine wa_step [0, 2] (by kernel_rfl) rfl (List.forall_mem_cons.2 ⟨⟨_, rfl, ?_⟩, List.forall_mem_cons.2 ⟨⟨_, rfl, ?_⟩, fun _ h => nomatch h⟩⟩)
      ·
        refine wf_rd _ rfl rfl (RD.load rfl (LD.all Try.isAgg23 Try.sizeOf23 hb1 rfl)) rfl ?_
        refine wa_next ?_
        refine wa_step [2] (by kernel_rfl) rfl (List.forall_mem_cons.2 ⟨⟨_, rfl, ?_⟩, fun _ h => nomatch h⟩)
        ·
          refine wf_call rfl en24 rfl rfl (new24 H3) ?_
          rintro _ H4 ⟨l, bm, rfl, hl, hbm, hsl, hsb, nlb, hx24⟩
          have zl := lt_of hl
          have zb := lt_of hbm
          have zx := hx24.size
          replace hb1 := hx24.keep hb1
          replace hb4 := hx24.keep hb4
          replace hb6 := hx24.keep hb6
          refine ⟨trivial, ?_⟩
          refine wa_next ?_
          refine wa_step [4] (by kernel_rfl) rfl (List.forall_mem_cons.2 ⟨⟨_, rfl, ?_⟩, fun _ h => nomatch h⟩)
          ·
            refine wf_rd _ rfl rfl (RD.build rfl (built63 cf _ _ _)) rfl ?_
            refine wa_next ?_
            refine wa_step [5] (by kernel_rfl) rfl (List.forall_mem_cons.2 ⟨⟨_, rfl, ?_⟩, fun _ h => nomatch h⟩)
            ·
              refine wf_box rfl rfl rfl rfl (fun b8 H5 e8 z5 hb8 hk5 => ⟨trivial, ?_⟩)
              have n8_hb1 := ne_new hb1 e8
              have n8_hb4 := ne_new hb4 e8
              have n8_hb6 := ne_new hb6 e8
              have n8_hl := ne_new hl e8
              have n8_hbm := ne_new hbm e8
              replace hb1 := (hk5 _ (lt_of hb1)).trans hb1
              replace hb4 := (hk5 _ (lt_of hb4)).trans hb4
              replace hb6 := (hk5 _ (lt_of hb6)).trans hb6
              replace hl := (hk5 _ (lt_of hl)).trans hl
              replace hbm := (hk5 _ (lt_of hbm)).trans hbm
              refine wa_next ?_
              refine wa_step [6] (by kernel_rfl) rfl (List.forall_mem_cons.2 ⟨⟨_, rfl, ?_⟩, fun _ h => nomatch h⟩)
              ·
                refine wf_rd _ rfl rfl (RD.assign rfl) rfl ?_
                refine wa_next ?_
                refine wa_end (by kernel_rfl) ?_
                refine at_thn ?_
                refine wc_ret ?_
                refine at_ret1 rfl rfl ?_
                exact ⟨⟨b8, l, bm, b4, b6, .slice none 0 0, .slice none 0 0⟩, rfl, ⟨⟨by dsimp only; omega, by dsimp only; omega, by dsimp only; omega, by dsimp only; omega, by dsimp only; omega, by dsimp only; omega, by dsimp only; omega, by dsimp only; omega, by dsimp only; omega, by dsimp only; omega, by simp [Value.ownBlock], by simp [Value.ownBlock]⟩, hb8, ⟨⟨_, hl⟩, Own.nil _ _ _, [], 0, hbm, MI.nil 0, ⟨by simp, fun _ _ => rfl⟩⟩, fun k h0 hk => absurd hk (by simp), ⟨[], 0, hb4, MI.nil 0, fun _ => rfl⟩, ⟨[], 0, hb6, MI.nil 0, fun _ => by simp [Go.S.look_nil], rfl, by simp⟩, Own.nil _ _ _, fun _ _ h => h.elim, fun _ _ _ h => h.elim⟩, (by rintro b (h | h | h | h | h | h | h) <;> first | (have h1 : b = _ := h; subst h1; omega) | (simp [Value.ownBlock] at h)), (((((Ext.new z1 hk1).trans (Ext.new z2 hk2)).trans (Ext.new z3 hk3)).trans hx24).trans (Ext.new z5 hk5))⟩
      ·
        refine wf_call rfl en24 rfl rfl (new24 H3) ?_
        rintro _ H4 ⟨l, bm, rfl, hl, hbm, hsl, hsb, nlb, hx24⟩
        have zl := lt_of hl
        have zb := lt_of hbm
        have zx := hx24.size
        replace hb1 := hx24.keep hb1
        replace hb4 := hx24.keep hb4
        replace hb6 := hx24.keep hb6
        refine ⟨trivial, ?_⟩
        refine wa_next ?_
        refine wa_step [0] (by kernel_rfl) rfl (List.forall_mem_cons.2 ⟨⟨_, rfl, ?_⟩, fun _ h => nomatch h⟩)
        ·
          refine wf_rd _ rfl rfl (RD.load rfl (LD.all Try.isAgg23 Try.sizeOf23 hb1 rfl)) rfl ?_
          refine wa_next ?_
          refine wa_step [4] (by kernel_rfl) rfl (List.forall_mem_cons.2 ⟨⟨_, rfl, ?_⟩, fun _ h => nomatch h⟩)
          ·
            refine wf_rd _ rfl rfl (RD.build rfl (built63 cf _ _ _)) rfl ?_
            refine wa_next ?_
            refine wa_step [5] (by kernel_rfl) rfl (List.forall_mem_cons.2 ⟨⟨_, rfl, ?_⟩, fun _ h => nomatch h⟩)
            ·
              refine wf_box rfl rfl rfl rfl (fun b8 H5 e8 z5 hb8 hk5 => ⟨trivial, ?_⟩)
              have n8_hb1 := ne_new hb1 e8
              have n8_hb4 := ne_new hb4 e8
              have n8_hb6 := ne_new hb6 e8
              have n8_hl := ne_new hl e8
              have n8_hbm := ne_new hbm e8
              replace hb1 := (hk5 _ (lt_of hb1)).trans hb1
              replace hb4 := (hk5 _ (lt_of hb4)).trans hb4
              replace hb6 := (hk5 _ (lt_of hb6)).trans hb6
              replace hl := (hk5 _ (lt_of hl)).trans hl
              replace hbm := (hk5 _ (lt_of hbm)).trans hbm
              refine wa_next ?_
              refine wa_step [6] (by kernel_rfl) rfl (List.forall_mem_cons.2 ⟨⟨_, rfl, ?_⟩, fun _ h => nomatch h⟩)
              ·
                refine wf_rd _ rfl rfl (RD.assign rfl) rfl ?_
                refine wa_next ?_
                refine wa_end (by kernel_rfl) ?_
                refine at_thn ?_
                refine wc_ret ?_
                refine at_ret1 rfl rfl ?_
                exact ⟨⟨b8, l, bm, b4, b6, .slice none 0 0, .slice none 0 0⟩, rfl, ⟨⟨by dsimp only; omega, by dsimp only; omega, by dsimp only; omega, by dsimp only; omega, by dsimp only; omega, by dsimp only; omega, by dsimp only; omega, by dsimp only; omega, by dsimp only; omega, by dsimp only; omega, by simp [Value.ownBlock], by simp [Value.ownBlock]⟩, hb8, ⟨⟨_, hl⟩, Own.nil _ _ _, [], 0, hbm, MI.nil 0, ⟨by simp, fun _ _ => rfl⟩⟩, fun k h0 hk => absurd hk (by simp), ⟨[], 0, hb4, MI.nil 0, fun _ => rfl⟩, ⟨[], 0, hb6, MI.nil 0, fun _ => by simp [Go.S.look_nil], rfl, by simp⟩, Own.nil _ _ _, fun _ _ h => h.elim, fun _ _ _ h => h.elim⟩, (by rintro b (h | h | h | h | h | h | h) <;> first | (have h1 : b = _ := h; subst h1; omega) | (simp [Value.ownBlock] at h)), (((((Ext.new z1 hk1).trans (Ext.new z2 hk2)).trans (Ext.new z3 hk3)).trans hx24).trans (Ext.new z5 hk5))⟩
  ·
    refine wf_call rfl en24 rfl rfl (new24 H1) ?_
    rintro _ H2 ⟨l, bm, rfl, hl, hbm, hsl, hsb, nlb, hx24⟩
    have zl := lt_of hl
    have zb := lt_of hbm
    have zx := hx24.size
    replace hb1 := hx24.keep hb1
    refine ⟨trivial, ?_⟩
    refine wa_next ?_
    refine wa_step [0, 1, 3] (by kernel_rfl) rfl (List.forall_mem_cons.2 ⟨⟨_, rfl, ?_⟩, List.forall_mem_cons.2 ⟨⟨_, rfl, ?_⟩, List.forall_mem_cons.2 ⟨⟨_, rfl, ?_⟩, fun _ h => nomatch h⟩⟩⟩)
    ·
      refine wf_rd _ rfl rfl (RD.load rfl (LD.all Try.isAgg23 Try.sizeOf23 hb1 rfl)) rfl ?_
      refine wa_next ?_
      refine wa_step [1, 3] (by kernel_rfl) rfl (List.forall_mem_cons.2 ⟨⟨_, rfl, ?_⟩, List.forall_mem_cons.2 ⟨⟨_, rfl, ?_⟩, fun _ h => nomatch h⟩⟩)
      ·
        refine wf_mkMap rfl rfl (fun b4 H3 e4 z3 hb4 hk3 => ⟨trivial, ?_⟩)
        have n4_hb1 := ne_new hb1 e4
        have n4_hl := ne_new hl e4
        have n4_hbm := ne_new hbm e4
        replace hb1 := (hk3 _ (lt_of hb1)).trans hb1
        replace hl := (hk3 _ (lt_of hl)).trans hl
        replace hbm := (hk3 _ (lt_of hbm)).trans hbm
        refine wa_next ?_
        refine wa_step [3] (by kernel_rfl) rfl (List.forall_mem_cons.2 ⟨⟨_, rfl, ?_⟩, fun _ h => nomatch h⟩)
        ·
          refine wf_mkMap rfl rfl (fun b6 H4 e6 z4 hb6 hk4 => ⟨trivial, ?_⟩)
          have n6_hb1 := ne_new hb1 e6
          have n6_hl := ne_new hl e6
          have n6_hbm := ne_new hbm e6
          have n6_hb4 := ne_new hb4 e6
          replace hb1 := (hk4 _ (lt_of hb1)).trans hb1
          replace hl := (hk4 _ (lt_of hl)).trans hl
          replace hbm := (hk4 _ (lt_of hbm)).trans hbm
          replace hb4 := (hk4 _ (lt_of hb4)).trans hb4
          refine wa_next ?_
          refine wa_step [4] (by kernel_rfl) rfl (List.forall_mem_cons.2 ⟨⟨_, rfl, ?_⟩, fun _ h => nomatch h⟩)
          ·
            refine wf_rd _ rfl rfl (RD.build rfl (built63 cf _ _ _)) rfl ?_
            refine wa_next ?_
            refine wa_step [5] (by kernel_rfl) rfl (List.forall_mem_cons.2 ⟨⟨_, rfl, ?_⟩, fun _ h => nomatch h⟩)
            ·
              refine wf_box rfl rfl rfl rfl (fun b8 H5 e8 z5 hb8 hk5 => ⟨trivial, ?_⟩)
              have n8_hb1 := ne_new hb1 e8
              have n8_hl := ne_new hl e8
              have n8_hbm := ne_new hbm e8
              have n8_hb4 := ne_new hb4 e8
              have n8_hb6 := ne_new hb6 e8
              replace hb1 := (hk5 _ (lt_of hb1)).trans hb1
              replace hl := (hk5 _ (lt_of hl)).trans hl
              replace hbm := (hk5 _ (lt_of hbm)).trans hbm
              replace hb4 := (hk5 _ (lt_of hb4)).trans hb4
              replace hb6 := (hk5 _ (lt_of hb6)).trans hb6
              refine wa_next ?_
              refine wa_step [6] (by kernel_rfl) rfl (List.forall_mem_cons.2 ⟨⟨_, rfl, ?_⟩, fun _ h => nomatch h⟩)
              ·
                refine wf_rd _ rfl rfl (RD.assign rfl) rfl ?_
                refine wa_next ?_
                refine wa_end (by kernel_rfl) ?_
                refine at_thn ?_
                refine wc_ret ?_
                refine at_ret1 rfl rfl ?_
                exact ⟨⟨b8, l, bm, b4, b6, .slice none 0 0, .slice none 0 0⟩, rfl, ⟨⟨by dsimp only; omega, by dsimp only; omega, by dsimp only; omega, by dsimp only; omega, by dsimp only; omega, by dsimp only; omega, by dsimp only; omega, by dsimp only; omega, by dsimp only; omega, by dsimp only; omega, by simp [Value.ownBlock], by simp [Value.ownBlock]⟩, hb8, ⟨⟨_, hl⟩, Own.nil _ _ _, [], 0, hbm, MI.nil 0, ⟨by simp, fun _ _ => rfl⟩⟩, fun k h0 hk => absurd hk (by simp), ⟨[], 0, hb4, MI.nil 0, fun _ => rfl⟩, ⟨[], 0, hb6, MI.nil 0, fun _ => by simp [Go.S.look_nil], rfl, by simp⟩, Own.nil _ _ _, fun _ _ h => h.elim, fun _ _ _ h => h.elim⟩, (by rintro b (h | h | h | h | h | h | h) <;> first | (have h1 : b = _ := h; subst h1; omega) | (simp [Value.ownBlock] at h)), (((((Ext.new z1 hk1).trans hx24).trans (Ext.new z3 hk3)).trans (Ext.new z4 hk4)).trans (Ext.new z5 hk5))⟩
      ·
        refine wf_mkMap rfl rfl (fun b6 H3 e6 z3 hb6 hk3 => ⟨trivial, ?_⟩)
        have n6_hb1 := ne_new hb1 e6
        have n6_hl := ne_new hl e6
        have n6_hbm := ne_new hbm e6
        replace hb1 := (hk3 _ (lt_of hb1)).trans hb1
        replace hl := (hk3 _ (lt_of hl)).trans hl
        replace hbm := (hk3 _ (lt_of hbm)).trans hbm
        refine wa_next ?_
        refine wa_step [1] (by kernel_rfl) rfl (List.forall_mem_cons.2 ⟨⟨_, rfl, ?_⟩, fun _ h => nomatch h⟩)
        ·
          refine wf_mkMap rfl rfl (fun b4 H4 e4 z4 hb4 hk4 => ⟨trivial, ?_⟩)
          have n4_hb1 := ne_new hb1 e4
          have n4_hl := ne_new hl e4
          have n4_hbm := ne_new hbm e4
          have n4_hb6 := ne_new hb6 e4
          replace hb1 := (hk4 _ (lt_of hb1)).trans hb1
          replace hl := (hk4 _ (lt_of hl)).trans hl
          replace hbm := (hk4 _ (lt_of hbm)).trans hbm
          replace hb6 := (hk4 _ (lt_of hb6)).trans hb6
          refine wa_next ?_
          refine wa_step [4] (by kernel_rfl) rfl (List.forall_mem_cons.2 ⟨⟨_, rfl, ?_⟩, fun _ h => nomatch h⟩)
          ·
            refine wf_rd _ rfl rfl (RD.build rfl (built63 cf _ _ _)) rfl ?_
            refine wa_next ?_
            refine wa_step [5] (by kernel_rfl) rfl (List.forall_mem_cons.2 ⟨⟨_, rfl, ?_⟩, fun _ h => nomatch h⟩)
            ·
              refine wf_box rfl rfl rfl rfl (fun b8 H5 e8 z5 hb8 hk5 => ⟨trivial, ?_⟩)
              have n8_hb1 := ne_new hb1 e8
              have n8_hl := ne_new hl e8
              have n8_hbm := ne_new hbm e8
              have n8_hb6 := ne_new hb6 e8
              have n8_hb4 := ne_new hb4 e8
              replace hb1 := (hk5 _ (lt_of hb1)).trans hb1
              replace hl := (hk5 _ (lt_of hl)).trans hl
              replace hbm := (hk5 _ (lt_of hbm)).trans hbm
              replace hb6 := (hk5 _ (lt_of hb6)).trans hb6
              replace hb4 := (hk5 _ (lt_of hb4)).trans hb4
              refine wa_next ?_
              refine wa_step [6] (by kernel_rfl) rfl (List.forall_mem_cons.2 ⟨⟨_, rfl, ?_⟩, fun _ h => nomatch h⟩)
              ·
                refine wf_rd _ rfl rfl (RD.assign rfl) rfl ?_
                refine wa_next ?_
                refine wa_end (by kernel_rfl) ?_
                refine at_thn ?_
                refine wc_ret ?_
                refine at_ret1 rfl rfl ?_
                exact ⟨⟨b8, l, bm, b4, b6, .slice none 0 0, .slice none 0 0⟩, rfl, ⟨⟨by dsimp only; omega, by dsimp only; omega, by dsimp only; omega, by dsimp only; omega, by dsimp only; omega, by dsimp only; omega, by dsimp only; omega, by dsimp only; omega, by dsimp only; omega, by dsimp only; omega, by simp [Value.ownBlock], by simp [Value.ownBlock]⟩, hb8, ⟨⟨_, hl⟩, Own.nil _ _ _, [], 0, hbm, MI.nil 0, ⟨by simp, fun _ _ => rfl⟩⟩, fun k h0 hk => absurd hk (by simp), ⟨[], 0, hb4, MI.nil 0, fun _ => rfl⟩, ⟨[], 0, hb6, MI.nil 0, fun _ => by simp [Go.S.look_nil], rfl, by simp⟩, Own.nil _ _ _, fun _ _ h => h.elim, fun _ _ _ h => h.elim⟩, (by rintro b (h | h | h | h | h | h | h) <;> first | (have h1 : b = _ := h; subst h1; omega) | (simp [Value.ownBlock] at h)), (((((Ext.new z1 hk1).trans hx24).trans (Ext.new z3 hk3)).trans (Ext.new z4 hk4)).trans (Ext.new z5 hk5))⟩
    ·
      refine wf_mkMap rfl rfl (fun b4 H3 e4 z3 hb4 hk3 => ⟨trivial, ?_⟩)
      have n4_hb1 := ne_new hb1 e4
      have n4_hl := ne_new hl e4
      have n4_hbm := ne_new hbm e4
      replace hb1 := (hk3 _ (lt_of hb1)).trans hb1
      replace hl := (hk3 _ (lt_of hl)).trans hl
      replace hbm := (hk3 _ (lt_of hbm)).trans hbm
      refine wa_next ?_
      refine wa_step [0, 3] (by kernel_rfl) rfl (List.forall_mem_cons.2 ⟨⟨_, rfl, ?_⟩, List.forall_mem_cons.2 ⟨⟨_, rfl, ?_⟩, fun _ h => nomatch h⟩⟩)
      ·
        refine wf_rd _ rfl rfl (RD.load rfl (LD.all Try.isAgg23 Try.sizeOf23 hb1 rfl)) rfl ?_
        refine wa_next ?_
        refine wa_step [3] (by kernel_rfl) rfl (List.forall_mem_cons.2 ⟨⟨_, rfl, ?_⟩, fun _ h => nomatch h⟩)
        ·
          refine wf_mkMap rfl rfl (fun b6 H4 e6 z4 hb6 hk4 => ⟨trivial, ?_⟩)
          have n6_hb1 := ne_new hb1 e6
          have n6_hl := ne_new hl e6
          have n6_hbm := ne_new hbm e6
          have n6_hb4 := ne_new hb4 e6
          replace hb1 := (hk4 _ (lt_of hb1)).trans hb1
          replace hl := (hk4 _ (lt_of hl)).trans hl
          replace hbm := (hk4 _ (lt_of hbm)).trans hbm
          replace hb4 := (hk4 _ (lt_of hb4)).trans hb4
          refine wa_next ?_
          refine wa_step [4] (by kernel_rfl) rfl (List.forall_mem_cons.2 ⟨⟨_, rfl, ?_⟩, fun _ h => nomatch h⟩)
          ·
            refine wf_rd _ rfl rfl (RD.build rfl (built63 cf _ _ _)) rfl ?_
            refine wa_next ?_
            refine wa_step [5] (by kernel_rfl) rfl (List.forall_mem_cons.2 ⟨⟨_, rfl, ?_⟩, fun _ h => nomatch h⟩)
            ·
              refine wf_box rfl rfl rfl rfl (fun b8 H5 e8 z5 hb8 hk5 => ⟨trivial, ?_⟩)
              have n8_hb1 := ne_new hb1 e8
              have n8_hl := ne_new hl e8
              have n8_hbm := ne_new hbm e8
              have n8_hb4 := ne_new hb4 e8
              have n8_hb6 := ne_new hb6 e8
              replace hb1 := (hk5 _ (lt_of hb1)).trans hb1
              replace hl := (hk5 _ (lt_of hl)).trans hl
              replace hbm := (hk5 _ (lt_of hbm)).trans hbm
              replace hb4 := (hk5 _ (lt_of hb4)).trans hb4
              replace hb6 := (hk5 _ (lt_of hb6)).trans hb6
              refine wa_next ?_
              refine wa_step [6] (by kernel_rfl) rfl (List.forall_mem_cons.2 ⟨⟨_, rfl, ?_⟩, fun _ h => nomatch h⟩)
              ·
                refine wf_rd _ rfl rfl (RD.assign rfl) rfl ?_
                refine wa_next ?_
                refine wa_end (by kernel_rfl) ?_
                refine at_thn ?_
                refine wc_ret ?_
                refine at_ret1 rfl rfl ?_
                exact ⟨⟨b8, l, bm, b4, b6, .slice none 0 0, .slice none 0 0⟩, rfl, ⟨⟨by dsimp only; omega, by dsimp only; omega, by dsimp only; omega, by dsimp only; omega, by dsimp only; omega, by dsimp only; omega, by dsimp only; omega, by dsimp only; omega, by dsimp only; omega, by dsimp only; omega, by simp [Value.ownBlock], by simp [Value.ownBlock]⟩, hb8, ⟨⟨_, hl⟩, Own.nil _ _ _, [], 0, hbm, MI.nil 0, ⟨by simp, fun _ _ => rfl⟩⟩, fun k h0 hk => absurd hk (by simp), ⟨[], 0, hb4, MI.nil 0, fun _ => rfl⟩, ⟨[], 0, hb6, MI.nil 0, fun _ => by simp [Go.S.look_nil], rfl, by simp⟩, Own.nil _ _ _, fun _ _ h => h.elim, fun _ _ _ h => h.elim⟩, (by rintro b (h | h | h | h | h | h | h) <;> first | (have h1 : b = _ := h; subst h1; omega) | (simp [Value.ownBlock] at h)), (((((Ext.new z1 hk1).trans hx24).trans (Ext.new z3 hk3)).trans (Ext.new z4 hk4)).trans (Ext.new z5 hk5))⟩
      ·
        refine wf_mkMap rfl rfl (fun b6 H4 e6 z4 hb6 hk4 => ⟨trivial, ?_⟩)
        have n6_hb1 := ne_new hb1 e6
        have n6_hl := ne_new hl e6
        have n6_hbm := ne_new hbm e6
        have n6_hb4 := ne_new hb4 e6
        replace hb1 := (hk4 _ (lt_of hb1)).trans hb1
        replace hl := (hk4 _ (lt_of hl)).trans hl
        replace hbm := (hk4 _ (lt_of hbm)).trans hbm
        replace hb4 := (hk4 _ (lt_of hb4)).trans hb4
        refine wa_next ?_
        refine wa_step [0] (by kernel_rfl) rfl (List.forall_mem_cons.2 ⟨⟨_, rfl, ?_⟩, fun _ h => nomatch h⟩)
        ·
          refine wf_rd _ rfl rfl (RD.load rfl (LD.all Try.isAgg23 Try.sizeOf23 hb1 rfl)) rfl ?_
          refine wa_next ?_
          refine wa_step [4] (by kernel_rfl) rfl (List.forall_mem_cons.2 ⟨⟨_, rfl, ?_⟩, fun _ h => nomatch h⟩)
          ·
            refine wf_rd _ rfl rfl (RD.build rfl (built63 cf _ _ _)) rfl ?_
            refine wa_next ?_
            refine wa_step [5] (by kernel_rfl) rfl (List.forall_mem_cons.2 ⟨⟨_, rfl, ?_⟩, fun _ h => nomatch h⟩)
            ·
              refine wf_box rfl rfl rfl rfl (fun b8 H5 e8 z5 hb8 hk5 => ⟨trivial, ?_⟩)
              have n8_hb1 := ne_new hb1 e8
              have n8_hl := ne_new hl e8
              have n8_hbm := ne_new hbm e8
              have n8_hb4 := ne_new hb4 e8
              have n8_hb6 := ne_new hb6 e8
              replace hb1 := (hk5 _ (lt_of hb1)).trans hb1
              replace hl := (hk5 _ (lt_of hl)).trans hl
              replace hbm := (hk5 _ (lt_of hbm)).trans hbm
              replace hb4 := (hk5 _ (lt_of hb4)).trans hb4
              replace hb6 := (hk5 _ (lt_of hb6)).trans hb6
              refine wa_next ?_
              refine wa_step [6] (by kernel_rfl) rfl (List.forall_mem_cons.2 ⟨⟨_, rfl, ?_⟩, fun _ h => nomatch h⟩)
              ·
                refine wf_rd _ rfl rfl (RD.assign rfl) rfl ?_
                refine wa_next ?_
                refine wa_end (by kernel_rfl) ?_
                refine at_thn ?_
                refine wc_ret ?_
                refine at_ret1 rfl rfl ?_
                exact ⟨⟨b8, l, bm, b4, b6, .slice none 0 0, .slice none 0 0⟩, rfl, ⟨⟨by dsimp only; omega, by dsimp only; omega, by dsimp only; omega, by dsimp only; omega, by dsimp only; omega, by dsimp only; omega, by dsimp only; omega, by dsimp only; omega, by dsimp only; omega, by dsimp only; omega, by simp [Value.ownBlock], by simp [Value.ownBlock]⟩, hb8, ⟨⟨_, hl⟩, Own.nil _ _ _, [], 0, hbm, MI.nil 0, ⟨by simp, fun _ _ => rfl⟩⟩, fun k h0 hk => absurd hk (by simp), ⟨[], 0, hb4, MI.nil 0, fun _ => rfl⟩, ⟨[], 0, hb6, MI.nil 0, fun _ => by simp [Go.S.look_nil], rfl, by simp⟩, Own.nil _ _ _, fun _ _ h => h.elim, fun _ _ _ h => h.elim⟩, (by rintro b (h | h | h | h | h | h | h) <;> first | (have h1 : b = _ := h; subst h1; omega) | (simp [Value.ownBlock] at h)), (((((Ext.new z1 hk1).trans hx24).trans (Ext.new z3 hk3)).trans (Ext.new z4 hk4)).trans (Ext.new z5 hk5))⟩
    ·
      refine wf_mkMap rfl rfl (fun b6 H3 e6 z3 hb6 hk3 => ⟨trivial, ?_⟩)
      have n6_hb1 := ne_new hb1 e6
      have n6_hl := ne_new hl e6
      have n6_hbm := ne_new hbm e6
      replace hb1 := (hk3 _ (lt_of hb1)).trans hb1
      replace hl := (hk3 _ (lt_of hl)).trans hl
      replace hbm := (hk3 _ (lt_of hbm)).trans hbm
      refine wa_next ?_
      refine wa_step [0, 1] (by kernel_rfl) rfl (List.forall_mem_cons.2 ⟨⟨_, rfl, ?_⟩, List.forall_mem_cons.2 ⟨⟨_, rfl, ?_⟩, fun _ h => nomatch h⟩⟩)
      ·
        refine wf_rd _ rfl rfl (RD.load rfl (LD.all Try.isAgg23 Try.sizeOf23 hb1 rfl)) rfl ?_
        refine wa_next ?_
        refine wa_step [1] (by kernel_rfl) rfl (List.forall_mem_cons.2 ⟨⟨_, rfl, ?_⟩, fun _ h => nomatch h⟩)
        ·
          refine wf_mkMap rfl rfl (fun b4 H4 e4 z4 hb4 hk4 => ⟨trivial, ?_⟩)
          have n4_hb1 := ne_new hb1 e4
          have n4_hl := ne_new hl e4
          have n4_hbm := ne_new hbm e4
          have n4_hb6 := ne_new hb6 e4
          replace hb1 := (hk4 _ (lt_of hb1)).trans hb1
          replace hl := (hk4 _ (lt_of hl)).trans hl
          replace hbm := (hk4 _ (lt_of hbm)).trans hbm
          replace hb6 := (hk4 _ (lt_of hb6)).trans hb6
          refine wa_next ?_
          refine wa_step [4] (by kernel_rfl) rfl (List.forall_mem_cons.2 ⟨⟨_, rfl, ?_⟩, fun _ h => nomatch h⟩)
          ·
            refine wf_rd _ rfl rfl (RD.build rfl (built63 cf _ _ _)) rfl ?_
            refine wa_next ?_
            refine wa_step [5] (by kernel_rfl) rfl (List.forall_mem_cons.2 ⟨⟨_, rfl, ?_⟩, fun _ h => nomatch h⟩)
            ·
              refine wf_box rfl rfl rfl rfl (fun b8 H5 e8 z5 hb8 hk5 => ⟨trivial, ?_⟩)
              have n8_hb1 := ne_new hb1 e8
              have n8_hl := ne_new hl e8
              have n8_hbm := ne_new hbm e8
              have n8_hb6 := ne_new hb6 e8
              have n8_hb4 := ne_new hb4 e8
              replace hb1 := (hk5 _ (lt_of hb1)).trans hb1
              replace hl := (hk5 _ (lt_of hl)).trans hl
              replace hbm := (hk5 _ (lt_of hbm)).trans hbm
              replace hb6 := (hk5 _ (lt_of hb6)).trans hb6
              replace hb4 := (hk5 _ (lt_of hb4)).trans hb4
              refine wa_next ?_
              refine wa_step [6] (by kernel_rfl) rfl (List.forall_mem_cons.2 ⟨⟨_, rfl, ?_⟩, fun _ h => nomatch h⟩)
              ·
                refine wf_rd _ rfl rfl (RD.assign rfl) rfl ?_
                refine wa_next ?_
                refine wa_end (by kernel_rfl) ?_
                refine at_thn ?_
                refine wc_ret ?_
                refine at_ret1 rfl rfl ?_
                exact ⟨⟨b8, l, bm, b4, b6, .slice none 0 0, .slice none 0 0⟩, rfl, ⟨⟨by dsimp only; omega, by dsimp only; omega, by dsimp only; omega, by dsimp only; omega, by dsimp only; omega, by dsimp only; omega, by dsimp only; omega, by dsimp only; omega, by dsimp only; omega, by dsimp only; omega, by simp [Value.ownBlock], by simp [Value.ownBlock]⟩, hb8, ⟨⟨_, hl⟩, Own.nil _ _ _, [], 0, hbm, MI.nil 0, ⟨by simp, fun _ _ => rfl⟩⟩, fun k h0 hk => absurd hk (by simp), ⟨[], 0, hb4, MI.nil 0, fun _ => rfl⟩, ⟨[], 0, hb6, MI.nil 0, fun _ => by simp [Go.S.look_nil], rfl, by simp⟩, Own.nil _ _ _, fun _ _ h => h.elim, fun _ _ _ h => h.elim⟩, (by rintro b (h | h | h | h | h | h | h) <;> first | (have h1 : b = _ := h; subst h1; omega) | (simp [Value.ownBlock] at h)), (((((Ext.new z1 hk1).trans hx24).trans (Ext.new z3 hk3)).trans (Ext.new z4 hk4)).trans (Ext.new z5 hk5))⟩
      ·
        refine wf_mkMap rfl rfl (fun b4 H4 e4 z4 hb4 hk4 => ⟨trivial, ?_⟩)
        have n4_hb1 := ne_new hb1 e4
        have n4_hl := ne_new hl e4
        have n4_hbm := ne_new hbm e4
        have n4_hb6 := ne_new hb6 e4
        replace hb1 := (hk4 _ (lt_of hb1)).trans hb1
        replace hl := (hk4 _ (lt_of hl)).trans hl
        replace hbm := (hk4 _ (lt_of hbm)).trans hbm
        replace hb6 := (hk4 _ (lt_of hb6)).trans hb6
        refine wa_next ?_
        refine wa_step [0] (by kernel_rfl) rfl (List.forall_mem_cons.2 ⟨⟨_, rfl, ?_⟩, fun _ h => nomatch h⟩)
        ·
          refine wf_rd _ rfl rfl (RD.load rfl (LD.all Try.isAgg23 Try.sizeOf23 hb1 rfl)) rfl ?_
          refine wa_next ?_
          refine wa_step [4] (by kernel_rfl) rfl (List.forall_mem_cons.2 ⟨⟨_, rfl, ?_⟩, fun _ h => nomatch h⟩)
          ·
            refine wf_rd _ rfl rfl (RD.build rfl (built63 cf _ _ _)) rfl ?_
            refine wa_next ?_
            refine wa_step [5] (by kernel_rfl) rfl (List.forall_mem_cons.2 ⟨⟨_, rfl, ?_⟩, fun _ h => nomatch h⟩)
            ·
              refine wf_box rfl rfl rfl rfl (fun b8 H5 e8 z5 hb8 hk5 => ⟨trivial, ?_⟩)
              have n8_hb1 := ne_new hb1 e8
              have n8_hl := ne_new hl e8
              have n8_hbm := ne_new hbm e8
              have n8_hb6 := ne_new hb6 e8
              have n8_hb4 := ne_new hb4 e8
              replace hb1 := (hk5 _ (lt_of hb1)).trans hb1
              replace hl := (hk5 _ (lt_of hl)).trans hl
              replace hbm := (hk5 _ (lt_of hbm)).trans hbm
              replace hb6 := (hk5 _ (lt_of hb6)).trans hb6
              replace hb4 := (hk5 _ (lt_of hb4)).trans hb4
              refine wa_next ?_
              refine wa_step [6] (by kernel_rfl) rfl (List.forall_mem_cons.2 ⟨⟨_, rfl, ?_⟩, fun _ h => nomatch h⟩)
              ·
                refine wf_rd _ rfl rfl (RD.assign rfl) rfl ?_
                refine wa_next ?_
                refine wa_end (by kernel_rfl) ?_
                refine at_thn ?_
                refine wc_ret ?_
                refine at_ret1 rfl rfl ?_
                exact ⟨⟨b8, l, bm, b4, b6, .slice none 0 0, .slice none 0 0⟩, rfl, ⟨⟨by dsimp only; omega, by dsimp only; omega, by dsimp only; omega, by dsimp only; omega, by dsimp only; omega, by dsimp only; omega, by dsimp only; omega, by dsimp only; omega, by dsimp only; omega, by dsimp only; omega, by simp [Value.ownBlock], by simp [Value.ownBlock]⟩, hb8, ⟨⟨_, hl⟩, Own.nil _ _ _, [], 0, hbm, MI.nil 0, ⟨by simp, fun _ _ => rfl⟩⟩, fun k h0 hk => absurd hk (by simp), ⟨[], 0, hb4, MI.nil 0, fun _ => rfl⟩, ⟨[], 0, hb6, MI.nil 0, fun _ => by simp [Go.S.look_nil], rfl, by simp⟩, Own.nil _ _ _, fun _ _ h => h.elim, fun _ _ _ h => h.elim⟩, (by rintro b (h | h | h | h | h | h | h) <;> first | (have h1 : b = _ := h; subst h1; omega) | (simp [Value.ownBlock] at h)), (((((Ext.new z1 hk1).trans hx24).trans (Ext.new z3 hk3)).trans (Ext.new z4 hk4)).trans (Ext.new z5 hk5))⟩
  ·
    refine wf_mkMap rfl rfl (fun b6 H2 e6 z2 hb6 hk2 => ⟨trivial, ?_⟩)
    have n6_hb1 := ne_new hb1 e6
    replace hb1 := (hk2 _ (lt_of hb1)).trans hb1
    refine wa_next ?_
    refine wa_step [0, 1, 2] (by kernel_rfl) rfl (List.forall_mem_cons.2 ⟨⟨_, rfl, ?_⟩, List.forall_mem_cons.2 ⟨⟨_, rfl, ?_⟩, List.forall_mem_cons.2 ⟨⟨_, rfl, ?_⟩, fun _ h => nomatch h⟩⟩⟩)
    ·
      refine wf_rd _ rfl rfl (RD.load rfl (LD.all Try.isAgg23 Try.sizeOf23 hb1 rfl)) rfl ?_
      refine wa_next ?_
      refine wa_step [1, 2] (by kernel_rfl) rfl (List.forall_mem_cons.2 ⟨⟨_, rfl, ?_⟩, List.forall_mem_cons.2 ⟨⟨_, rfl, ?_⟩, fun _ h => nomatch h⟩⟩)
      ·
        refine wf_mkMap rfl rfl (fun b4 H3 e4 z3 hb4 hk3 => ⟨trivial, ?_⟩)
        have n4_hb1 := ne_new hb1 e4
        have n4_hb6 := ne_new hb6 e4
        replace hb1 := (hk3 _ (lt_of hb1)).trans hb1
        replace hb6 := (hk3 _ (lt_of hb6)).trans hb6
        refine wa_next ?_
        refine wa_step [2] (by kernel_rfl) rfl (List.forall_mem_cons.2 ⟨⟨_, rfl, ?_⟩, fun _ h => nomatch h⟩)
        ·
          refine wf_call rfl en24 rfl rfl (new24 H3) ?_
          rintro _ H4 ⟨l, bm, rfl, hl, hbm, hsl, hsb, nlb, hx24⟩
          have zl := lt_of hl
          have zb := lt_of hbm
          have zx := hx24.size
          replace hb1 := hx24.keep hb1
          replace hb6 := hx24.keep hb6
          replace hb4 := hx24.keep hb4
          refine ⟨trivial, ?_⟩
          refine wa_next ?_
          refine wa_step [4] (by kernel_rfl) rfl (List.forall_mem_cons.2 ⟨⟨_, rfl, ?_⟩, fun _ h => nomatch h⟩)
          ·
            refine wf_rd _ rfl rfl (RD.build rfl (built63 cf _ _ _)) rfl ?_
            refine wa_next ?_
            refine wa_step [5] (by kernel_rfl) rfl (List.forall_mem_cons.2 ⟨⟨_, rfl, ?_⟩, fun _ h => nomatch h⟩)
            ·
              refine wf_box rfl rfl rfl rfl (fun b8 H5 e8 z5 hb8 hk5 => ⟨trivial, ?_⟩)
              have n8_hb1 := ne_new hb1 e8
              have n8_hb6 := ne_new hb6 e8
              have n8_hb4 := ne_new hb4 e8
              have n8_hl := ne_new hl e8
              have n8_hbm := ne_new hbm e8
              replace hb1 := (hk5 _ (lt_of hb1)).trans hb1
              replace hb6 := (hk5 _ (lt_of hb6)).trans hb6
              replace hb4 := (hk5 _ (lt_of hb4)).trans hb4
              replace hl := (hk5 _ (lt_of hl)).trans hl
              replace hbm := (hk5 _ (lt_of hbm)).trans hbm
              refine wa_next ?_
              refine wa_step [6] (by kernel_rfl) rfl (List.forall_mem_cons.2 ⟨⟨_, rfl, ?_⟩, fun _ h => nomatch h⟩)
              ·
                refine wf_rd _ rfl rfl (RD.assign rfl) rfl ?_
                refine wa_next ?_
                refine wa_end (by kernel_rfl) ?_
                refine at_thn ?_
                refine wc_ret ?_
                refine at_ret1 rfl rfl ?_
                exact ⟨⟨b8, l, bm, b4, b6, .slice none 0 0, .slice none 0 0⟩, rfl, ⟨⟨by dsimp only; omega, by dsimp only; omega, by dsimp only; omega, by dsimp only; omega, by dsimp only; omega, by dsimp only; omega, by dsimp only; omega, by dsimp only; omega, by dsimp only; omega, by dsimp only; omega, by simp [Value.ownBlock], by simp [Value.ownBlock]⟩, hb8, ⟨⟨_, hl⟩, Own.nil _ _ _, [], 0, hbm, MI.nil 0, ⟨by simp, fun _ _ => rfl⟩⟩, fun k h0 hk => absurd hk (by simp), ⟨[], 0, hb4, MI.nil 0, fun _ => rfl⟩, ⟨[], 0, hb6, MI.nil 0, fun _ => by simp [Go.S.look_nil], rfl, by simp⟩, Own.nil _ _ _, fun _ _ h => h.elim, fun _ _ _ h => h.elim⟩, (by rintro b (h | h | h | h | h | h | h) <;> first | (have h1 : b = _ := h; subst h1; omega) | (simp [Value.ownBlock] at h)), (((((Ext.new z1 hk1).trans (Ext.new z2 hk2)).trans (Ext.new z3 hk3)).trans hx24).trans (Ext.new z5 hk5))⟩
      ·
        refine wf_call rfl en24 rfl rfl (new24 H2) ?_
        rintro _ H3 ⟨l, bm, rfl, hl, hbm, hsl, hsb, nlb, hx24⟩
        have zl := lt_of hl
        have zb := lt_of hbm
        have zx := hx24.size
        replace hb1 := hx24.keep hb1
        replace hb6 := hx24.keep hb6
        refine ⟨trivial, ?_⟩
        refine wa_next ?_
        refine wa_step [1] (by kernel_rfl) rfl (List.forall_mem_cons.2 ⟨⟨_, rfl, ?_⟩, fun _ h => nomatch h⟩)
        ·
          refine wf_mkMap rfl rfl (fun b4 H4 e4 z4 hb4 hk4 => ⟨trivial, ?_⟩)
          have n4_hb1 := ne_new hb1 e4
          have n4_hb6 := ne_new hb6 e4
          have n4_hl := ne_new hl e4
          have n4_hbm := ne_new hbm e4
          replace hb1 := (hk4 _ (lt_of hb1)).trans hb1
          replace hb6 := (hk4 _ (lt_of hb6)).trans hb6
          replace hl := (hk4 _ (lt_of hl)).trans hl
          replace hbm := (hk4 _ (lt_of hbm)).trans hbm
          refine wa_next ?_
          refine wa_step [4] (by kernel_rfl) rfl (List.forall_mem_cons.2 ⟨⟨_, rfl, ?_⟩, fun _ h => nomatch h⟩)
          ·
            refine wf_rd _ rfl rfl (RD.build rfl (built63 cf _ _ _)) rfl ?_
            refine wa_next ?_
            refine wa_step [5] (by kernel_rfl) rfl (List.forall_mem_cons.2 ⟨⟨_, rfl, ?_⟩, fun _ h => nomatch h⟩)
            ·
              refine wf_box rfl rfl rfl rfl (fun b8 H5 e8 z5 hb8 hk5 => ⟨trivial, ?_⟩)
              have n8_hb1 := ne_new hb1 e8
              have n8_hb6 := ne_new hb6 e8
              have n8_hl := ne_new hl e8
              have n8_hbm := ne_new hbm e8
              have n8_hb4 := ne_new hb4 e8
              replace hb1 := (hk5 _ (lt_of hb1)).trans hb1
              replace hb6 := (hk5 _ (lt_of hb6)).trans hb6
              replace hl := (hk5 _ (lt_of hl)).trans hl
              replace hbm := (hk5 _ (lt_of hbm)).trans hbm
              replace hb4 := (hk5 _ (lt_of hb4)).trans hb4
              refine wa_next ?_
              refine wa_step [6] (by kernel_rfl) rfl (List.forall_mem_cons.2 ⟨⟨_, rfl, ?_⟩, fun _ h => nomatch h⟩)
              ·
                refine wf_rd _ rfl rfl (RD.assign rfl) rfl ?_
                refine wa_next ?_
                refine wa_end (by kernel_rfl) ?_
                refine at_thn ?_
                refine wc_ret ?_
                refine at_ret1 rfl rfl ?_
                exact ⟨⟨b8, l, bm, b4, b6, .slice none 0 0, .slice none 0 0⟩, rfl, ⟨⟨by dsimp only; omega, by dsimp only; omega, by dsimp only; omega, by dsimp only; omega, by dsimp only; omega, by dsimp only; omega, by dsimp only; omega, by dsimp only; omega, by dsimp only; omega, by dsimp only; omega, by simp [Value.ownBlock], by simp [Value.ownBlock]⟩, hb8, ⟨⟨_, hl⟩, Own.nil _ _ _, [], 0, hbm, MI.nil 0, ⟨by simp, fun _ _ => rfl⟩⟩, fun k h0 hk => absurd hk (by simp), ⟨[], 0, hb4, MI.nil 0, fun _ => rfl⟩, ⟨[], 0, hb6, MI.nil 0, fun _ => by simp [Go.S.look_nil], rfl, by simp⟩, Own.nil _ _ _, fun _ _ h => h.elim, fun _ _ _ h => h.elim⟩, (by rintro b (h | h | h | h | h | h | h) <;> first | (have h1 : b = _ := h; subst h1; omega) | (simp [Value.ownBlock] at h)), (((((Ext.new z1 hk1).trans (Ext.new z2 hk2)).trans hx24).trans (Ext.new z4 hk4)).trans (Ext.new z5 hk5))⟩
    ·
      refine wf_mkMap rfl rfl (fun b4 H3 e4 z3 hb4 hk3 => ⟨trivial, ?_⟩)
      have n4_hb1 := ne_new hb1 e4
      have n4_hb6 := ne_new hb6 e4
      replace hb1 := (hk3 _ (lt_of hb1)).trans hb1
      replace hb6 := (hk3 _ (lt_of hb6)).trans hb6
      refine wa_next ?_
      refine wa_step [0, 2] (by kernel_rfl) rfl (List.forall_mem_cons.2 ⟨⟨_, rfl, ?_⟩, List.forall_mem_cons.2 ⟨⟨_, rfl, ?_⟩, fun _ h => nomatch h⟩⟩)
      ·
        refine wf_rd _ rfl rfl (RD.load rfl (LD.all Try.isAgg23 Try.sizeOf23 hb1 rfl)) rfl ?_
        refine wa_next ?_
        refine wa_step [2] (by kernel_rfl) rfl (List.forall_mem_cons.2 ⟨⟨_, rfl, ?_⟩, fun _ h => nomatch h⟩)
        ·
          refine wf_call rfl en24 rfl rfl (new24 H3) ?_
          rintro _ H4 ⟨l, bm, rfl, hl, hbm, hsl, hsb, nlb, hx24⟩
          have zl := lt_of hl
          have zb := lt_of hbm
          have zx := hx24.size
          replace hb1 := hx24.keep hb1
          replace hb6 := hx24.keep hb6
          replace hb4 := hx24.keep hb4
          refine ⟨trivial, ?_⟩
          refine wa_next ?_
          refine wa_step [4] (by kernel_rfl) rfl (List.forall_mem_cons.2 ⟨⟨_, rfl, ?_⟩, fun _ h => nomatch h⟩)
          ·
            refine wf_rd _ rfl rfl (RD.build rfl (built63 cf _ _ _)) rfl ?_
            refine wa_next ?_
            refine wa_step [5] (by kernel_rfl) rfl (List.forall_mem_cons.2 ⟨⟨_, rfl, ?_⟩, fun _ h => nomatch h⟩)
            ·
              refine wf_box rfl rfl rfl rfl (fun b8 H5 e8 z5 hb8 hk5 => ⟨trivial, ?_⟩)
              have n8_hb1 := ne_new hb1 e8
              have n8_hb6 := ne_new hb6 e8
              have n8_hb4 := ne_new hb4 e8
              have n8_hl := ne_new hl e8
              have n8_hbm := ne_new hbm e8
              replace hb1 := (hk5 _ (lt_of hb1)).trans hb1
              replace hb6 := (hk5 _ (lt_of hb6)).trans hb6
              replace hb4 := (hk5 _ (lt_of hb4)).trans hb4
              replace hl := (hk5 _ (lt_of hl)).trans hl
              replace hbm := (hk5 _ (lt_of hbm)).trans hbm
              refine wa_next ?_
              refine wa_step [6] (by kernel_rfl) rfl (List.forall_mem_cons.2 ⟨⟨_, rfl, ?_⟩, fun _ h => nomatch h⟩)
              ·
                refine wf_rd _ rfl rfl (RD.assign rfl) rfl ?_
                refine wa_next ?_
                refine wa_end (by kernel_rfl) ?_
                refine at_thn ?_
                refine wc_ret ?_
                refine at_ret1 rfl rfl ?_
                exact ⟨⟨b8, l, bm, b4, b6, .slice none 0 0, .slice none 0 0⟩, rfl, ⟨⟨by dsimp only; omega, by dsimp only; omega, by dsimp only; omega, by dsimp only; omega, by dsimp only; omega, by dsimp only; omega, by dsimp only; omega, by dsimp only; omega, by dsimp only; omega, by dsimp only; omega, by simp [Value.ownBlock], by simp [Value.ownBlock]⟩, hb8, ⟨⟨_, hl⟩, Own.nil _ _ _, [], 0, hbm, MI.nil 0, ⟨by simp, fun _ _ => rfl⟩⟩, fun k h0 hk => absurd hk (by simp), ⟨[], 0, hb4, MI.nil 0, fun _ => rfl⟩, ⟨[], 0, hb6, MI.nil 0, fun _ => by simp [Go.S.look_nil], rfl, by simp⟩, Own.nil _ _ _, fun _ _ h => h.elim, fun _ _ _ h => h.elim⟩, (by rintro b (h | h | h | h | h | h | h) <;> first | (have h1 : b = _ := h; subst h1; omega) | (simp [Value.ownBlock] at h)), (((((Ext.new z1 hk1).trans (Ext.new z2 hk2)).trans (Ext.new z3 hk3)).trans hx24).trans (Ext.new z5 hk5))⟩
      ·
        refine wf_call rfl en24 rfl rfl (new24 H3) ?_
        rintro _ H4 ⟨l, bm, rfl, hl, hbm, hsl, hsb, nlb, hx24⟩
        have zl := lt_of hl
        have zb := lt_of hbm
        have zx := hx24.size
        replace hb1 := hx24.keep hb1
        replace hb6 := hx24.keep hb6
        replace hb4 := hx24.keep hb4
        refine ⟨trivial, ?_⟩
        refine wa_next ?_
        refine wa_step [0] (by kernel_rfl) rfl (List.forall_mem_cons.2 ⟨⟨_, rfl, ?_⟩, fun _ h => nomatch h⟩)
        ·
          refine wf_rd _ rfl rfl (RD.load rfl (LD.all Try.isAgg23 Try.sizeOf23 hb1 rfl)) rfl ?_
          refine wa_next ?_
          refine wa_step [4] (by kernel_rfl) rfl (List.forall_mem_cons.2 ⟨⟨_, rfl, ?_⟩, fun _ h => nomatch h⟩)
          ·
            refine wf_rd _ rfl rfl (RD.build rfl (built63 cf _ _ _)) rfl ?_
            refine wa_next ?_
            refine wa_step [5] (by kernel_rfl) rfl (List.forall_mem_cons.2 ⟨⟨_, rfl, ?_⟩, fun _ h => nomatch h⟩)
            ·
              refine wf_box rfl rfl rfl rfl (fun b8 H5 e8 z5 hb8 hk5 => ⟨trivial, ?_⟩)
              have n8_hb1 := ne_new hb1 e8
              have n8_hb6 := ne_new hb6 e8
              have n8_hb4 := ne_new hb4 e8
              have n8_hl := ne_new hl e8
              have n8_hbm := ne_new hbm e8
              replace hb1 := (hk5 _ (lt_of hb1)).trans hb1
              replace hb6 := (hk5 _ (lt_of hb6)).trans hb6
              replace hb4 := (hk5 _ (lt_of hb4)).trans hb4
              replace hl := (hk5 _ (lt_of hl)).trans hl
              replace hbm := (hk5 _ (lt_of hbm)).trans hbm
              refine wa_next ?_
              refine wa_step [6] (by kernel_rfl) rfl (List.forall_mem_cons.2 ⟨⟨_, rfl, ?_⟩, fun _ h => nomatch h⟩)
              ·
                refine wf_rd _ rfl rfl (RD.assign rfl) rfl ?_
                refine wa_next ?_
                refine wa_end (by kernel_rfl) ?_
                refine at_thn ?_
                refine wc_ret ?_
                refine at_ret1 rfl rfl ?_
                exact ⟨⟨b8, l, bm, b4, b6, .slice none 0 0, .slice none 0 0⟩, rfl, ⟨⟨by dsimp only; omega, by dsimp only; omega, by dsimp only; omega, by dsimp only; omega, by dsimp only; omega, by dsimp only; omega, by dsimp only; omega, by dsimp only; omega, by dsimp only; omega, by dsimp only; omega, by simp [Value.ownBlock], by simp [Value.ownBlock]⟩, hb8, ⟨⟨_, hl⟩, Own.nil _ _ _, [], 0, hbm, MI.nil 0, ⟨by simp, fun _ _ => rfl⟩⟩, fun k h0 hk => absurd hk (by simp), ⟨[], 0, hb4, MI.nil 0, fun _ => rfl⟩, ⟨[], 0, hb6, MI.nil 0, fun _ => by simp [Go.S.look_nil], rfl, by simp⟩, Own.nil _ _ _, fun _ _ h => h.elim, fun _ _ _ h => h.elim⟩, (by rintro b (h | h | h | h | h | h | h) <;> first | (have h1 : b = _ := h; subst h1; omega) | (simp [Value.ownBlock] at h)), (((((Ext.new z1 hk1).trans (Ext.new z2 hk2)).trans (Ext.new z3 hk3)).trans hx24).trans (Ext.new z5 hk5))⟩
    ·
      refine wf_call rfl en24 rfl rfl (new24 H2) ?_
      rintro _ H3 ⟨l, bm, rfl, hl, hbm, hsl, hsb, nlb, hx24⟩
      have zl := lt_of hl
      have zb := lt_of hbm
      have zx := hx24.size
      replace hb1 := hx24.keep hb1
      replace hb6 := hx24.keep hb6
      refine ⟨trivial, ?_⟩
      refine wa_next ?_
      refine wa_step [0, 1] (by kernel_rfl) rfl (List.forall_mem_cons.2 ⟨⟨_, rfl, ?_⟩, List.forall_mem_cons.2 ⟨⟨_, rfl, ?_⟩, fun _ h => nomatch h⟩⟩)
      ·
        refine wf_rd _ rfl rfl (RD.load rfl (LD.all Try.isAgg23 Try.sizeOf23 hb1 rfl)) rfl ?_
        refine wa_next ?_
        refine wa_step [1] (by kernel_rfl) rfl (List.forall_mem_cons.2 ⟨⟨_, rfl, ?_⟩, fun _ h => nomatch h⟩)
        ·
          refine wf_mkMap rfl rfl (fun b4 H4 e4 z4 hb4 hk4 => ⟨trivial, ?_⟩)
          have n4_hb1 := ne_new hb1 e4
          have n4_hb6 := ne_new hb6 e4
          have n4_hl := ne_new hl e4
          have n4_hbm := ne_new hbm e4
          replace hb1 := (hk4 _ (lt_of hb1)).trans hb1
          replace hb6 := (hk4 _ (lt_of hb6)).trans hb6
          replace hl := (hk4 _ (lt_of hl)).trans hl
          replace hbm := (hk4 _ (lt_of hbm)).trans hbm
          refine wa_next ?_
          refine wa_step [4] (by kernel_rfl) rfl (List.forall_mem_cons.2 ⟨⟨_, rfl, ?_⟩, fun _ h => nomatch h⟩)
          ·
            refine wf_rd _ rfl rfl (RD.build rfl (built63 cf _ _ _)) rfl ?_
            refine wa_next ?_
            refine wa_step [5] (by kernel_rfl) rfl (List.forall_mem_cons.2 ⟨⟨_, rfl, ?_⟩, fun _ h => nomatch h⟩)
            ·
              refine wf_box rfl rfl rfl rfl (fun b8 H5 e8 z5 hb8 hk5 => ⟨trivial, ?_⟩)
              have n8_hb1 := ne_new hb1 e8
              have n8_hb6 := ne_new hb6 e8
              have n8_hl := ne_new hl e8
              have n8_hbm := ne_new hbm e8
              have n8_hb4 := ne_new hb4 e8
              replace hb1 := (hk5 _ (lt_of hb1)).trans hb1
              replace hb6 := (hk5 _ (lt_of hb6)).trans hb6
              replace hl := (hk5 _ (lt_of hl)).trans hl
              replace hbm := (hk5 _ (lt_of hbm)).trans hbm
              replace hb4 := (hk5 _ (lt_of hb4)).trans hb4
              refine wa_next ?_
              refine wa_step [6] (by kernel_rfl) rfl (List.forall_mem_cons.2 ⟨⟨_, rfl, ?_⟩, fun _ h => nomatch h⟩)
              ·
                refine wf_rd _ rfl rfl (RD.assign rfl) rfl ?_
                refine wa_next ?_
                refine wa_end (by kernel_rfl) ?_
                refine at_thn ?_
                refine wc_ret ?_
                refine at_ret1 rfl rfl ?_
                exact ⟨⟨b8, l, bm, b4, b6, .slice none 0 0, .slice none 0 0⟩, rfl, ⟨⟨by dsimp only; omega, by dsimp only; omega, by dsimp only; omega, by dsimp only; omega, by dsimp only; omega, by dsimp only; omega, by dsimp only; omega, by dsimp only; omega, by dsimp only; omega, by dsimp only; omega, by simp [Value.ownBlock], by simp [Value.ownBlock]⟩, hb8, ⟨⟨_, hl⟩, Own.nil _ _ _, [], 0, hbm, MI.nil 0, ⟨by simp, fun _ _ => rfl⟩⟩, fun k h0 hk => absurd hk (by simp), ⟨[], 0, hb4, MI.nil 0, fun _ => rfl⟩, ⟨[], 0, hb6, MI.nil 0, fun _ => by simp [Go.S.look_nil], rfl, by simp⟩, Own.nil _ _ _, fun _ _ h => h.elim, fun _ _ _ h => h.elim⟩, (by rintro b (h | h | h | h | h | h | h) <;> first | (have h1 : b = _ := h; subst h1; omega) | (simp [Value.ownBlock] at h)), (((((Ext.new z1 hk1).trans (Ext.new z2 hk2)).trans hx24).trans (Ext.new z4 hk4)).trans (Ext.new z5 hk5))⟩
      ·
        refine wf_mkMap rfl rfl (fun b4 H4 e4 z4 hb4 hk4 => ⟨trivial, ?_⟩)
        have n4_hb1 := ne_new hb1 e4
        have n4_hb6 := ne_new hb6 e4
        have n4_hl := ne_new hl e4
        have n4_hbm := ne_new hbm e4
        replace hb1 := (hk4 _ (lt_of hb1)).trans hb1
        replace hb6 := (hk4 _ (lt_of hb6)).trans hb6
        replace hl := (hk4 _ (lt_of hl)).trans hl
        replace hbm := (hk4 _ (lt_of hbm)).trans hbm
        refine wa_next ?_
        refine wa_step [0] (by kernel_rfl) rfl (List.forall_mem_cons.2 ⟨⟨_, rfl, ?_⟩, fun _ h => nomatch h⟩)
        ·
          refine wf_rd _ rfl rfl (RD.load rfl (LD.all Try.isAgg23 Try.sizeOf23 hb1 rfl)) rfl ?_
          refine wa_next ?_
          refine wa_step [4] (by kernel_rfl) rfl (List.forall_mem_cons.2 ⟨⟨_, rfl, ?_⟩, fun _ h => nomatch h⟩)
          ·
            refine wf_rd _ rfl rfl (RD.build rfl (built63 cf _ _ _)) rfl ?_
            refine wa_next ?_
            refine wa_step [5] (by kernel_rfl) rfl (List.forall_mem_cons.2 ⟨⟨_, rfl, ?_⟩, fun _ h => nomatch h⟩)
            ·
              refine wf_box rfl rfl rfl rfl (fun b8 H5 e8 z5 hb8 hk5 => ⟨trivial, ?_⟩)
              have n8_hb1 := ne_new hb1 e8
              have n8_hb6 := ne_new hb6 e8
              have n8_hl := ne_new hl e8
              have n8_hbm := ne_new hbm e8
              have n8_hb4 := ne_new hb4 e8
              replace hb1 := (hk5 _ (lt_of hb1)).trans hb1
              replace hb6 := (hk5 _ (lt_of hb6)).trans hb6
              replace hl := (hk5 _ (lt_of hl)).trans hl
              replace hbm := (hk5 _ (lt_of hbm)).trans hbm
              replace hb4 := (hk5 _ (lt_of hb4)).trans hb4
              refine wa_next ?_
              refine wa_step [6] (by kernel_rfl) rfl (List.forall_mem_cons.2 ⟨⟨_, rfl, ?_⟩, fun _ h => nomatch h⟩)
              ·
                refine wf_rd _ rfl rfl (RD.assign rfl) rfl ?_
                refine wa_next ?_
                refine wa_end (by kernel_rfl) ?_
                refine at_thn ?_
                refine wc_ret ?_
                refine at_ret1 rfl rfl ?_
                exact ⟨⟨b8, l, bm, b4, b6, .slice none 0 0, .slice none 0 0⟩, rfl, ⟨⟨by dsimp only; omega, by dsimp only; omega, by dsimp only; omega, by dsimp only; omega, by dsimp only; omega, by dsimp only; omega, by dsimp only; omega, by dsimp only; omega, by dsimp only; omega, by dsimp only; omega, by simp [Value.ownBlock], by simp [Value.ownBlock]⟩, hb8, ⟨⟨_, hl⟩, Own.nil _ _ _, [], 0, hbm, MI.nil 0, ⟨by simp, fun _ _ => rfl⟩⟩, fun k h0 hk => absurd hk (by simp), ⟨[], 0, hb4, MI.nil 0, fun _ => rfl⟩, ⟨[], 0, hb6, MI.nil 0, fun _ => by simp [Go.S.look_nil], rfl, by simp⟩, Own.nil _ _ _, fun _ _ h => h.elim, fun _ _ _ h => h.elim⟩, (by rintro b (h | h | h | h | h | h | h) <;> first | (have h1 : b = _ := h; subst h1; omega) | (simp [Value.ownBlock] at h)), (((((Ext.new z1 hk1).trans (Ext.new z2 hk2)).trans hx24).trans (Ext.new z4 hk4)).trans (Ext.new z5 hk5))⟩
end Go.Proofs.Ytfomnjippakjpaa
