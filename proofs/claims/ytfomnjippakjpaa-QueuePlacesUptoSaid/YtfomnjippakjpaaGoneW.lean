/-
  Contracts of functions of the given program, at the blocks of memory that they read and write.
-/
import Derived.Test.YtfomnjippakjpaaTurn
import Derived.Test.YtfomnjippakjpaaQu2
import Derived.Test.YtfomnjippakjpaaRows
namespace Go.Proofs.Ytfomnjippakjpaa
open Go.S

/-- What is left inside. -/
def gins (ins ks : List Int) (j : Nat) : List Int := ins.filter (fun s => !(ks.take j).contains s)
theorem gins_small {ins ks : List Int} (h : ins.length ≤ 4194304) (j : Nat) : (gins ins ks j).length ≤ 4194304 := Nat.le_trans (List.length_filter_le _ _) h
theorem gins_succ {ins ks : List Int} {j : Nat} {k : Int} (h : ks[j]? = some k) : gins ins ks (j + 1) = (gins ins ks j).filter (· != k) := by
  have hlt := (List.getElem?_eq_some_iff.1 h).1
  have he := (List.getElem?_eq_some_iff.1 h).2
  unfold gins
  rw [List.filter_filter, List.take_succ_eq_append_getElem hlt, he]
  refine List.filter_congr (fun s _ => ?_)
  simp only [List.contains_eq_mem, List.mem_append, List.mem_singleton, Bool.decide_or, Bool.not_or]
  rw [Bool.and_comm]
  congr 1
theorem gins_count {ins ks : List Int} {j : Nat} {k : Int} (hn : ks.Nodup) (hm : ∀ k ∈ ks, k ∈ ins) (hi : ins.Nodup) (h : ks[j]? = some k) : ((gins ins ks j).filter (· != k)).length + 1 = (gins ins ks j).length := by
  have hlt := (List.getElem?_eq_some_iff.1 h).1
  have he := (List.getElem?_eq_some_iff.1 h).2
  have hk : k ∈ gins ins ks j := by
    unfold gins
    refine List.mem_filter.2 ⟨hm k (List.mem_of_getElem? h), ?_⟩
    simp only [List.contains_eq_mem, Bool.not_eq_true', decide_eq_false_iff_not]
    intro hmem
    obtain ⟨i, hi⟩ := List.getElem?_of_mem hmem
    have hij := (List.getElem?_eq_some_iff.1 hi).1
    rw [List.getElem?_take, if_pos (by simp at hij; omega)] at hi
    have h1 := (List.getElem?_eq_some_iff.1 hi).1
    have := List.pairwise_iff_getElem.1 (List.nodup_iff_pairwise_ne.1 hn) i j h1 hlt (by simp at hij; omega)
    rw [he, (List.getElem?_eq_some_iff.1 hi).2] at this
    exact this rfl
  have hnd : (gins ins ks j).Nodup := hi.sublist List.filter_sublist
  have h1 := hnd.erase_eq_filter k
  have h2 := List.length_erase_of_mem hk
  have h3 : 0 < (gins ins ks j).length := List.length_pos_of_mem hk
  have h4 : (gins ins ks j).filter (· != k) = (gins ins ks j).erase k := h1.symm
  rw [h4, h2]; omega
structure GoneI (H : Heap) (bi : Nat) (vi : Value) (ins ks : List Int) (j : Nat) (H1 : Heap) : Prop where
  cell : ∃ v, H1[bi]? = some (.cells [v].toArray 46 (0, 0)) ∧ Own H1 3 1 v (gins ins ks j).length ((gins ins ks j).map ik) ∧ (∀ g, v.ownBlock = some g → vi.ownBlock = some g ∨ H.size ≤ g)
  frm : Frm (fun b => b = bi) H H1
theorem GoneI.start {H : Heap} {bi : Nat} {vi : Value} {ins ks : List Int} (h1 : H[bi]? = some (.cells [vi].toArray 46 (0, 0))) (h2 : Own H 3 1 vi ins.length (ins.map ik)) : GoneI H bi vi ins ks 0 H := by
  have e : gins ins ks 0 = ins := by unfold gins; simp
  exact ⟨⟨vi, h1, by rw [e]; exact h2, fun g hg => .inl hg⟩, Frm.refl _ _⟩
theorem GoneI.step {H : Heap} {bi : Nat} {vi : Value} {ins ks : List Int} {j : Nat} {H1 H2 H3 : Heap} (h : GoneI H bi vi ins ks j H1) {k : Int} (hk : ks[j]? = some k) (hx : Ext H1 H2) {v : Value} (hy : ∀ g, v.ownBlock = some g → H1.size ≤ g)
    (ho : Own H2 3 1 v ((gins ins ks j).filter (· != k)).length (((gins ins ks j).filter (· != k)).map ik)) (hs : H3.size = H2.size) (hb : H3[bi]? = some (.cells (([v].set 0 v : List Value)).toArray 46 (0, 0))) (hne : ∀ b, b ≠ bi → H3[b]? = H2[b]?) : GoneI H bi vi ins ks (j + 1) H3 := by
  obtain ⟨v0, h1, _⟩ := h.cell
  have hlt := lt_of h1
  have hf := h.frm.size
  refine ⟨⟨v, hb, by rw [gins_succ hk]; exact ho.keep (fun g hg => hne g (fun e => by have := hy g hg; omega)), fun g hg => .inr (by have := hy g hg; omega)⟩, h.frm.trans ((hx.frm _).trans (Frm.wrote hs hne (fun _ => rfl)))⟩
set_option maxRecDepth 100000 in
theorem gone14 (H : Heap) (bi : Nat) (vi v : Value) (ins ks : List Int) (hcell : H[bi]? = some (.cells [vi].toArray 46 (0, 0))) (hin : Own H 3 1 vi ins.length (ins.map ik)) (hl : ins.length ≤ 4194304)
    (hv : ∃ p c, v = .slice p ks.length c ∧ ∀ (j : Nat) (k : Int), ks[j]? = some k → ∃ g cs x, p = some ⟨g, 0, none⟩ ∧ H[g]? = some (.cells (cs : List Value).toArray 35 (0, 0)) ∧ 0 + j * 25 + 25 ≤ cs.length ∧ (cs.drop (0 + j * 25)).take 25 = x ∧ x[0]? = some (.int .i64 k) ∧ (∀ u ∈ x, u.oneCell' = true) ∧ x.length = 25)
    (hvb : ∀ g, v.ownBlock = some g → g ≠ bi) (hkn : ks.Nodup) (hmem : ∀ k ∈ ks, k ∈ ins) (hin0 : ins.Nodup) (hkl : ks.length ≤ 4194304) :
    FN Try.prog 14 [v, .pointer (some ⟨bi, 0, none⟩)] H (fun r H' => r = .bool true ∧ GoneI H bi vi ins ks ks.length H') := by
  obtain ⟨p, c, rfl, hrow⟩ := hv
  have hgb : ∀ g, p = some ⟨g, 0, none⟩ → g ≠ bi := fun g e => hvb g (by rw [e]; rfl)
  refine fn_intro 39 Try.func14 rfl Try.ntmps14 rfl ?_
  refine wc_seq ?_
  refine wc_plain ?_
  refine wf_rd _ rfl rfl (RD.assign rfl) rfl ?_
  refine wf_nil ?_
  refine at_thn ?_
  refine wc_seq ?_
  refine wc_seq ?_
  refine wc_plain ?_
  refine wf_rd _ rfl rfl (RD.move rfl) rfl ?_
  refine wf_rd _ rfl rfl (RD.lenSl rfl Try.underlying24) rfl ?_
  refine wf_rd _ rfl rfl (RD.move rfl) rfl ?_
  refine wf_nil ?_
  refine at_thn ?_
  refine wc_block ?_
  refine wc_loop (fun i : Nat => [(0, .slice p ks.length c), (1, .pointer (some ⟨bi, 0, none⟩)), (3, .bool false), (9, .slice p ks.length c), (10, .int .i64 ks.length), (11, .int .i64 (i : Int))]) (fun i H1 => i ≤ ks.length ∧ GoneI H bi vi ins ks i H1) (fun i => ks.length - i) 0 ⟨rfl, rfl, rfl, rfl, rfl, rfl, trivial⟩ ⟨Nat.zero_le _, GoneI.start hcell hin⟩ ?_
  rintro j H1 ⟨hj, hG⟩
  show WC _ _ _ _ [(0, .slice p ks.length c), (1, .pointer (some ⟨bi, 0, none⟩)), (3, .bool false), (9, .slice p ks.length c), (10, .int .i64 ks.length), (11, .int .i64 (j : Int))] H1
  refine wc_seq ?_
  refine wc_plain ?_
  refine wf_rd _ rfl rfl (RD.cmp _ rfl rfl rfl) rfl ?_
  refine wf_nil ?_
  refine at_thn ?_
  refine wc_seq ?_
  refine wc_cond rfl (fun hc12 => ?_) (fun hc12 => ?_)
  ·
    have hlt : j < ks.length := by simpa using hc12
    obtain ⟨k, hkj⟩ : ∃ k, ks[j]? = some k := ⟨_, List.getElem?_eq_getElem hlt⟩
    obtain ⟨g, cs, x, hpg, hg, hle, hxe, hx0, hone, hxl⟩ := hrow j k hkj
    subst hpg
    have hg1 := hG.frm.keep hg (fun e => hgb g rfl e)
    obtain ⟨vj, hcj, hoj, hyj⟩ := hG.cell
    obtain ⟨pj, cj, rfl⟩ := hoj.val
    have hcj0 := hcj
    have hgl := gins_small (ks := ks) hl j
    refine wc_skip ?_
    refine at_thn ?_
    refine wc_seq ?_
    refine wc_block ?_
    refine wc_seq ?_
    refine wc_plain ?_
    refine wf_rd _ rfl rfl (RD.indexN rfl rfl Try.underlying24 Try.sizeOf35 hlt) rfl ?_
    refine wf_rd _ rfl rfl (RD.load rfl (LD.el Try.isAgg35 Try.sizeOf35 hg1 ⟨hxe, hle⟩)) rfl ?_
    refine wf_alloc Try.zeroValue35 rfl rfl rfl (fun b5 H11 e5 z11 hb5 hk11 => ⟨trivial, ?_⟩)
    refine wf_storeA rfl rfl (fun w => by rw [hxl]; exact Try.sizeOf35 w) rfl hb5 hone (by rw [hxl]; rfl) (fun H12 z12 hx12 hk12 => ⟨trivial, ?_⟩)
    replace hb5 := hx12
    refine wf_nil ?_
    refine at_thn ?_
    refine wc_seq ?_
    refine wc_plain ?_
    refine wf_mkSlice0 el46 rfl rfl (fun b15 H3 e15 z3 hb15 hk3 => ⟨trivial, ?_⟩)
    have hxA : Ext H1 H12 := (Ext.new z11 hk11).wrote z12 hk12 (by omega)
    have hbi12 := hxA.keep hcj
    have hbi3 := (Ext.new z3 hk3).keep hbi12
    have hoj12 := hoj.keep (fun g hg => hxA.old g (hoj.lt hg))
    have hb5A := hb5
    refine wf_rd _ rfl rfl (RD.assign rfl) rfl ?_
    refine wf_nil ?_
    refine at_thn ?_
    refine wc_seq ?_
    refine wc_seq ?_
    refine wc_plain ?_
    refine wf_rd _ rfl rfl (RD.load rfl (LD.one Try.isAgg46 hbi3 rfl)) rfl ?_
    refine wf_rd _ rfl rfl (RD.lenSl rfl Try.underlying46) rfl ?_
    refine wf_rd _ rfl rfl (RD.move rfl) rfl ?_
    refine wf_nil ?_
    refine at_thn ?_
    refine wc_block ?_
    refine wc_loop (fun i : Nat × Value => [(0, .slice (some ⟨g, 0, none⟩) ks.length c), (1, .pointer (some ⟨bi, 0, none⟩)), (3, .bool false), (5, .pointer (some ⟨b5, 0, none⟩)), (6, i.2), (9, .slice (some ⟨g, 0, none⟩) ks.length c), (10, .int .i64 ks.length), (11, .int .i64 (j : Int)), (16, .slice pj (gins ins ks j).length cj), (17, .int .i64 (gins ins ks j).length), (18, .int .i64 (i.1 : Int))]) (fun i H4 => i.1 ≤ (gins ins ks j).length ∧ Ext H12 H4 ∧ Own H4 3 1 i.2 ((((gins ins ks j).take i.1).filter (· != k))).length ((((gins ins ks j).take i.1).filter (· != k)).map ik) ∧ (∀ g, i.2.ownBlock = some g → H12.size ≤ g)) (fun i => (gins ins ks j).length - i.1) (0, .slice (some ⟨b15, 0, none⟩) 0 0) ⟨rfl, rfl, rfl, rfl, rfl, rfl, rfl, rfl, rfl, rfl, rfl, trivial⟩ ⟨Nat.zero_le _, Ext.new z3 hk3, by simpa using Own.empty hb15, fun g e => by have e1 : b15 = g := Option.some.inj e; omega⟩ ?_
    rintro ⟨i, v6⟩ H4 ⟨hi, hx4, ho6, hy6⟩
    dsimp only at hi ho6 hy6
    show WC _ _ _ _ [(0, .slice (some ⟨g, 0, none⟩) ks.length c), (1, .pointer (some ⟨bi, 0, none⟩)), (3, .bool false), (5, .pointer (some ⟨b5, 0, none⟩)), (6, v6), (9, .slice (some ⟨g, 0, none⟩) ks.length c), (10, .int .i64 ks.length), (11, .int .i64 (j : Int)), (16, .slice pj (gins ins ks j).length cj), (17, .int .i64 (gins ins ks j).length), (18, .int .i64 (i : Int))] H4
    refine wc_seq ?_
    refine wc_plain ?_
    refine wf_rd _ rfl rfl (RD.cmp _ rfl rfl rfl) rfl ?_
    refine wf_nil ?_
    refine at_thn ?_
    refine wc_seq ?_
    refine wc_cond rfl (fun hc19 => ?_) (fun hc19 => ?_)
    ·
      have hlti : i < (gins ins ks j).length := by simpa using hc19
      obtain ⟨a, hai⟩ : ∃ a, (gins ins ks j)[i]? = some a := ⟨_, List.getElem?_eq_getElem hlti⟩
      have hoj4 := hoj12.keep (fun g hg => hx4.old g (hoj12.lt hg))
      obtain ⟨gj, capj, csj, e9, hgj, haj⟩ := own_int_at hoj4 hai
      cases e9
      have hb5 := hx4.keep hb5A
      refine wc_skip ?_
      refine at_thn ?_
      refine wc_seq ?_
      refine wc_block ?_
      refine wc_seq ?_
      refine wc_plain ?_
      refine wf_rd _ rfl rfl (RD.indexN rfl rfl Try.underlying46 Try.sizeOf3 hlti) rfl ?_
      refine wf_rd _ rfl rfl (RD.load rfl (LD.one Try.isAgg3 hgj haj)) rfl ?_
      refine wf_rd _ rfl rfl (RD.assign rfl) rfl ?_
      refine wf_nil ?_
      refine at_thn ?_
      refine wc_seq ?_
      refine wc_plain ?_
      refine wf_rd _ rfl rfl (RD.move rfl) rfl ?_
      refine wf_rd _ rfl rfl (RD.field rfl Try.underlying35 rfl Try.sizeOf3) rfl ?_
      refine wf_rd _ rfl rfl (RD.load rfl (LD.one Try.isAgg3 hb5 hx0)) rfl ?_
      refine wf_rd _ rfl rfl (RD.cmp _ rfl rfl rfl) rfl ?_
      refine wf_nil ?_
      refine at_thn ?_
      refine wc_cond rfl (fun hc25 => ?_) (fun hc25 => ?_)
      ·
        refine wc_plain ?_
        refine wf_rd _ rfl rfl (RD.move rfl) rfl ?_
        refine wf_rd _ rfl rfl (RD.move rfl) rfl ?_
        refine wf_mkSlice1 el46 rfl rfl rfl rfl rfl rfl (fun b28 H14 e14 z14 hb28 hk14 => ⟨trivial, ?_⟩)
        have hne : (a != k) = true := hc25
        have hfa : ((gins ins ks j).take (i + 1)).filter (· != k) = ((gins ins ks j).take i).filter (· != k) ++ [a] := by rw [List.take_add_one, hai]; simp [hne]
        refine wf_append (news := [ik a]) el46 rfl rfl (ho6.keep (fun g hg => hk14 g (ho6.lt hg))) hb28 rfl (by simp) (by intro u hu; simp at hu; subst hu; rfl) (by have := List.length_filter_le (· != k) ((gins ins ks j).take i); simp at *; omega) (by have := List.length_filter_le (· != k) ((gins ins ks j).take i); simp at *; omega) rfl rfl (fun va H15 ho9 hg9 hw9 => ⟨trivial, ?_⟩)
        replace ho9 : Own H15 3 1 va (((gins ins ks j).take i).filter (· != k) ++ [a]).length ((((gins ins ks j).take i).filter (· != k) ++ [a]).map ik) := by simpa using ho9
        have hx9 : Ext H12 H15 := (hx4.trans (Ext.new z14 hk14)).grew hg9 (fun g hg => by have := hy6 g hg; omega)
        have hy9 : ∀ g, va.ownBlock = some g → H12.size ≤ g := fun g hg => by
          rcases hw9 with h9 | h9
          · exact hy6 g (h9 ▸ hg)
          · rw [h9] at hg; have := Option.some.inj hg; have := hx4.size; omega
        refine wf_rd _ rfl rfl (RD.assign rfl) rfl ?_
        refine wf_nil ?_
        refine at_inB ?_
        refine at_thn ?_
        refine wc_plain ?_
        refine wf_rd _ rfl rfl (RD.add64 rfl rfl (by omega)) rfl ?_
        refine wf_rd _ rfl rfl (RD.move rfl) rfl ?_
        refine wf_nil ?_
        first
          | exact at_lp (i + 1, va) (by dsimp only; omega) ⟨rfl, rfl, rfl, rfl, rfl, rfl, rfl, rfl, rfl, rfl, rfl, trivial⟩ ⟨by dsimp only; omega, hx9, hfa ▸ ho9, hy9⟩
          | exact at_lp (i + 1, v6) (by dsimp only; omega) ⟨rfl, rfl, rfl, rfl, rfl, rfl, rfl, rfl, rfl, rfl, rfl, trivial⟩ ⟨by dsimp only; omega, hx4, hfn ▸ ho6, hy6⟩
      ·
        have hne : (a != k) = false := hc25
        have hfn : ((gins ins ks j).take (i + 1)).filter (· != k) = ((gins ins ks j).take i).filter (· != k) := by rw [List.take_add_one, hai]; simp [hne]
        refine wc_skip ?_
        refine at_inB ?_
        refine at_thn ?_
        refine wc_plain ?_
        refine wf_rd _ rfl rfl (RD.add64 rfl rfl (by omega)) rfl ?_
        refine wf_rd _ rfl rfl (RD.move rfl) rfl ?_
        refine wf_nil ?_
        first
          | exact at_lp (i + 1, va) (by dsimp only; omega) ⟨rfl, rfl, rfl, rfl, rfl, rfl, rfl, rfl, rfl, rfl, rfl, trivial⟩ ⟨by dsimp only; omega, hx9, hfa ▸ ho9, hy9⟩
          | exact at_lp (i + 1, v6) (by dsimp only; omega) ⟨rfl, rfl, rfl, rfl, rfl, rfl, rfl, rfl, rfl, rfl, rfl, trivial⟩ ⟨by dsimp only; omega, hx4, hfn ▸ ho6, hy6⟩
    ·
      have : i = (gins ins ks j).length := by
        have : ¬ i < (gins ins ks j).length := by simpa using hc19
        omega
      subst this
      rw [List.take_length] at ho6
      obtain ⟨p6, c6, rfl⟩ := ho6.val
      have hbi4 := hx4.keep hbi12
      have hcnt : ((gins ins ks j).filter (· != k)).length + 1 = (gins ins ks j).length := gins_count hkn hmem hin0 hkj
      refine wc_exit ?_
      refine at_thn_exit ?_
      refine at_lp_exit ?_
      refine at_inB_out ?_
      refine at_thn ?_
      refine wc_seq ?_
      refine wc_seq ?_
      refine wc_plain ?_
      refine wf_rd _ rfl rfl (RD.move rfl) rfl ?_
      refine wf_rd _ rfl rfl (RD.lenSl rfl Try.underlying46) rfl ?_
      refine wf_rd _ rfl rfl (RD.load rfl (LD.one Try.isAgg46 hbi4 rfl)) rfl ?_
      refine wf_rd _ rfl rfl (RD.lenSl rfl Try.underlying46) rfl ?_
      refine wf_rd _ rfl rfl (RD.cast (q := (((gins ins ks j).filter (· != k)).length : Int)) (RD.sub64 rfl rfl (by omega)) (by omega)) rfl ?_
      refine wf_rd _ rfl rfl (RD.cmp false rfl rfl (congrArg some (bne_eq_false_iff_eq.2 rfl))) rfl ?_
      refine wf_nil ?_
      refine at_thn ?_
      refine wc_no rfl ?_
      refine wc_skip ?_
      refine at_thn ?_
      refine wc_plain ?_
      refine wf_rd _ rfl rfl (RD.move rfl) rfl ?_
      have hone6 := ho6.one
      refine wf_store1 rfl rfl Try.sizeOf46 rfl hbi4 hone6 (Nat.le_of_ble_eq_true rfl) (fun H16 z16 hbi16 hk16 => ⟨trivial, ?_⟩)
      have hG9 := hG.step hkj (hxA.trans hx4) (fun g hg => by have := hy6 g hg; omega) ho6 z16 hbi16 hk16
      refine wf_nil ?_
      refine at_inB ?_
      refine at_thn ?_
      refine wc_plain ?_
      refine wf_rd _ rfl rfl (RD.add64 rfl rfl (by omega)) rfl ?_
      refine wf_rd _ rfl rfl (RD.move rfl) rfl ?_
      refine wf_nil ?_
      exact at_lp (j + 1) (by show ks.length - (j + 1) < ks.length - j; omega) ⟨rfl, rfl, rfl, rfl, rfl, rfl, trivial⟩ ⟨by omega, hG9⟩
  ·
    have : j = ks.length := by
      have : ¬ j < ks.length := by simpa using hc12
      omega
    subst this
    refine wc_exit ?_
    refine at_thn_exit ?_
    refine at_lp_exit ?_
    refine at_inB_out ?_
    refine at_thn ?_
    refine wc_seq ?_
    refine wc_plain ?_
    refine wf_rd _ rfl rfl (RD.assign rfl) rfl ?_
    refine wf_nil ?_
    refine at_thn ?_
    refine wc_ret ?_
    refine at_ret1 rfl rfl ?_
    exact ⟨rfl, hG⟩
end Go.Proofs.Ytfomnjippakjpaa
