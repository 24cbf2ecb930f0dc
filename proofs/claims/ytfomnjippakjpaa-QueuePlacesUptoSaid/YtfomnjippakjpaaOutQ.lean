/-
  Contracts of functions of the given program, at the blocks of memory that they read and write.
-/
import Derived.Test.YtfomnjippakjpaaQueue2
import Derived.Test.YtfomnjippakjpaaKeysW
import Derived.Test.YtfomnjippakjpaaRows
namespace Go.Proofs.Ytfomnjippakjpaa
open Go.S

theorem out_list {ks : List Int} {ou : List Int} {cp : Int → Option CD} (hcov : ∀ a ∈ ou, ∃ d, cp a = some d) (hm : ∀ a, a ∈ ks → a ∈ ou) : ∃ ds : List CD, ds.length = ks.length ∧ ∀ (j : Nat) (a : Int) (d : CD), ks[j]? = some a → ds[j]? = some d → cp a = some d := by
  refine ⟨ks.map (fun a => (cp a).getD default), by simp, fun j a d h1 h2 => ?_⟩
  rw [List.getElem?_map, h1] at h2
  obtain ⟨d', hd⟩ := hcov a (hm a (List.mem_of_getElem? h1))
  simp only [Option.map_some, Option.some.injEq, hd, Option.getD_some] at h2
  rw [hd, h2]
theorem own_int_at {H : Heap} {v : Value} {ks : List Int} (h : Own H 3 1 v ks.length (ks.map ik)) {j : Nat} {a : Int} (hj : ks[j]? = some a) : ∃ g cap cs, v = .slice (some ⟨g, 0, none⟩) ks.length cap ∧ H[g]? = some (.cells (cs : List Value).toArray 3 (0, 0)) ∧ cs[0 + j * 1]? = some (ik a) := by
  have hlt : j < ks.length := (List.getElem?_eq_some_iff.1 hj).1
  rcases h.2 with ⟨_, h0⟩ | ⟨g, cap, cur, rfl, h0, h3, h4, h5, h6, h7⟩
  · omega
  · refine ⟨g, cap, cur.toList, rfl, by simpa using h3, ?_⟩
    have h8 : (cur.toList.take (ks.length * 1))[j]? = some (ik a) := by rw [h7, List.getElem?_map, hj]; rfl
    rw [List.getElem?_take, if_pos (by omega)] at h8
    simpa using h8
theorem ou_keys {es : List MapEntry} {c : Nat} {ou : List Int} (hM : MI es c) (hO : OuM es ou) : (es.map kOf).Perm ou := by
  have hk : ∀ e ∈ es, e.key = ik (kOf e) := fun e he => by
    obtain ⟨k, h⟩ := hM.k.int e he
    rw [h]; simp [kOf, h, ik]
  refine (List.perm_ext_iff_of_nodup ?_ hO.2.2).2 (fun k => ?_)
  · have h1 := hM.k.nod
    rw [show es.map (·.key) = (es.map kOf).map ik by rw [List.map_map]; exact List.map_congr_left hk] at h1
    rw [List.nodup_iff_pairwise_ne] at h1 ⊢
    refine List.Pairwise.imp ?_ (List.pairwise_map.1 h1)
    intro a b h e
    exact h (congrArg ik e)
  · rw [List.mem_map]
    have h2 := hO.1 k
    constructor
    · rintro ⟨e, he, rfl⟩
      have h3 : Go.S.look es (kOf e) = some e.val := (look_mem hM.k).2 ⟨e, he, hk e he, rfl⟩
      rw [h3] at h2
      split at h2
      · assumption
      · cases h2
    · intro hk'
      rw [if_pos hk'] at h2
      obtain ⟨e, he, h3, _⟩ := (look_mem hM.k).1 h2
      exact ⟨e, he, ik_inj.1 ((hk e he).symm.trans h3)⟩
set_option maxRecDepth 100000 in
theorem out11 (f : Nat) (H : Heap) (B : QB) (S : QS) (Z : Int → Nat → Prop) (h : QInv f H B S Z) (hcov : ∀ a ∈ S.ou, ∃ d, S.cp a = some d) (hlim : S.ou.length ≤ 2097152) (hpos : ∀ a ∈ S.ou, 0 ≤ a ∧ a ≤ 4611686018427387904) :
    FN Try.prog 11 [(.pointer (some ⟨B.q, 0, none⟩))] H (fun r H' => ∃ (ks : List Int) (ds : List CD), ks.Perm S.ou ∧ ks.Pairwise (fun x y => x ≤ y) ∧ ds.length = ks.length ∧ (∀ (j : Nat) (a : Int) (d : CD), ks[j]? = some a → ds[j]? = some d → S.cp a = some d) ∧
      (∃ es, Accum H H' 35 25 (RC f) r ds es) ∧ Ext H H') := by
  have hq0 := h.q
  obtain ⟨ec, cc, hcp0, hcM, hcC⟩ := h.cp
  obtain ⟨eo, co, hou, hoM, hoO⟩ := h.ou
  have hrange : ∀ e ∈ eo, ∃ k, e.key = ik k ∧ -9223372036854775808 ≤ k ∧ k ≤ 9223372036854775807 := fun e he => by
    obtain ⟨k, hk⟩ := hoM.k.int e he
    have h3 : Go.S.look eo k = some e.val := (look_mem hoM.k).2 ⟨e, he, hk, rfl⟩
    have h2 := hoO.1 k
    rw [h3] at h2
    split at h2
    · rename_i hm; have := hpos k hm; exact ⟨k, hk, by omega, by omega⟩
    · cases h2
  refine fn_intro 28 Try.func11 rfl Try.ntmps11 rfl ?_
  refine wc_seq ?_
  refine wc_plain ?_
  refine wf_rd _ rfl rfl (RD.assign rfl) rfl ?_
  refine wf_nil ?_
  refine at_thn ?_
  refine wc_seq ?_
  refine wc_seq ?_
  refine wc_plain ?_
  refine wf_rd _ rfl rfl (RD.move rfl) rfl ?_
  refine wf_rd _ rfl rfl (RD.nilCheck rfl) rfl ?_
  refine wf_rd _ rfl rfl (RD.field rfl Try.underlying63 rfl Try.sizeOf61) rfl ?_
  refine wf_rd _ rfl rfl (RD.load rfl (LD.one Try.isAgg61 hq0 rfl)) rfl ?_
  refine wf_call rfl en31 rfl rfl (keys31 H (some B.bo)) ?_
  rintro _ Ha ⟨bk, rfl, hbk, hbks, hxa⟩
  have hoa := hxa.keep hou
  refine ⟨trivial, ?_⟩
  refine wf_call rfl en30 rfl rfl (sorted30 Ha bk B.bo co eo hbk hoa hoM (by rw [hoO.2.1]; omega) hrange) ?_
  rintro v10 H1 ⟨ks, hkp, hks, hown, hyoung, hxb⟩
  replace hkp := hkp.trans (ou_keys hoM hoO)
  have hx0 : Ext H H1 := hxa.trans hxb
  obtain ⟨ds, hdl, hds⟩ := out_list (ks := ks) hcov (fun a ha => hkp.mem_iff.1 ha)
  obtain ⟨p, c, rfl⟩ := hown.val
  have hjl : ks.length ≤ 2097152 := by rw [hkp.length_eq]; exact hlim
  refine ⟨trivial, ?_⟩
  refine wf_rd _ rfl rfl (RD.lenSl rfl Try.underlying46) rfl ?_
  refine wf_rd _ rfl rfl (RD.move rfl) rfl ?_
  refine wf_nil ?_
  refine at_thn ?_
  refine wc_block ?_
  refine wc_loop (fun i : Nat × Value × List (List Value) => [(0, (.pointer (some ⟨B.q, 0, none⟩))), (2, i.2.1), (10, .slice p ks.length c), (11, .int .i64 ks.length), (12, .int .i64 (i.1 : Int))]) (fun i H2 => i.1 ≤ ks.length ∧ Ext H1 H2 ∧ Accum H1 H2 35 25 (RC f) i.2.1 (ds.take i.1) i.2.2) (fun i => ks.length - i.1) (0, .slice none 0 0, []) ⟨rfl, rfl, rfl, rfl, rfl, trivial⟩ ⟨Nat.zero_le _, Ext.refl _, by simpa using Accum.nil H1 35 25 (RC f)⟩ ?_
  rintro ⟨j, vo, es⟩ H2 ⟨hj, hx, ha⟩
  dsimp only at hj ha
  show WC _ _ _ _ [(0, (.pointer (some ⟨B.q, 0, none⟩))), (2, vo), (10, .slice p ks.length c), (11, .int .i64 ks.length), (12, .int .i64 (j : Int))] H2
  refine wc_seq ?_
  refine wc_plain ?_
  refine wf_rd _ rfl rfl (RD.cmp _ rfl rfl rfl) rfl ?_
  refine wf_nil ?_
  refine at_thn ?_
  refine wc_seq ?_
  refine wc_cond rfl (fun hc13 => ?_) (fun hc13 => ?_)
  ·
    have hlt : j < ks.length := by simpa using hc13
    obtain ⟨d, hdj⟩ : ∃ d, ds[j]? = some d := ⟨_, List.getElem?_eq_getElem (by omega)⟩
    have htk : ds.take (j + 1) = ds.take j ++ [d] := by rw [List.take_add_one, hdj]; rfl
    have hlj : (ds.take j).length = j := by simp; omega
    obtain ⟨a, haj⟩ : ∃ a, ks[j]? = some a := ⟨_, List.getElem?_eq_getElem hlt⟩
    have hda := hds j a d haj hdj
    obtain ⟨csd, hck, hcr⟩ := hcC.get hda
    obtain ⟨g, cap, cs, e9, hg0, hca⟩ := own_int_at hown haj
    cases e9
    have hg := hx.keep hg0
    have hq := (hx0.trans hx).keep h.q
    have hcp := (hx0.trans hx).keep hcp0
    refine wc_skip ?_
    refine at_thn ?_
    refine wc_seq ?_
    refine wc_block ?_
    refine wc_seq ?_
    refine wc_plain ?_
    refine wf_rd _ rfl rfl (RD.indexN rfl rfl Try.underlying46 Try.sizeOf3 hlt) rfl ?_
    refine wf_rd _ rfl rfl (RD.load rfl (LD.one Try.isAgg3 hg hca)) rfl ?_
    refine wf_rd _ rfl rfl (RD.assign rfl) rfl ?_
    refine wf_nil ?_
    refine at_thn ?_
    refine wc_plain ?_
    refine wf_rd _ rfl rfl (RD.move rfl) rfl ?_
    refine wf_rd _ rfl rfl (RD.move rfl) rfl ?_
    refine wf_rd _ rfl rfl (RD.nilCheck rfl) rfl ?_
    refine wf_rd _ rfl rfl (RD.field rfl Try.underlying63 rfl Try.sizeOf58) rfl ?_
    refine wf_rd _ rfl rfl (RD.load rfl (LD.one Try.isAgg58 hq rfl)) rfl ?_
    refine wf_rd _ rfl rfl (RD.move rfl) rfl ?_
    refine wf_rd _ rfl rfl (RD.lkY (k := a) rfl rfl Try.underlying58 Try.underlying3 hcp hcM hck) rfl ?_
    have hx5 : Ext H2 H2 := Ext.refl _
    refine wf_call rfl en25 rfl rfl (copied25 f H2 (Z a) _ d (RC.mono f _ _ _ _ _ _ (fun b hb => ((hx0.trans hx).trans hx5).old b (h.z _ b hb).1) (fun _ h => h) hcr) (fun b hb => Nat.lt_of_lt_of_le (h.z _ b hb).1 ((hx0.trans hx).trans hx5).size)) ?_
    rintro _ H6 ⟨cs', rfl, hc6, hx6⟩
    refine ⟨trivial, ?_⟩
    refine wf_mkSlice1 el24 rfl rfl hc6.len rfl rfl rfl (fun b24 H7 e7 z7 hb24 hk7 => ⟨trivial, ?_⟩)
    have ha4 := ((ha.ext (RC.mono f) hx5).ext (RC.mono f) hx6).ext (RC.mono f) (Ext.new z7 hk7)
    refine wf_append (news := cs') el24 rfl rfl ha4.own hb24 (by rw [List.drop_zero, List.take_of_length_le (by simp [hc6.len])]) (by simp [hc6.len]) hc6.one (by omega) (by omega) rfl rfl (fun vo9 H8 ho5 hg5 hw5 => ⟨trivial, ?_⟩)
    have ha9 := ha4.push (RC.mono f) (d := d) hc6.len (RC.mono f _ _ _ _ _ _ (fun b hb => hk7 b hb.2) (fun b hb => zone_new (H1 := H2) (by have := hx.size; have := hx5.size; omega) (fun g hg => Nat.lt_of_lt_of_le (ha.own.lt hg) hx5.size) ⟨hb.1, by have := hb.2; omega⟩) hc6) (by have := hx.size; have := hx5.size; have := hx6.size; omega) ho5 hg5 hw5
    have hx9 : Ext H1 H8 := (((hx.trans hx5).trans hx6).trans (Ext.new z7 hk7)).grew hg5 (fun g hg => ha4.young g hg)
    refine wf_rd _ rfl rfl (RD.assign rfl) rfl ?_
    refine wf_nil ?_
    refine at_inB ?_
    refine at_thn ?_
    refine wc_plain ?_
    refine wf_rd _ rfl rfl (RD.add64 rfl rfl (by omega)) rfl ?_
    refine wf_rd _ rfl rfl (RD.move rfl) rfl ?_
    refine wf_nil ?_
    refine at_lp (j + 1, vo9, es ++ [cs']) (by dsimp only; omega) ⟨rfl, rfl, rfl, rfl, rfl, trivial⟩ ⟨by dsimp only; omega, hx9, by dsimp only; rw [htk]; exact ha9⟩
  ·
    have : j = ks.length := by have : ¬ j < ks.length := by simpa using hc13
                               omega
    subst this
    rw [← hdl, List.take_length] at ha
    refine wc_exit ?_
    refine at_thn_exit ?_
    refine at_lp_exit ?_
    refine at_inB_out ?_
    refine at_thn ?_
    refine wc_seq ?_
    refine wc_plain ?_
    refine wf_rd _ rfl rfl (RD.move rfl) rfl ?_
    refine wf_rd _ rfl rfl (RD.assign rfl) rfl ?_
    refine wf_nil ?_
    refine at_thn ?_
    refine wc_ret ?_
    refine at_ret1 rfl rfl ?_
    exact ⟨ks, ds, hkp, hks, hdl, hds, ⟨_, ha.base (RC.mono f) hx0.size⟩, hx0.trans hx⟩
end Go.Proofs.Ytfomnjippakjpaa
