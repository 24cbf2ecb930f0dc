/-
  Contracts of functions of the given program, at the blocks of memory that they read and write.
-/
import Derived.Test.YtfomnjippakjpaaQueue2
import Derived.Test.YtfomnjippakjpaaItems27
import Derived.Test.YtfomnjippakjpaaRows
namespace Go.Proofs.Ytfomnjippakjpaa
open Go.S

theorem ready_list {js : List It} {is : List It} {cp : Int → Option CD} (hcov : ∀ a ∈ is, ∃ d, cp a.s = some d) (hm : ∀ a, a ∈ js → a ∈ is) : ∃ ds : List CD, ds.length = js.length ∧ ∀ (j : Nat) (a : It) (d : CD), js[j]? = some a → ds[j]? = some d → cp a.s = some d := by
  refine ⟨js.map (fun a => (cp a.s).getD default), by simp, fun j a d h1 h2 => ?_⟩
  rw [List.getElem?_map, h1] at h2
  obtain ⟨d', hd⟩ := hcov a (hm a (List.mem_of_getElem? h1))
  simp only [Option.map_some, Option.some.injEq, hd, Option.getD_some] at h2
  rw [hd, h2]
theorem IList.row {H H' : Heap} {v : Value} {js : List It} (h : IList H H' v js) : ∃ p c, v = .slice p js.length c ∧ ∀ (j : Nat) (a : It), js[j]? = some a → ∃ g cs, p = some ⟨g, 0, none⟩ ∧ H'[g]? = some (.cells (cs : List Value).toArray 69 (0, 0)) ∧ IRow cs js := by
  rcases h with ⟨rfl, rfl⟩ | ⟨g, cap, cs, rfl, h1, h2, _⟩
  · exact ⟨none, 0, rfl, fun j a h => by simp at h⟩
  · exact ⟨_, _, rfl, fun j a _ => ⟨g, cs, rfl, h1, h2⟩⟩
set_option maxRecDepth 100000 in
theorem ready8 (f : Nat) (H : Heap) (B : QB) (S : QS) (Z : Int → Nat → Prop) (h : QInv f H B S Z) (hcov : ∀ a ∈ S.is, ∃ d, S.cp a.s = some d) (hlim : S.is.length ≤ 2097152) :
    FN Try.prog 8 [(.pointer (some ⟨B.q, 0, none⟩))] H (fun r H' => ∃ (js : List It) (ds : List CD), js.Perm S.is ∧ InLine js ∧ ds.length = js.length ∧ (∀ (j : Nat) (a : It) (d : CD), js[j]? = some a → ds[j]? = some d → S.cp a.s = some d) ∧
      (∃ es, Accum H H' 35 25 (RC f) r ds es) ∧ Ext H H') := by
  have hq0 := h.q
  obtain ⟨ec, cc, hcp0, hcM, hcC⟩ := h.cp
  refine fn_intro 28 Try.func8 rfl Try.ntmps8 rfl ?_
  refine wc_seq ?_
  refine wc_plain ?_
  refine wf_rd _ rfl rfl (RD.assign rfl) rfl ?_
  refine wf_nil ?_
  refine at_thn ?_
  refine wc_seq ?_
  refine wc_seq ?_
  refine wc_plain ?_
  refine wf_rd _ rfl rfl (RD.move rfl) rfl ?_
  refine wf_rd _ rfl rfl (RD.nilCheck rfl) rfl ?_
  refine wf_rd _ rfl rfl (RD.field rfl Try.underlying63 rfl Try.sizeOf59) rfl ?_
  refine wf_rd _ rfl rfl (RD.load rfl (LD.one Try.isAgg59 hq0 rfl)) rfl ?_
  refine wf_call rfl en27 rfl rfl (items27 H B.l B.bm B.v S.is h.pile hlim) ?_
  rintro r9 H1 ⟨js, hpm, hil, hI, hx0⟩
  obtain ⟨ds, hdl, hds⟩ := ready_list (js := js) hcov (fun a ha => hpm.mem_iff.1 ha)
  obtain ⟨p, c, rfl, hrow⟩ := hI.row
  have hjl : js.length ≤ 2097152 := by rw [hpm.length_eq]; exact hlim
  refine ⟨trivial, ?_⟩
  refine wf_rd _ rfl rfl (RD.lenSl rfl Try.underlying66) rfl ?_
  refine wf_rd _ rfl rfl (RD.move rfl) rfl ?_
  refine wf_nil ?_
  refine at_thn ?_
  refine wc_block ?_
  refine wc_loop (fun i : Nat × Value × List (List Value) => [(0, (.pointer (some ⟨B.q, 0, none⟩))), (2, i.2.1), (9, .slice p js.length c), (10, .int .i64 js.length), (11, .int .i64 (i.1 : Int))]) (fun i H2 => i.1 ≤ js.length ∧ Ext H1 H2 ∧ Accum H1 H2 35 25 (RC f) i.2.1 (ds.take i.1) i.2.2) (fun i => js.length - i.1) (0, .slice none 0 0, []) ⟨rfl, rfl, rfl, rfl, rfl, trivial⟩ ⟨Nat.zero_le _, Ext.refl _, by simpa using Accum.nil H1 35 25 (RC f)⟩ ?_
  rintro ⟨j, vo, es⟩ H2 ⟨hj, hx, ha⟩
  dsimp only at hj ha
  show WC _ _ _ _ [(0, (.pointer (some ⟨B.q, 0, none⟩))), (2, vo), (9, .slice p js.length c), (10, .int .i64 js.length), (11, .int .i64 (j : Int))] H2
  refine wc_seq ?_
  refine wc_plain ?_
  refine wf_rd _ rfl rfl (RD.cmp _ rfl rfl rfl) rfl ?_
  refine wf_nil ?_
  refine at_thn ?_
  refine wc_seq ?_
  refine wc_cond rfl (fun hc12 => ?_) (fun hc12 => ?_)
  ·
    have hlt : j < js.length := by simpa using hc12
    obtain ⟨d, hdj⟩ : ∃ d, ds[j]? = some d := ⟨_, List.getElem?_eq_getElem (by omega)⟩
    have htk : ds.take (j + 1) = ds.take j ++ [d] := by rw [List.take_add_one, hdj]; rfl
    have hlj : (ds.take j).length = j := by simp; omega
    obtain ⟨a, haj⟩ : ∃ a, js[j]? = some a := ⟨_, List.getElem?_eq_getElem hlt⟩
    have hda := hds j a d haj hdj
    obtain ⟨csd, hck, hcr⟩ := hcC.get hda
    obtain ⟨g, cs, hpg, hg0, hr⟩ := hrow j a haj
    subst hpg
    have hg := hx.keep hg0
    have hq := (hx0.trans hx).keep h.q
    have hcp := (hx0.trans hx).keep hcp0
    refine wc_skip ?_
    refine at_thn ?_
    refine wc_seq ?_
    refine wc_block ?_
    refine wc_seq ?_
    refine wc_plain ?_
    refine wf_rd _ rfl rfl (RD.indexN rfl rfl Try.underlying66 Try.sizeOf69 hlt) rfl ?_
    refine wf_rd _ rfl rfl (RD.load rfl (LD.el Try.isAgg69 Try.sizeOf69 hg (hr.at haj))) rfl ?_
    
    refine wf_alloc Try.zeroValue69 rfl rfl rfl (fun b4 H12 e4 z12 hb4 hk12 => ⟨trivial, ?_⟩)
    have n4_hq := ne_new hq e4
    have n4_hcp := ne_new hcp e4
    replace hq := (hk12 _ (lt_of hq)).trans hq
    replace hcp := (hk12 _ (lt_of hcp)).trans hcp
    refine wf_storeA rfl rfl Try.sizeOf69 rfl hb4 a.ones rfl (fun H13 z13 hx13 hk13 => ⟨trivial, ?_⟩)
    replace hq := (hk13 _ (by first | assumption | exact Ne.symm (by assumption) | omega)).trans hq
    replace hcp := (hk13 _ (by first | assumption | exact Ne.symm (by assumption) | omega)).trans hcp
    replace hb4 := hx13
    refine wf_nil ?_
    refine at_thn ?_
    refine wc_drawn [(1, 0), (2, 0), (3, 0), (4, 0), (5, 0), (6, 0), (7, 0), (0, 1), (8, 2), (9, 2), (10, 3), (11, 0)] (fun _ => True) (by kernel_rfl) (by kernel_rfl) trivial ?_
    refine wf_rd _ rfl rfl (RD.move rfl) rfl ?_
    refine wf_rd _ rfl rfl (RD.nilCheck rfl) rfl ?_
    refine wf_rd _ rfl rfl (RD.field rfl Try.underlying63 rfl Try.sizeOf58) rfl ?_
    refine wf_rd _ rfl rfl (RD.load rfl (LD.one Try.isAgg58 hq rfl)) rfl ?_
    refine wf_rd _ rfl rfl (RD.field rfl Try.underlying69 rfl Try.sizeOf3) rfl ?_
    refine wf_rd _ rfl rfl (RD.load rfl (LD.one Try.isAgg3 hb4 rfl)) rfl ?_
    refine wf_rd _ rfl rfl (RD.lkY (k := a.s) rfl rfl Try.underlying58 Try.underlying3 hcp hcM hck) rfl ?_
    refine wf_su _ rfl rfl (fun _ _ => (RD.move rfl)) ?_
    have hx5 : Ext H2 H13 := (Ext.new z12 hk12).wrote z13 hk13 (by omega)
    refine wf_call rfl en25 rfl rfl (copied25 f H13 (Z a.s) _ d (RC.mono f _ _ _ _ _ _ (fun b hb => ((hx0.trans hx).trans hx5).old b (h.z _ b hb).1) (fun _ h => h) hcr) (fun b hb => Nat.lt_of_lt_of_le (h.z _ b hb).1 ((hx0.trans hx).trans hx5).size)) ?_
    rintro _ H6 ⟨cs', rfl, hc6, hx6⟩
    refine ⟨trivial, ?_⟩
    refine wf_mkSlice1 el24 rfl rfl hc6.len rfl rfl rfl (fun b24 H7 e7 z7 hb24 hk7 => ⟨trivial, ?_⟩)
    have ha4 := ((ha.ext (RC.mono f) hx5).ext (RC.mono f) hx6).ext (RC.mono f) (Ext.new z7 hk7)
    refine wf_append (news := cs') el24 rfl rfl ha4.own hb24 (by rw [List.drop_zero, List.take_of_length_le (by simp [hc6.len])]) (by simp [hc6.len]) hc6.one (by omega) (by omega) rfl rfl (fun vo9 H8 ho5 hg5 hw5 => ⟨trivial, ?_⟩)
    have ha9 := ha4.push (RC.mono f) (d := d) hc6.len (RC.mono f _ _ _ _ _ _ (fun b hb => hk7 b hb.2) (fun b hb => zone_new (H1 := H13) (by have := hx.size; have := hx5.size; omega) (fun g hg => Nat.lt_of_lt_of_le (ha.own.lt hg) hx5.size) ⟨hb.1, by have := hb.2; omega⟩) hc6) (by have := hx.size; have := hx5.size; have := hx6.size; omega) ho5 hg5 hw5
    have hx9 : Ext H1 H8 := (((hx.trans hx5).trans hx6).trans (Ext.new z7 hk7)).grew hg5 (fun g hg => ha4.young g hg)
    refine wf_rd _ rfl rfl (RD.assign rfl) rfl ?_
    refine wf_nil ?_
    refine at_inB ?_
    refine at_thn ?_
    refine wc_plain ?_
    refine wf_rd _ rfl rfl (RD.add64 rfl rfl (by omega)) rfl ?_
    refine wf_rd _ rfl rfl (RD.move rfl) rfl ?_
    refine wf_nil ?_
    refine at_lp (j + 1, vo9, es ++ [cs']) (by dsimp only; omega) ⟨rfl, rfl, rfl, rfl, rfl, trivial⟩ ⟨by dsimp only; omega, hx9, by dsimp only; rw [htk]; exact ha9⟩
  ·
    have : j = js.length := by have : ¬ j < js.length := by simpa using hc12
                               omega
    subst this
    rw [← hdl, List.take_length] at ha
    refine wc_exit ?_
    refine at_thn_exit ?_
    refine at_lp_exit ?_
    refine at_inB_out ?_
    refine at_thn ?_
    refine wc_seq ?_
    refine wc_plain ?_
    refine wf_rd _ rfl rfl (RD.move rfl) rfl ?_
    refine wf_rd _ rfl rfl (RD.assign rfl) rfl ?_
    refine wf_nil ?_
    refine at_thn ?_
    refine wc_ret ?_
    refine at_ret1 rfl rfl ?_
    exact ⟨js, ds, hpm, hil, hdl, hds, ⟨_, ha.base (RC.mono f) hx0.size⟩, hx0.trans hx⟩
end Go.Proofs.Ytfomnjippakjpaa
