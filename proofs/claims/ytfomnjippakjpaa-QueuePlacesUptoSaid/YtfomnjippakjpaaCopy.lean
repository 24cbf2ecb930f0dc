import Derived.Test.YtfomnjippakjpaaFacts
import Derived.Test.YtfomnjippakjpaaRows
namespace Go.Proofs.Ytfomnjippakjpaa
open Go.S

def CopyV (f : Nat) : Prop := ∀ (H : Heap) (Z : Nat → Prop) (cs : List Value) (d : T), RV H Z f cs d → (∀ b, Z b → b < H.size) → FN Try.prog 65 [.agg cs.toArray] H (fun v H' => ∃ cs' : List Value, v = .agg cs'.toArray ∧ RV H' (fresh H H') f cs' d ∧ Ext H H')
def CopyT (f : Nat) : Prop := ∀ (H : Heap) (Z : Nat → Prop) (v : Value) (fs : List T), RT f H Z v fs → (∀ b, Z b → b < H.size) → fs.length ≤ lim → FN Try.prog 55 [v] H (fun v' H' => RT f H' (fresh H H') v' fs ∧ Ext H H')

set_option maxRecDepth 100000 in
theorem copyT_of (f : Nat) (ih : CopyV f) : CopyT f := by
  intro H Z v fs h hZ0 hlim
  have hl6 : fs.length ≤ 1048576 := hlim
  obtain ⟨p, c, rfl⟩ := h.len
  refine fn_intro 22 Try.func55 rfl Try.ntmps55 rfl ?_
  refine wc_seq ?_
  refine wc_plain ?_
  refine wf_rd _ rfl rfl (RD.assign rfl) rfl ?_
  refine wf_nil ?_
  refine at_thn ?_
  refine wc_seq ?_
  refine wc_seq ?_
  refine wc_plain ?_
  refine wf_rd _ rfl rfl (RD.move rfl) rfl ?_
  refine wf_rd _ rfl rfl (RD.lenSl rfl Try.underlying28) rfl ?_
  refine wf_rd _ rfl rfl (RD.move rfl) rfl ?_
  refine wf_nil ?_
  refine at_thn ?_
  refine wc_block ?_
  refine wc_loop (fun i : Nat × Value × List (List Value) => [(2, i.2.1), (5, .slice p fs.length c), (6, .int .i64 fs.length), (7, .int .i64 (i.1 : Int))]) (fun i H1 => i.1 ≤ fs.length ∧ Ext H H1 ∧ Accum H H1 119 6 (fun H Z => RFd (RV H Z f)) i.2.1 (fs.take i.1) i.2.2) (fun i => fs.length - i.1) (0, .slice none 0 0, []) ⟨rfl, rfl, rfl, rfl, trivial⟩ ⟨Nat.zero_le _, Ext.refl _, by simpa using Accum.nil H 119 6 (fun H Z => RFd (RV H Z f))⟩ ?_
  rintro ⟨j, vo, es⟩ H1 ⟨hj, hx, ha⟩
  dsimp only at hj ha
  show WC _ _ _ _ [(2, vo), (5, .slice p fs.length c), (6, .int .i64 fs.length), (7, .int .i64 (j : Int))] H1
  refine wc_seq ?_
  refine wc_plain ?_
  refine wf_rd _ rfl rfl (RD.cmp _ rfl rfl rfl) rfl ?_
  refine wf_nil ?_
  refine at_thn ?_
  refine wc_seq ?_
  refine wc_cond rfl (fun hc8 => ?_) (fun hc8 => ?_)
  ·
    have hlt : j < fs.length := by simpa using hc8
    obtain ⟨b, off, c', cs, T, fz, e1, hZ, hb0, hlen, hR⟩ := h.at (List.getElem?_eq_getElem hlt)
    cases e1
    have htk : fs.take (j + 1) = fs.take j ++ [fs[j]] := by rw [List.take_add_one]; simp [hlt]
    have hlj : (fs.take j).length = j := by simp; omega
    obtain ⟨nm, vs, dv, hxe, hde, hv⟩ := hR
    obtain ⟨v0, v1, v2, v3, v4, rfl⟩ := five hv.len
    have hone := hv.one
    have hb := hx.keep hb0
    have hl9 := hx.old b (lt_of hb0)
    refine wc_skip ?_
    refine at_thn ?_
    refine wc_seq ?_
    refine wc_block ?_
    refine wc_seq ?_
    refine wc_plain ?_
    refine wf_rd _ rfl rfl (RD.indexN rfl rfl Try.underlying28 Try.sizeOf119 hlt) rfl ?_
    refine wf_rd (.agg [.string nm, v0, v1, v2, v3, v4].toArray) rfl rfl (RD.load rfl (by have := LD.agg (P := Try.prog) Try.isAgg119 Try.sizeOf119 hb hlen; rwa [hxe] at this)) rfl ?_
    refine wf_alloc Try.zeroValue119 rfl rfl rfl (fun b4 H11 e4 z11 hb4 hk11 => ⟨trivial, ?_⟩)
    refine wf_storeA rfl rfl Try.sizeOf119 rfl hb4 (List.forall_mem_cons.2 ⟨rfl, hone⟩) rfl (fun H2 z2 hx2 hk2 => ⟨trivial, ?_⟩)
    have hx4 : Ext H1 H2 := (Ext.new z11 hk11).wrote z2 hk2 (by omega)
    
    replace hb4 := hx2
    refine wf_nil ?_
    refine at_thn ?_
    refine wc_drawn [(3, 0), (4, 0), (0, 1), (1, 1), (2, 1), (5, 2), (6, 0), (7, 2), (8, 3), (9, 0)] (fun X : Heap => X[b4]? = some (.cells [.string nm, v0, v1, v2, v3, v4].toArray 119 (0, 0))) (by kernel_rfl) (by kernel_rfl) hb4 ?_
    refine wf_rd _ rfl rfl (RD.field rfl Try.underlying119 rfl Try.sizeOf117) rfl ?_
    refine wf_rd _ rfl rfl (RD.load rfl (LD.agg Try.isAgg117 Try.sizeOf117 hb4 (Nat.le_of_ble_eq_true rfl))) rfl ?_
    refine wf_su _ rfl rfl (fun _ hC => (RD.move rfl)) ?_
    refine wf_su _ rfl rfl (fun _ hC => (RD.field rfl Try.underlying119 rfl Try.sizeOf9)) ?_
    refine wf_su _ rfl rfl (fun _ hC => (RD.load rfl (LD.one Try.isAgg9 hC rfl))) ?_
    refine wf_call rfl en65 rfl rfl (ih _ _ _ _ (RV.mono f _ _ _ _ _ _ (fun b hb => ((hx.trans hx4).old b (hZ0 b hb))) (fun _ h => h) hv) (fun b hb => Nat.lt_of_lt_of_le (hZ0 b hb) (hx.trans hx4).size)) ?_
    rintro _ H3 ⟨cs', rfl, hv3, hx3⟩
    replace hb4 := hx3.keep hb4
    refine ⟨hb4, ?_⟩
    cases f with
    | zero => exact hv.elim
    | succ f =>
    have hv4 := hv3
    obtain ⟨k9, m9, s9, l9, t9, ls9, fs9, rfl, _, _, _, hl9, ht9⟩ := hv3
    obtain ⟨lp, lc, rfl⟩ := hl9.len
    obtain ⟨tp, tc, rfl⟩ := ht9.len
    refine wf_rd _ rfl rfl (RD.build rfl (built119_0_1 nm k9 m9 s9 _ _ _ _ _ _)) rfl ?_
    refine wf_mkSlice1 el28 rfl rfl rfl rfl rfl rfl (fun b8 H4 e8 z8 hb8 hk8 => ⟨(hk8 _ (lt_of hb4)).trans hb4, ?_⟩)
    have ha3 : Accum H H3 119 6 (fun H Z => RFd (RV H Z (f+1))) vo (fs.take j) es := (ha.ext (RFv.mono _) hx4).ext (RFv.mono _) hx3
    have ha4 := ha3.ext (RFv.mono _) (Ext.new z8 hk8)
    refine wf_append (news := [.string nm, .int .i64 k9, .int .i64 m9, .string s9, .slice lp ls9.length lc, .slice tp fs9.length tc]) el28 rfl rfl ha4.own hb8 rfl (by simp) (by simp [Value.oneCell']) (by omega) (by omega) rfl rfl (fun vo9 H5 ho5 hg5 hw5 => ⟨trivial, ?_⟩)
    have ha9 := ha4.push (RFv.mono _) (d := fs[j]) rfl ⟨nm, _, dv, rfl, hde, RV.mono _ _ _ _ _ _ _ (fun b hb => hk8 b hb.2) (fun b hb => zone_new (H1 := H2) (by have := hx.size; have := hx4.size; omega) (fun g hg => Nat.lt_of_lt_of_le (ha.own.lt hg) hx4.size) ⟨hb.1, by have := hb.2; omega⟩) hv4⟩ (by have := hx.size; have := hx4.size; have := hx3.size; omega) ho5 hg5 hw5
    have hx9 : Ext H H5 := (((hx.trans hx4).trans hx3).trans (Ext.new z8 hk8)).grew hg5 (fun g hg => ha4.young g hg)
    refine wf_rd _ rfl rfl (RD.assign rfl) rfl ?_
    refine wf_nil ?_
    refine at_inB ?_
    refine at_thn ?_
    refine wc_plain ?_
    refine wf_rd _ rfl rfl (RD.add64 rfl rfl (by omega)) rfl ?_
    refine wf_rd _ rfl rfl (RD.move rfl) rfl ?_
    refine wf_nil ?_
    refine at_lp (j + 1, vo9, es ++ [[.string nm, .int .i64 k9, .int .i64 m9, .string s9, .slice lp ls9.length lc, .slice tp fs9.length tc]]) (by dsimp only; omega) ⟨rfl, rfl, rfl, rfl, trivial⟩ ⟨by dsimp only; omega, hx9, by dsimp only; rw [htk]; exact ha9⟩
  ·
    have : j = fs.length := by have : ¬ j < fs.length := by simpa using hc8
                               omega
    subst this
    rw [List.take_length] at ha
    refine wc_exit ?_
    refine at_thn_exit ?_
    refine at_lp_exit ?_
    refine at_inB_out ?_
    refine at_thn ?_
    refine wc_seq ?_
    refine wc_plain ?_
    refine wf_rd _ rfl rfl (RD.move rfl) rfl ?_
    refine wf_rd _ rfl rfl (RD.assign rfl) rfl ?_
    refine wf_nil ?_
    refine at_thn ?_
    refine wc_ret ?_
    refine at_ret1 rfl rfl ?_
    exact ⟨ha.done (RFv.mono _), hx⟩
set_option maxRecDepth 100000 in
theorem copyV_of (f : Nat) (ih : CopyV f) (ihT : CopyT f) : CopyV (f + 1) := by
  intro H Z cs d h hZ0
  obtain ⟨k, m, s, l, t, ls, fs, rfl, rfl, hll, hfl, hl, ht⟩ := h
  have hl6 : ls.length ≤ 1048576 := hll
  obtain ⟨p, c, rfl⟩ := hl.len
  obtain ⟨tp, tc, rfl⟩ := ht.len
  refine fn_intro 26 Try.func65 rfl Try.ntmps65 rfl ?_
  refine wc_seq ?_
  refine wc_plain ?_
  refine wf_box rfl rfl rfl rfl (fun b1 H1 e1 z1 hb1 hk1 => ⟨trivial, ?_⟩)
  refine wf_alloc Try.zeroValue117 rfl rfl rfl (fun b2 H2 e2 z2 hb2 hk2 => ⟨trivial, ?_⟩)
  have n2_hb1 := ne_new hb1 e2
  replace hb1 := (hk2 _ (lt_of hb1)).trans hb1
  have hx2 : Ext H H2 := (Ext.new z1 hk1).trans (Ext.new z2 hk2)
  refine wf_nil ?_
  refine at_thn ?_
  refine wc_seq ?_
  refine wc_plain ?_
  refine wf_rd _ rfl rfl (RD.assign rfl) rfl ?_
  refine wf_nil ?_
  refine at_thn ?_
  refine wc_seq ?_
  refine wc_seq ?_
  refine wc_plain ?_
  refine wf_rd _ rfl rfl (RD.field rfl Try.underlying117 rfl Try.sizeOf115) rfl ?_
  refine wf_rd _ rfl rfl (RD.load rfl (LD.one Try.isAgg115 hb1 rfl)) rfl ?_
  refine wf_rd _ rfl rfl (RD.lenSl rfl Try.underlying115) rfl ?_
  refine wf_rd _ rfl rfl (RD.move rfl) rfl ?_
  refine wf_nil ?_
  refine at_thn ?_
  refine wc_block ?_
  refine wc_loop (fun i : Nat × Value × List (List Value) => [(1, .pointer (some ⟨b1, 0, none⟩)), (2, .pointer (some ⟨b2, 0, none⟩)), (3, i.2.1), (7, .slice p ls.length c), (8, .int .i64 ls.length), (9, .int .i64 (i.1 : Int))]) (fun i H1 => i.1 ≤ ls.length ∧ Ext H2 H1 ∧ H1[b1]? = some (.cells [.int .i64 k, .int .i64 m, .string s, .slice p ls.length c, .slice tp fs.length tc].toArray 117 (0, 0)) ∧ H1[b2]? = some (.cells [.int .i64 0, .int .i64 0, .string ⟨#[]⟩, .slice none 0 0, .slice none 0 0].toArray 117 (0, 0)) ∧ Accum H2 H1 117 5 (fun H Z => RV H Z f) i.2.1 (ls.take i.1) i.2.2) (fun i => ls.length - i.1) (0, .slice none 0 0, []) ⟨rfl, rfl, rfl, rfl, rfl, rfl, trivial⟩ ⟨Nat.zero_le _, Ext.refl _, hb1, hb2, by simpa using Accum.nil H2 117 5 (fun H Z => RV H Z f)⟩ ?_
  rintro ⟨j, vo, es⟩ H3 ⟨hj, hx, hb1, hb2, ha⟩
  dsimp only at hj ha
  show WC _ _ _ _ [(1, .pointer (some ⟨b1, 0, none⟩)), (2, .pointer (some ⟨b2, 0, none⟩)), (3, vo), (7, .slice p ls.length c), (8, .int .i64 ls.length), (9, .int .i64 (j : Int))] H3
  refine wc_seq ?_
  refine wc_plain ?_
  refine wf_rd _ rfl rfl (RD.cmp _ rfl rfl rfl) rfl ?_
  refine wf_nil ?_
  refine at_thn ?_
  refine wc_seq ?_
  refine wc_cond rfl (fun hc10 => ?_) (fun hc10 => ?_)
  ·
    have hlt : j < ls.length := by simpa using hc10
    obtain ⟨b, off, c', cs, T, fz, e1, hZ, hb0, hlen, hv⟩ := hl.at (List.getElem?_eq_getElem hlt)
    cases e1
    have htk : ls.take (j + 1) = ls.take j ++ [ls[j]] := by rw [List.take_add_one]; simp [hlt]
    have hlj : (ls.take j).length = j := by simp; omega
    obtain ⟨v0, v1, v2, v3, v4, hxe⟩ := five hv.len
    rw [hxe] at hv
    have hone := hv.one
    have hb := hx.keep (hx2.keep hb0)
    refine wc_skip ?_
    refine at_thn ?_
    refine wc_seq ?_
    refine wc_block ?_
    refine wc_seq ?_
    refine wc_plain ?_
    refine wf_rd _ rfl rfl (RD.indexN rfl rfl Try.underlying115 Try.sizeOf117 hlt) rfl ?_
    refine wf_rd (.agg [v0, v1, v2, v3, v4].toArray) rfl rfl (RD.load rfl (by have := LD.agg (P := Try.prog) Try.isAgg117 Try.sizeOf117 hb hlen; rwa [hxe] at this)) rfl ?_
    refine wf_alloc Try.zeroValue117 rfl rfl rfl (fun b5 H13 e5 z13 hb5 hk13 => ⟨trivial, ?_⟩)
    have n5_hb1 := ne_new hb1 e5
    have n5_hb2 := ne_new hb2 e5
    replace hb1 := (hk13 _ (lt_of hb1)).trans hb1
    replace hb2 := (hk13 _ (lt_of hb2)).trans hb2
    refine wf_storeA rfl rfl Try.sizeOf117 rfl hb5 hone rfl (fun H5 z5 hx5 hk5 => ⟨trivial, ?_⟩)
    replace hb1 := (hk5 _ n5_hb1).trans hb1
    replace hb2 := (hk5 _ n5_hb2).trans hb2
    have hx4 : Ext H3 H5 := (Ext.new z13 hk13).wrote z5 hk5 (by omega)
    replace hb5 := hx5
    refine wf_nil ?_
    refine at_thn ?_
    refine wc_plain ?_
    refine wf_rd _ rfl rfl (RD.move rfl) rfl ?_
    refine wf_rd _ rfl rfl (RD.load rfl (LD.all Try.isAgg117 Try.sizeOf117 hb5 rfl)) rfl ?_
    refine wf_call rfl en65 rfl rfl (ih _ _ _ _ (RV.mono f _ _ _ _ _ _ (fun b hb => (((hx2.trans hx).trans hx4).old b (hZ0 b hb))) (fun _ h => h) hv) (fun b hb => Nat.lt_of_lt_of_le (hZ0 b hb) ((hx2.trans hx).trans hx4).size)) ?_
    rintro _ H6 ⟨cs', rfl, hv3, hx3⟩
    replace hb1 := hx3.keep hb1
    replace hb2 := hx3.keep hb2
    refine ⟨trivial, ?_⟩
    refine wf_mkSlice1 el115 rfl rfl hv3.len rfl rfl rfl (fun b16 H7 e7 z7 hb16 hk7 => ⟨trivial, ?_⟩)
    replace hb1 := (hk7 _ (lt_of hb1)).trans hb1
    replace hb2 := (hk7 _ (lt_of hb2)).trans hb2
    have ha3 : Accum H2 H6 117 5 (fun H Z => RV H Z f) vo (ls.take j) es := (ha.ext (RV.mono _) hx4).ext (RV.mono _) hx3
    have ha4 := ha3.ext (RV.mono _) (Ext.new z7 hk7)
    refine wf_append (news := cs') el115 rfl rfl ha4.own hb16 (by rw [List.drop_zero, List.take_of_length_le (by simp [hv3.len])]) (by simp [hv3.len]) hv3.one (by omega) (by omega) rfl rfl (fun vo9 H8 ho5 hg5 hw5 => ⟨trivial, ?_⟩)
    have ha9 := ha4.push (RV.mono _) (d := ls[j]) hv3.len (RV.mono _ _ _ _ _ _ _ (fun b hb => hk7 b hb.2) (fun b hb => zone_new (H1 := H5) (by have := hx.size; have := hx4.size; omega) (fun g hg => Nat.lt_of_lt_of_le (ha.own.lt hg) hx4.size) ⟨hb.1, by have := hb.2; omega⟩) hv3) (by have := hx.size; have := hx4.size; have := hx3.size; omega) ho5 hg5 hw5
    have hx9 : Ext H2 H8 := (((hx.trans hx4).trans hx3).trans (Ext.new z7 hk7)).grew hg5 (fun g hg => ha4.young g hg)
    replace hb1 := (hg5.2 b1 (lt_of hb1) (fun e => by have := ha4.young _ e.symm; omega)).trans hb1
    replace hb2 := (hg5.2 b2 (lt_of hb2) (fun e => by have := ha4.young _ e.symm; omega)).trans hb2
    refine wf_rd _ rfl rfl (RD.assign rfl) rfl ?_
    refine wf_nil ?_
    refine at_inB ?_
    refine at_thn ?_
    refine wc_plain ?_
    refine wf_rd _ rfl rfl (RD.add64 rfl rfl (by omega)) rfl ?_
    refine wf_rd _ rfl rfl (RD.move rfl) rfl ?_
    refine wf_nil ?_
    refine at_lp (j + 1, vo9, es ++ [cs']) (by dsimp only; omega) ⟨rfl, rfl, rfl, rfl, rfl, rfl, trivial⟩ ⟨by dsimp only; omega, hx9, hb1, hb2, by dsimp only; rw [htk]; exact ha9⟩
  ·
    have : j = ls.length := by have : ¬ j < ls.length := by simpa using hc10
                               omega
    subst this
    rw [List.take_length] at ha
    refine wc_exit ?_
    refine at_thn_exit ?_
    refine at_lp_exit ?_
    refine at_inB_out ?_
    refine at_thn ?_
    refine wc_seq ?_
    refine wc_plain ?_
    refine wf_rd _ rfl rfl (RD.move rfl) rfl ?_
    refine wf_rd _ rfl rfl (RD.field rfl Try.underlying117 rfl Try.sizeOf28) rfl ?_
    refine wf_rd _ rfl rfl (RD.load rfl (LD.one Try.isAgg28 hb1 rfl)) rfl ?_
    refine wf_call rfl en55 rfl rfl (ihT _ _ _ _ (RT.mono ht (fun b hb => ((hx2.trans hx).old b (hZ0 b hb))) (fun _ h => h)) (fun b hb => Nat.lt_of_lt_of_le (hZ0 b hb) (hx2.trans hx).size) hfl) ?_
    rintro t' H6 ⟨ht', hx3⟩
    replace hb1 := hx3.keep hb1
    replace hb2 := hx3.keep hb2
    refine ⟨trivial, ?_⟩
    obtain ⟨tp', tc', rfl⟩ := RSl.len ht'
    obtain ⟨vp, vc, rfl⟩ := ha.own.val
    refine wf_rd _ rfl rfl (RD.field rfl Try.underlying117 rfl Try.sizeOf115) rfl ?_
    refine wf_store1 rfl rfl Try.sizeOf115 rfl hb1 (by first | rfl | assumption) (Nat.le_of_ble_eq_true rfl) (fun H13 z13 hx13 hk13 => ⟨trivial, ?_⟩)
    replace hb2 := (hk13 _ (by first | assumption | exact Ne.symm (by assumption) | omega)).trans hb2
    replace hb1 := hx13
    refine wf_rd _ rfl rfl (RD.field rfl Try.underlying117 rfl Try.sizeOf28) rfl ?_
    refine wf_store1 rfl rfl Try.sizeOf28 rfl hb1 (by first | rfl | assumption) (Nat.le_of_ble_eq_true rfl) (fun H14 z14 hx14 hk14 => ⟨trivial, ?_⟩)
    replace hb2 := (hk14 _ (by first | assumption | exact Ne.symm (by assumption) | omega)).trans hb2
    replace hb1 := hx14
    refine wf_nil ?_
    refine at_thn ?_
    refine wc_seq ?_
    refine wc_plain ?_
    refine wf_rd _ rfl rfl (RD.load rfl (LD.all Try.isAgg117 Try.sizeOf117 hb1 rfl)) rfl ?_
    refine wf_storeA rfl rfl Try.sizeOf117 rfl hb2 (by simp [Value.oneCell']) rfl (fun H15 z15 hx15 hk15 => ⟨trivial, ?_⟩)
    replace hb1 := (hk15 _ (by first | assumption | exact Ne.symm (by assumption) | omega)).trans hb1
    replace hb2 := hx15
    refine wf_nil ?_
    refine at_thn ?_
    refine wc_ret ?_
    refine at_ret1 rfl ⟨_, rfl, (LD.all Try.isAgg117 Try.sizeOf117 hb2 rfl)⟩ ?_
    have hd := ha.done (RV.mono f)
    have s2 := hx2.size
    have s3 := hx.size
    have s6 := hx3.size
    have hst : ∀ b, H2.size ≤ b → H15[b]? = H6[b]? := fun b hb => (hk15 _ (by omega)).trans ((hk14 _ (by omega)).trans (hk13 _ (by omega)))
    have hEx : Ext H H15 := ((((hx2.trans hx).trans hx3).wrote z13 hk13 (by omega)).wrote z14 hk14 (by omega)).wrote z15 hk15 (by omega)
    exact ⟨[.int .i64 k, .int .i64 m, .string s, .slice vp ls.length vc, .slice tp' fs.length tc'], rfl, ⟨k, m, s, _, _, ls, fs, rfl, rfl, hll, hfl,
      hd.mono (fun b hb => (hst b hb.1).trans (hx3.old b hb.2)) (fun b hb => fresh_sub (by omega) (by omega) hb) (fun x d _ h => RV.mono f _ _ _ _ _ _ (fun b hb => (hst b hb.1).trans (hx3.old b hb.2)) (fun b hb => fresh_sub (by omega) (by omega) hb) h),
      RT.mono ht' (fun b hb => hst b (by have := hb.1; omega)) (fun b hb => fresh_sub (by omega) (by omega) hb)⟩, hEx⟩
theorem copy_all (f : Nat) : CopyV f ∧ CopyT f := by
  induction f with
  | zero => exact ⟨fun _ _ _ _ h => h.elim, copyT_of 0 (fun _ _ _ _ h => h.elim)⟩
  | succ f ih => have := copyV_of f ih.1 ih.2; exact ⟨this, copyT_of _ this⟩
end Go.Proofs.Ytfomnjippakjpaa
