import Derived.Test.YtfomnjippakjpaaCopied
import Derived.Test.YtfomnjippakjpaaPile
import Derived.Test.YtfomnjippakjpaaRows
namespace Go.Proofs.Ytfomnjippakjpaa
open Go.S

theorem first_cell {cs : List Value} {k off : Nat} {x : Value} {xs : List Value} (h : (cs.drop off).take (k + 1) = x :: xs) : cs[off + 0]? = some x := by
  have h1 : ((cs.drop off).take (k + 1))[0]? = some x := by rw [h]; rfl
  rw [List.getElem?_take, if_pos (by omega), List.getElem?_drop] at h1
  exact h1
theorem rest_cells {cs : List Value} {k off : Nat} {x : Value} {xs : List Value} (h : (cs.drop off).take (k + 1) = x :: xs) (_ : xs.length = k) : (cs.drop (off + 1)).take k = xs := by
  have h1 : ((cs.drop off).take (k + 1)).drop 1 = xs := by rw [h]; rfl
  rw [List.drop_take, List.drop_drop] at h1
  exact h1
def SameV (f : Nat) : Prop := ∀ (H : Heap) (Z Z' : Nat → Prop) (x y : List Value) (d : T), RV H Z f x d → RV H Z' f y d → (∀ b, Z b → b < H.size) → (∀ b, Z' b → b < H.size) → FN Try.prog 97 [.agg x.toArray, .agg y.toArray] H (fun r H' => r = .bool true ∧ Ext H H')
def SameT (f : Nat) : Prop := ∀ (H : Heap) (Z Z' : Nat → Prop) (v v' : Value) (fs : List T), RT f H Z v fs → RT f H Z' v' fs → (∀ b, Z b → b < H.size) → (∀ b, Z' b → b < H.size) → fs.length ≤ lim → FN Try.prog 87 [v, v'] H (fun r H' => r = .bool true ∧ Ext H H')
set_option maxRecDepth 100000 in
theorem same87 (f : Nat) (ih : SameV f) : SameT f := by
  intro H Z Z' v v' fs h h' hz hz' hl
  have hl' : fs.length ≤ 1048576 := hl
  obtain ⟨p, c, rfl⟩ := h.len
  obtain ⟨p2, c2, rfl⟩ := h'.len
  refine fn_intro 42 Try.func87 rfl Try.ntmps87 rfl ?_
  refine wc_seq ?_
  refine wc_plain ?_
  refine wf_rd _ rfl rfl (RD.assign rfl) rfl ?_
  refine wf_nil ?_
  refine at_thn ?_
  refine wc_seq ?_
  refine wc_seq ?_
  refine wc_plain ?_
  refine wf_rd _ rfl rfl (RD.move rfl) rfl ?_
  refine wf_rd _ rfl rfl (RD.lenSl rfl Try.underlying28) rfl ?_
  refine wf_rd _ rfl rfl (RD.move rfl) rfl ?_
  refine wf_rd _ rfl rfl (RD.lenSl rfl Try.underlying28) rfl ?_
  refine wf_rd _ rfl rfl (RD.neF rfl rfl) rfl ?_
  refine wf_nil ?_
  refine at_thn ?_
  refine wc_no rfl ?_
  refine wc_skip ?_
  refine at_thn ?_
  refine wc_seq ?_
  refine wc_seq ?_
  refine wc_plain ?_
  refine wf_rd _ rfl rfl (RD.assign rfl) rfl ?_
  refine wf_nil ?_
  refine at_thn ?_
  refine wc_block ?_
  refine wc_loop (fun i : Nat => [(0, .slice p fs.length c), (1, .slice p2 fs.length c2), (4, .bool false), (5, .int .i64 (i : Int))]) (fun i H1 => i ≤ fs.length ∧ Ext H H1) (fun i => fs.length - i) 0 ⟨rfl, rfl, rfl, rfl, trivial⟩ ⟨Nat.zero_le _, Ext.refl _⟩ ?_
  rintro j H1 ⟨hj, hx⟩
  show WC _ _ _ _ [(0, .slice p fs.length c), (1, .slice p2 fs.length c2), (4, .bool false), (5, .int .i64 (j : Int))] H1
  refine wc_seq ?_
  refine wc_seq ?_
  refine wc_plain ?_
  refine wf_rd _ rfl rfl (RD.move rfl) rfl ?_
  refine wf_rd _ rfl rfl (RD.move rfl) rfl ?_
  refine wf_rd _ rfl rfl (RD.lenSl rfl Try.underlying28) rfl ?_
  refine wf_rd _ rfl rfl (RD.cmp _ rfl rfl rfl) rfl ?_
  refine wf_nil ?_
  refine at_thn ?_
  refine wc_cond rfl (fun hc14 => ?_) (fun hc14 => ?_)
  ·
    have hlt : j < fs.length := by simpa using hc14
    obtain ⟨b, off, c', cs, T, fz, e1, hZ, hb0, hlen, hR⟩ := h.at (List.getElem?_eq_getElem hlt)
    cases e1
    obtain ⟨b', off', c'', cs', T', fz', e2, hZ', hb0', hlen', hR'⟩ := h'.at (List.getElem?_eq_getElem hlt)
    cases e2
    have hb := hx.keep hb0
    have hb' := hx.keep hb0'
    obtain ⟨nm, vs, dv, hxe, hde, hv⟩ := hR
    obtain ⟨nm', vs', dv', hxe', hde', hv'⟩ := hR'
    rw [hde] at hde'
    obtain ⟨rfl, rfl⟩ : nm = nm' ∧ dv = dv' := by simpa using hde'
    have hnm := first_cell hxe
    have hnm' := first_cell hxe'
    have hvs := rest_cells hxe hv.len
    have hb1 : off + j * 6 + 1 + 5 ≤ cs.length := by omega
    have hb1' : off' + j * 6 + 1 + 5 ≤ cs'.length := by omega
    have hvs' := rest_cells hxe' hv'.len
    refine wc_skip ?_
    refine at_thn ?_
    refine wc_seq ?_
    refine wc_block ?_
    refine wc_seq ?_
    refine wc_drawn [(0, 0), (1, 0), (2, 0), (3, 0), (4, 0), (5, 0), (6, 0), (7, 0), (8, 0), (9, 0), (10, 0), (11, 0), (12, 0), (13, 0), (14, 0), (15, 0), (16, 0), (17, 0), (18, 0), (19, 0), (20, 0), (21, 0), (22, 3), (23, 0), (24, 0)] (fun _ => True) (by kernel_rfl) (by kernel_rfl) trivial ?_
    refine wf_rd _ rfl rfl (RD.move rfl) rfl ?_
    refine wf_rd _ rfl rfl (RD.move rfl) rfl ?_
    refine wf_rd _ rfl rfl (RD.indexN rfl rfl Try.underlying28 Try.sizeOf119 (by omega)) rfl ?_
    refine wf_rd _ rfl rfl (RD.field rfl Try.underlying119 rfl Try.sizeOf9) rfl ?_
    refine wf_rd _ rfl rfl (RD.load rfl (LD.one Try.isAgg9 hb hnm)) rfl ?_
    refine wf_rd _ rfl rfl (RD.move rfl) rfl ?_
    refine wf_rd _ rfl rfl (RD.move rfl) rfl ?_
    refine wf_rd _ rfl rfl (RD.indexN rfl rfl Try.underlying28 Try.sizeOf119 (by omega)) rfl ?_
    refine wf_rd _ rfl rfl (RD.field rfl Try.underlying119 rfl Try.sizeOf9) rfl ?_
    refine wf_rd _ rfl rfl (RD.load rfl (LD.one Try.isAgg9 hb' hnm')) rfl ?_
    refine wf_rd _ rfl rfl (RD.sneF rfl rfl) rfl ?_
    refine wf_rd _ rfl rfl (RD.move rfl) rfl ?_
    refine wf_rd _ rfl rfl (RD.move rfl) rfl ?_
    refine wf_rd _ rfl rfl (RD.move rfl) rfl ?_
    refine wf_rd _ rfl rfl (RD.indexN rfl rfl Try.underlying28 Try.sizeOf119 (by omega)) rfl ?_
    refine wf_rd _ rfl rfl (RD.field rfl Try.underlying119 rfl Try.sizeOf117) rfl ?_
    refine wf_rd _ rfl rfl (RD.load rfl (LD.el Try.isAgg117 Try.sizeOf117 hb ⟨hvs, hb1⟩)) rfl ?_
    refine wf_rd _ rfl rfl (RD.move rfl) rfl ?_
    refine wf_rd _ rfl rfl (RD.move rfl) rfl ?_
    refine wf_rd _ rfl rfl (RD.indexN rfl rfl Try.underlying28 Try.sizeOf119 (by omega)) rfl ?_
    refine wf_rd _ rfl rfl (RD.field rfl Try.underlying119 rfl Try.sizeOf117) rfl ?_
    refine wf_rd _ rfl rfl (RD.load rfl (LD.el Try.isAgg117 Try.sizeOf117 hb' ⟨hvs', hb1'⟩)) rfl ?_
    refine wf_call rfl en97 rfl rfl (ih H1 Z Z' vs vs' dv (RV.mono f _ _ _ _ _ _ (fun b hb => hx.old b (hz b hb)) (fun _ h => h) hv) (RV.mono f _ _ _ _ _ _ (fun b hb => hx.old b (hz' b hb)) (fun _ h => h) hv') (fun b hb => Nat.lt_of_lt_of_le (hz b hb) hx.size) (fun b hb => Nat.lt_of_lt_of_le (hz' b hb) hx.size)) ?_
    rintro _ H2 ⟨rfl, hx2⟩
    refine ⟨trivial, ?_⟩
    refine wf_rd _ rfl rfl (RD.not rfl) rfl ?_
    refine wf_rd _ rfl rfl (RD.pickF rfl rfl) rfl ?_
    refine wf_nil ?_
    refine at_thn ?_
    refine wc_no rfl ?_
    refine wc_skip ?_
    refine at_inB ?_
    refine at_thn ?_
    refine wc_plain ?_
    refine wf_rd _ rfl rfl (RD.move rfl) rfl ?_
    refine wf_rd _ rfl rfl (RD.add64 rfl rfl (by omega)) rfl ?_
    refine wf_rd _ rfl rfl (RD.assign rfl) rfl ?_
    refine wf_nil ?_
    refine at_lp (j + 1) (by show fs.length - (j + 1) < fs.length - j; omega) ⟨rfl, rfl, rfl, rfl, trivial⟩ ⟨by omega, hx.trans hx2⟩
  ·
    refine wc_exit ?_
    refine at_thn_exit ?_
    refine at_lp_exit ?_
    refine at_inB_out ?_
    refine at_thn ?_
    refine wc_seq ?_
    refine wc_plain ?_
    refine wf_rd _ rfl rfl (RD.assign rfl) rfl ?_
    refine wf_nil ?_
    refine at_thn ?_
    refine wc_ret ?_
    refine at_ret1 rfl rfl ?_
    exact ⟨rfl, hx⟩
set_option maxRecDepth 100000 in
theorem same97 (f : Nat) : SameV f := by
  induction f with
  | zero => intro H Z Z' x y d h; exact h.elim
  | succ f ih =>
  intro H Z Z' x y d h h' hz hz'
  obtain ⟨k, m, s, l, t, ls, fs, rfl, rfl, hll, hfl, hl, ht⟩ := h
  obtain ⟨k', m', s', l', t', ls', fs', rfl, he, _, _, hl', ht'⟩ := h'
  simp only [T.node.injEq, List.cons.injEq, and_true, true_and] at he
  obtain ⟨⟨rfl, rfl⟩, rfl, rfl, rfl⟩ := he
  have hll' : ls.length ≤ 1048576 := hll
  obtain ⟨lp, lc, rfl⟩ := hl.len
  obtain ⟨tp, tc, rfl⟩ := ht.len
  obtain ⟨lp', lc', rfl⟩ := hl'.len
  obtain ⟨tp', tc', rfl⟩ := ht'.len
  refine fn_intro 58 Try.func97 rfl Try.ntmps97 rfl ?_
  refine wc_seq ?_
  refine wc_plain ?_
  refine wf_box rfl rfl rfl rfl (fun b2 H1 e2 z1 hb2 hk1 => ⟨trivial, ?_⟩)
  refine wf_box rfl rfl rfl rfl (fun b3 H2 e3 z2 hb3 hk2 => ⟨trivial, ?_⟩)
  have n3_hb2 := ne_new hb2 e3
  replace hb2 := (hk2 _ (lt_of hb2)).trans hb2
  have hx2 : Ext H H2 := (Ext.new z1 hk1).trans (Ext.new z2 hk2)
  have hb20 := hb2
  have hb30 := hb3
  refine wf_rd _ rfl rfl (RD.assign rfl) rfl ?_
  refine wf_nil ?_
  refine at_thn ?_
  refine wc_seq ?_
  refine wc_seq ?_
  refine wc_plain ?_
  refine wf_rd _ rfl rfl (RD.field rfl Try.underlying117 rfl Try.sizeOf3) rfl ?_
  refine wf_rd _ rfl rfl (RD.load rfl (LD.one Try.isAgg3 hb2 rfl)) rfl ?_
  refine wf_rd _ rfl rfl (RD.field rfl Try.underlying117 rfl Try.sizeOf3) rfl ?_
  refine wf_rd _ rfl rfl (RD.load rfl (LD.one Try.isAgg3 hb3 rfl)) rfl ?_
  refine wf_rd _ rfl rfl (RD.neF rfl rfl) rfl ?_
  refine wf_rd _ rfl rfl (RD.move rfl) rfl ?_
  refine wf_rd _ rfl rfl (RD.field rfl Try.underlying117 rfl Try.sizeOf2) rfl ?_
  refine wf_rd _ rfl rfl (RD.load rfl (LD.one Try.isAgg2 hb2 rfl)) rfl ?_
  refine wf_rd _ rfl rfl (RD.field rfl Try.underlying117 rfl Try.sizeOf2) rfl ?_
  refine wf_rd _ rfl rfl (RD.load rfl (LD.one Try.isAgg2 hb3 rfl)) rfl ?_
  refine wf_rd _ rfl rfl (RD.neF rfl rfl) rfl ?_
  refine wf_rd _ rfl rfl (RD.pickF rfl rfl) rfl ?_
  refine wf_rd _ rfl rfl (RD.move rfl) rfl ?_
  refine wf_rd _ rfl rfl (RD.field rfl Try.underlying117 rfl Try.sizeOf9) rfl ?_
  refine wf_rd _ rfl rfl (RD.load rfl (LD.one Try.isAgg9 hb2 rfl)) rfl ?_
  refine wf_rd _ rfl rfl (RD.field rfl Try.underlying117 rfl Try.sizeOf9) rfl ?_
  refine wf_rd _ rfl rfl (RD.load rfl (LD.one Try.isAgg9 hb3 rfl)) rfl ?_
  refine wf_rd _ rfl rfl (RD.sneF rfl rfl) rfl ?_
  refine wf_rd _ rfl rfl (RD.pickF rfl rfl) rfl ?_
  refine wf_rd _ rfl rfl (RD.move rfl) rfl ?_
  refine wf_rd _ rfl rfl (RD.field rfl Try.underlying117 rfl Try.sizeOf115) rfl ?_
  refine wf_rd _ rfl rfl (RD.load rfl (LD.one Try.isAgg115 hb2 rfl)) rfl ?_
  refine wf_rd _ rfl rfl (RD.lenSl rfl Try.underlying115) rfl ?_
  refine wf_rd _ rfl rfl (RD.field rfl Try.underlying117 rfl Try.sizeOf115) rfl ?_
  refine wf_rd _ rfl rfl (RD.load rfl (LD.one Try.isAgg115 hb3 rfl)) rfl ?_
  refine wf_rd _ rfl rfl (RD.lenSl rfl Try.underlying115) rfl ?_
  refine wf_rd _ rfl rfl (RD.neF rfl rfl) rfl ?_
  refine wf_rd _ rfl rfl (RD.pickF rfl rfl) rfl ?_
  refine wf_nil ?_
  refine at_thn ?_
  refine wc_no rfl ?_
  refine wc_skip ?_
  refine at_thn ?_
  refine wc_seq ?_
  refine wc_seq ?_
  refine wc_plain ?_
  refine wf_rd _ rfl rfl (RD.assign rfl) rfl ?_
  refine wf_nil ?_
  refine at_thn ?_
  refine wc_block ?_
  refine wc_loop (fun i : Nat => [(2, .pointer (some ⟨b2, 0, none⟩)), (3, .pointer (some ⟨b3, 0, none⟩)), (4, .bool false), (5, .int .i64 (i : Int))]) (fun i H1 => i ≤ ls.length ∧ Ext H2 H1) (fun i => ls.length - i) 0 ⟨rfl, rfl, rfl, rfl, trivial⟩ ⟨Nat.zero_le _, Ext.refl _⟩ ?_
  rintro j H3 ⟨hj, hx⟩
  show WC _ _ _ _ [(2, .pointer (some ⟨b2, 0, none⟩)), (3, .pointer (some ⟨b3, 0, none⟩)), (4, .bool false), (5, .int .i64 (j : Int))] H3
  have hb2 := hx.keep hb20
  have hb3 := hx.keep hb30
  refine wc_seq ?_
  refine wc_seq ?_
  refine wc_plain ?_
  refine wf_rd _ rfl rfl (RD.move rfl) rfl ?_
  refine wf_rd _ rfl rfl (RD.field rfl Try.underlying117 rfl Try.sizeOf115) rfl ?_
  refine wf_rd _ rfl rfl (RD.load rfl (LD.one Try.isAgg115 hb2 rfl)) rfl ?_
  refine wf_rd _ rfl rfl (RD.lenSl rfl Try.underlying115) rfl ?_
  refine wf_rd _ rfl rfl (RD.cmp _ rfl rfl rfl) rfl ?_
  refine wf_nil ?_
  refine at_thn ?_
  refine wc_cond rfl (fun hc38 => ?_) (fun hc38 => ?_)
  ·
    have hlt : j < ls.length := by simpa using hc38
    obtain ⟨b, off, c', cs, T, fz, e1, hZ, hb0, hlen, hR⟩ := hl.at (List.getElem?_eq_getElem hlt)
    cases e1
    obtain ⟨b', off', c'', cs', T', fz', e2, hZ', hb0', hlen', hR'⟩ := hl'.at (List.getElem?_eq_getElem hlt)
    cases e2
    have hb := (hx2.trans hx).keep hb0
    have hb' := (hx2.trans hx).keep hb0'
    refine wc_skip ?_
    refine at_thn ?_
    refine wc_seq ?_
    refine wc_block ?_
    refine wc_seq ?_
    refine wc_drawn [(0, 0), (1, 0), (2, 0), (3, 0), (4, 0), (5, 0), (6, 0), (7, 0), (8, 0), (9, 0), (10, 3), (11, 0)] (fun _ => True) (by kernel_rfl) (by kernel_rfl) trivial ?_
    refine wf_rd _ rfl rfl (RD.field rfl Try.underlying117 rfl Try.sizeOf115) rfl ?_
    refine wf_rd _ rfl rfl (RD.load rfl (LD.one Try.isAgg115 hb2 rfl)) rfl ?_
    refine wf_rd _ rfl rfl (RD.move rfl) rfl ?_
    refine wf_rd _ rfl rfl (RD.indexN rfl rfl Try.underlying115 Try.sizeOf117 (by omega)) rfl ?_
    refine wf_rd _ rfl rfl (RD.load rfl (LD.el Try.isAgg117 Try.sizeOf117 hb ⟨rfl, hlen⟩)) rfl ?_
    refine wf_rd _ rfl rfl (RD.field rfl Try.underlying117 rfl Try.sizeOf115) rfl ?_
    refine wf_rd _ rfl rfl (RD.load rfl (LD.one Try.isAgg115 hb3 rfl)) rfl ?_
    refine wf_rd _ rfl rfl (RD.move rfl) rfl ?_
    refine wf_rd _ rfl rfl (RD.indexN rfl rfl Try.underlying115 Try.sizeOf117 (by omega)) rfl ?_
    refine wf_rd _ rfl rfl (RD.load rfl (LD.el Try.isAgg117 Try.sizeOf117 hb' ⟨rfl, hlen'⟩)) rfl ?_
    refine wf_call rfl en97 rfl rfl (ih H3 Z Z' _ _ _ (RV.mono f _ _ _ _ _ _ (fun b hb => (hx2.trans hx).old b (hz b hb)) (fun _ h => h) hR) (RV.mono f _ _ _ _ _ _ (fun b hb => (hx2.trans hx).old b (hz' b hb)) (fun _ h => h) hR') (fun b hb => Nat.lt_of_lt_of_le (hz b hb) (hx2.trans hx).size) (fun b hb => Nat.lt_of_lt_of_le (hz' b hb) (hx2.trans hx).size)) ?_
    rintro _ H5 ⟨rfl, hx5⟩
    refine ⟨trivial, ?_⟩
    refine wf_rd _ rfl rfl (RD.not rfl) rfl ?_
    refine wf_nil ?_
    refine at_thn ?_
    refine wc_no rfl ?_
    refine wc_skip ?_
    refine at_inB ?_
    refine at_thn ?_
    refine wc_plain ?_
    refine wf_rd _ rfl rfl (RD.move rfl) rfl ?_
    refine wf_rd _ rfl rfl (RD.add64 rfl rfl (by omega)) rfl ?_
    refine wf_rd _ rfl rfl (RD.assign rfl) rfl ?_
    refine wf_nil ?_
    refine at_lp (j + 1) (by show ls.length - (j + 1) < ls.length - j; omega) ⟨rfl, rfl, rfl, rfl, trivial⟩ ⟨by omega, hx.trans hx5⟩
  ·
    refine wc_exit ?_
    refine at_thn_exit ?_
    refine at_lp_exit ?_
    refine at_inB_out ?_
    refine at_thn ?_
    refine wc_seq ?_
    refine wc_plain ?_
    refine wf_rd _ rfl rfl (RD.field rfl Try.underlying117 rfl Try.sizeOf28) rfl ?_
    refine wf_rd _ rfl rfl (RD.load rfl (LD.one Try.isAgg28 hb2 rfl)) rfl ?_
    refine wf_rd _ rfl rfl (RD.field rfl Try.underlying117 rfl Try.sizeOf28) rfl ?_
    refine wf_rd _ rfl rfl (RD.load rfl (LD.one Try.isAgg28 hb3 rfl)) rfl ?_
    refine wf_call rfl en87 rfl rfl (same87 f ih H3 Z Z' _ _ fs (RT.mono ht (fun b hb => (hx2.trans hx).old b (hz b hb)) (fun _ h => h)) (RT.mono ht' (fun b hb => (hx2.trans hx).old b (hz' b hb)) (fun _ h => h)) (fun b hb => Nat.lt_of_lt_of_le (hz b hb) (hx2.trans hx).size) (fun b hb => Nat.lt_of_lt_of_le (hz' b hb) (hx2.trans hx).size) hfl) ?_
    rintro _ H6 ⟨rfl, hx6⟩
    refine ⟨trivial, ?_⟩
    refine wf_rd _ rfl rfl (RD.assign rfl) rfl ?_
    refine wf_nil ?_
    refine at_thn ?_
    refine wc_ret ?_
    refine at_ret1 rfl rfl ?_
    exact ⟨rfl, (hx2.trans hx).trans hx6⟩
end Go.Proofs.Ytfomnjippakjpaa
