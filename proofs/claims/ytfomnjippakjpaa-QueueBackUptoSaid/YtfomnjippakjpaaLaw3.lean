/-
  QueueBack, walked.
-/
import Derived.Test.YtfomnjippakjpaaSpeaks
import Derived.Test.YtfomnjippakjpaaBack
import Derived.Test.YtfomnjippakjpaaSame2
namespace Go.Proofs.Ytfomnjippakjpaa
open Go.S
theorem red_step {ds : List CD} {j : Nat} {d : CD} (h : ds[j]? = some d) : ((ds.take j).map rd ++ ds.drop j).set j (rd d) = (ds.take (j + 1)).map rd ++ ds.drop (j + 1) := by
  have hlt := (List.getElem?_eq_some_iff.1 h).1
  have he := (List.getElem?_eq_some_iff.1 h).2
  rw [List.set_append_right _ _ (by simp; omega), List.drop_eq_getElem_cons hlt, List.take_succ_eq_append_getElem hlt]
  simp [show min j ds.length = j by omega, he]
theorem back_L {ks : List Int} {j : Nat} {k : Int} {L L' : List It} {a : It} (hk : ks[j]? = some k) (h : (L.map It.s).Perm (ks.take j)) (hp : L'.Perm (a :: L)) (ha : a.s = k := by rfl) : (L'.map It.s).Perm (ks.take (j + 1)) := by
  have hlt := (List.getElem?_eq_some_iff.1 hk).1
  have he := (List.getElem?_eq_some_iff.1 hk).2
  rw [List.take_succ_eq_append_getElem hlt, he]
  refine (hp.map It.s).trans ?_
  rw [List.map_cons, ha]
  exact (h.cons k).trans (List.perm_append_singleton k _).symm
theorem back_ou {ks ou : List Int} {j : Nat} {k : Int} (hk : ks.drop j = k :: ks.drop (j + 1)) (_hn : ks.Nodup) (h : ou.Perm (ks.drop j)) : (ou.erase k).Perm (ks.drop (j + 1)) := by
  have := h.erase k
  rw [hk, List.erase_cons_head] at this
  exact this
theorem back_cp {ks : List Int} {j : Nat} {k : Int} {cp cp2 : Int → Option CD} {d : CD} (hk : ks[j]? = some k) (hn : ks.Nodup) (h : ∀ x, cp2 x = if x ∈ ks.take j then (cp x).map rd else cp x) (hd : cp2 k = some d) :
    ∀ x, putF (putF cp2 k none) k (some { d with red := true }) x = if x ∈ ks.take (j + 1) then (cp x).map rd else cp x := by
  intro x
  have hlt := (List.getElem?_eq_some_iff.1 hk).1
  have he := (List.getElem?_eq_some_iff.1 hk).2
  rw [List.take_succ_eq_append_getElem hlt, he]
  have hnk : k ∉ ks.take j := by
    intro hm
    obtain ⟨i, hi⟩ := List.getElem?_of_mem hm
    have hij := (List.getElem?_eq_some_iff.1 hi).1
    rw [List.getElem?_take, if_pos (by simp at hij; omega)] at hi
    have h1 := (List.getElem?_eq_some_iff.1 hi).1
    have := (List.nodup_iff_pairwise_ne.1 hn)
    have := List.pairwise_iff_getElem.1 this i j h1 hlt (by simp at hij; omega)
    rw [he, (List.getElem?_eq_some_iff.1 hi).2] at this
    exact this rfl
  unfold putF
  by_cases e : x = k
  · subst e
    rw [h, if_neg hnk] at hd
    simp [hd, rd]
  · rw [if_neg e, if_neg e, h]
    simp [e]
set_option maxRecDepth 100000 in
theorem law3 (f : Nat) (H : Heap) (Z : Nat → Prop) (cf : CF) (v : Value) (ds : List CD) (hv : RSl H Z 25 (RC f H Z) v ds) (hz : ∀ b, Z b → b < H.size) (hl : ds.length ≤ 1048576) :
    FN Try.prog 3 [.agg cf.cells.toArray, v] H (fun r H' => r = .bool true ∧ Ext H H') := by
  obtain ⟨p, c, rfl⟩ := hv.len
  refine fn_intro 88 Try.func3 rfl Try.ntmps3 rfl ?_
  refine wc_seq ?_
  refine wc_plain ?_
  refine wf_box rfl rfl rfl rfl (fun b2 H1 e2 z1 hb2 hk1 => ⟨trivial, ?_⟩)
  refine wf_rd _ rfl rfl (RD.assign rfl) rfl ?_
  refine wf_nil ?_
  refine at_thn ?_
  refine wc_seq ?_
  refine wc_seq ?_
  refine wc_plain ?_
  refine wf_call rfl en5 rfl rfl (speaks5 f H1) ?_
  rintro _ H2 ⟨rfl, hx2⟩
  refine ⟨trivial, ?_⟩
  replace hb2 := hx2.keep hb2
  have hx02 : Ext H H2 := (Ext.new z1 hk1).trans hx2
  refine wf_rd _ rfl rfl (RD.not rfl) rfl ?_
  refine wf_nil ?_
  refine at_thn ?_
  refine wc_no rfl ?_
  refine wc_skip ?_
  refine at_thn ?_
  refine wc_seq ?_
  refine wc_plain ?_
  refine wf_rd _ rfl rfl (RD.load rfl (LD.all Try.isAgg23 Try.sizeOf23 hb2 rfl)) rfl ?_
  refine wf_call rfl en6 rfl rfl (u6 f (fun b o => H[b]? = some o) H2 cf (fun b o hb => hx02.keep hb)) ?_
  rintro _ H3 ⟨q, rfl, h, z3⟩
  refine ⟨trivial, ?_⟩
  replace z3 := Nat.le_trans hx02.size z3
  refine wf_rd _ rfl rfl (RD.assign rfl) rfl ?_
  refine wf_nil ?_
  refine at_thn ?_
  refine wc_seq ?_
  refine wc_seq ?_
  refine wc_plain ?_
  refine wf_rd _ rfl rfl (RD.move rfl) rfl ?_
  refine wf_rd _ rfl rfl (RD.peq rfl rfl Try.underlying26) rfl ?_
  refine wf_nil ?_
  refine at_thn ?_
  refine wc_no rfl ?_
  refine wc_skip ?_
  refine at_thn ?_
  refine wc_seq ?_
  refine wc_seq ?_
  refine wc_plain ?_
  refine wf_rd _ rfl rfl (RD.move rfl) rfl ?_
  refine wf_rd _ rfl rfl (RD.lenSl rfl Try.underlying24) rfl ?_
  refine wf_rd _ rfl rfl (RD.move rfl) rfl ?_
  refine wf_nil ?_
  refine at_thn ?_
  refine wc_block ?_
  refine wc_loop (fun i : Nat => [(1, .slice p ds.length c), (4, .bool false), (5, .pointer (some ⟨q, 0, none⟩)), (23, .slice p ds.length c), (24, .int .i64 ds.length), (25, .int .i64 (i : Int))]) (fun i H4 => i ≤ ds.length ∧ H.size ≤ H4.size ∧ ∃ L cp, Qu f (fun b o => H[b]? = some o) H4 q ⟨cf, L, cp, [], i, []⟩ ∧ L.length = i) (fun i => ds.length - i) 0 ⟨rfl, rfl, rfl, rfl, rfl, rfl, trivial⟩ ⟨Nat.zero_le _, z3, _, _, h, rfl⟩ ?_
  rintro j H4 ⟨hj, z4, L, cp, h, hLj⟩
  show WC _ _ _ _ [(1, .slice p ds.length c), (4, .bool false), (5, .pointer (some ⟨q, 0, none⟩)), (23, .slice p ds.length c), (24, .int .i64 ds.length), (25, .int .i64 (j : Int))] H4
  refine wc_seq ?_
  refine wc_plain ?_
  refine wf_rd _ rfl rfl (RD.cmp _ rfl rfl rfl) rfl ?_
  refine wf_nil ?_
  refine at_thn ?_
  refine wc_seq ?_
  refine wc_cond rfl (fun hc26 => ?_) (fun hc26 => ?_)
  ·
    have hlt : j < ds.length := by simpa using hc26
    obtain ⟨d, hdj⟩ : ∃ d, ds[j]? = some d := ⟨_, List.getElem?_eq_getElem hlt⟩
    obtain ⟨b, off, c9, cs, T, fz, e9, hZb, hcs, hoff, hrc⟩ := hv.at hdj
    cases e9
    have hcs4 := h.mem hcs
    refine wc_skip ?_
    refine at_thn ?_
    refine wc_seq ?_
    refine wc_block ?_
    refine wc_seq ?_
    refine wc_plain ?_
    refine wf_rd _ rfl rfl (RD.indexN rfl rfl Try.underlying24 Try.sizeOf35 hlt) rfl ?_
    refine wf_rd _ rfl rfl (RD.load rfl (LD.agg Try.isAgg35 Try.sizeOf35 hcs4 hoff)) rfl ?_
    refine wf_alloc Try.zeroValue35 rfl rfl rfl (fun b7 H5 e5 z5 hb7 hk5 => ⟨trivial, ?_⟩)
    refine wf_storeA rfl rfl (fun w => by rw [hrc.len]; exact Try.sizeOf35 w) rfl hb7 hrc.one (by rw [hrc.len]; rfl) (fun H6 z6 hb7' hk6 => ⟨trivial, ?_⟩)
    replace h := h.ext ((Ext.new z5 hk5).wrote z6 hk6 (by omega))
    replace hb7 := hb7'
    refine wf_nil ?_
    refine at_thn ?_
    refine wc_plain ?_
    refine wf_rd _ rfl rfl (RD.move rfl) rfl ?_
    refine wf_rd _ rfl rfl (RD.load rfl (LD.all Try.isAgg35 Try.sizeOf35 hb7 hrc.len)) rfl ?_
    refine wf_call rfl en7 rfl rfl (u7 h (RC.mono f _ _ _ _ _ _ (fun b hb => h.same (hz b hb) (fun o ho => ho)) (fun _ h => h) hrc) (fun b hb => by have := hz b hb; omega) (by dsimp only; omega) (by dsimp only; omega)) ?_
    rintro _ H7 ⟨rfl, h', z7⟩
    refine ⟨trivial, ?_⟩
    replace h := h'
    clear h'
    refine wf_nil ?_
    refine at_inB ?_
    refine at_thn ?_
    refine wc_plain ?_
    refine wf_rd _ rfl rfl (RD.add64 rfl rfl (by omega)) rfl ?_
    refine wf_rd _ rfl rfl (RD.move rfl) rfl ?_
    refine wf_nil ?_
    have h' : Qu f (fun b o => H[b]? = some o) H7 q ⟨cf, _, _, [], ((j + 1 : Nat) : Int), []⟩ := h
    refine at_lp (j + 1) (by show ds.length - (j + 1) < ds.length - j; omega) ⟨rfl, rfl, rfl, rfl, rfl, rfl, trivial⟩ ⟨by omega, by omega, _, _, h', ?_⟩
    rw [(ins_perm _ _).length_eq, List.length_cons, hLj]
  ·
    have hjn : j = ds.length := by
      have : ¬ j < ds.length := by simpa using hc26
      omega
    subst hjn
    have hA1 := h.facts
    refine wc_exit ?_
    refine at_thn_exit ?_
    refine at_lp_exit ?_
    refine at_inB_out ?_
    refine at_thn ?_
    refine wc_seq ?_
    refine wc_plain ?_
    refine wf_rd _ rfl rfl (RD.move rfl) rfl ?_
    refine wf_call rfl en8 rfl rfl (u8 h (by dsimp only; omega)) ?_
    rintro v8 H5 ⟨ds1, hds1, ⟨es1, ha1⟩, hx⟩
    refine ⟨trivial, ?_⟩
    replace h := h.add hx
    have z5 := Nat.le_trans z4 hx.size
    obtain ⟨p8, c8, e8⟩ := ha1.own.val
    subst e8
    have hb8lt : ∀ g, (Value.slice p8 ds1.length c8).ownBlock = some g → g < H5.size := fun g hg => ha1.own.lt hg
    have hl1 : ds1.length = ds.length := by have := congrArg List.length hds1; simpa [hLj] using this
    refine wf_rd _ rfl rfl (RD.assign rfl) rfl ?_
    refine wf_nil ?_
    refine at_thn ?_
    refine wc_seq ?_
    refine wc_seq ?_
    refine wc_plain ?_
    refine wf_rd _ rfl rfl (RD.move rfl) rfl ?_
    refine wf_rd _ rfl rfl (RD.lenSl rfl Try.underlying24) rfl ?_
    refine wf_rd _ rfl rfl (RD.move rfl) rfl ?_
    refine wf_nil ?_
    refine at_thn ?_
    refine wc_block ?_
    refine wc_loop (fun i : Nat => [(1, .slice p ds.length c), (4, .bool false), (5, .pointer (some ⟨q, 0, none⟩)), (8, .slice p8 ds1.length c8), (36, .int .i64 ds.length), (37, .int .i64 (i : Int))]) (fun i H6 => i ≤ ds.length ∧ H5.size ≤ H6.size ∧ Qu f (fun b o => H[b]? = some o ∨ (fresh H4 H5 b ∧ H5[b]? = some o)) H6 q ⟨cf, L.drop i, cp, (L.take i).map It.s, ds.length, []⟩) (fun i => ds.length - i) 0 ⟨rfl, rfl, rfl, rfl, rfl, rfl, trivial⟩ ⟨Nat.zero_le _, Nat.le_refl _, h⟩ ?_
    rintro j H6 ⟨hj, z6, h⟩
    show WC _ _ _ _ [(1, .slice p ds.length c), (4, .bool false), (5, .pointer (some ⟨q, 0, none⟩)), (8, .slice p8 ds1.length c8), (36, .int .i64 ds.length), (37, .int .i64 (j : Int))] H6
    refine wc_seq ?_
    refine wc_plain ?_
    refine wf_rd _ rfl rfl (RD.cmp _ rfl rfl rfl) rfl ?_
    refine wf_nil ?_
    refine at_thn ?_
    refine wc_seq ?_
    refine wc_cond rfl (fun hc38 => ?_) (fun hc38 => ?_)
    ·
      have hlt : j < ds.length := by simpa using hc38
      have hdr : L.drop j = L[j] :: L.drop (j + 1) := List.drop_eq_getElem_cons (by omega)
      refine wc_skip ?_
      refine at_thn ?_
      refine wc_seq ?_
      refine wc_block ?_
      refine wc_seq ?_
      refine wc_plain ?_
      refine wf_rd _ rfl rfl (RD.move rfl) rfl ?_
      refine wf_call rfl en9 rfl rfl (u9 h hdr (by simp; omega)) ?_
      rintro _ H7 ⟨cs7, d, rfl, hd7, _, hrc, h', z7, _⟩
      refine ⟨trivial, ?_⟩
      replace h := h'
      clear h'
      have hone := hrc.one
      have hlen7 := hrc.len
      refine wf_rd _ rfl rfl (RD.move rfl) rfl ?_
      refine wf_rd _ rfl rfl (RD.extract rfl rfl) rfl ?_
      refine wf_rd _ rfl rfl (RD.extract rfl rfl) rfl ?_
      refine wf_alloc Try.zeroValue35 rfl rfl rfl (fun b9 H8 e8 z8 hb9 hk8 => ⟨trivial, ?_⟩)
      refine wf_storeA rfl rfl (fun w => by rw [hlen7]; exact Try.sizeOf35 w) rfl hb9 hone (by rw [hlen7]; rfl) (fun H9 z9 hb9' hk9 => ⟨trivial, ?_⟩)
      replace h := h.ext ((Ext.new z8 hk8).wrote z9 hk9 (by omega))
      replace h : Qu f (fun b o => H[b]? = some o ∨ (fresh H4 H5 b ∧ H5[b]? = some o)) H9 q ⟨cf, L.drop (j + 1), cp, (L.take (j + 1)).map It.s, ds.length, []⟩ := by
        rw [List.take_succ_eq_append_getElem (by omega : j < L.length), List.map_append]; exact h
      refine wf_rd _ rfl rfl (RD.assign rfl) rfl ?_
      refine wf_nil ?_
      refine at_thn ?_
      refine wc_seq ?_
      refine wc_plain ?_
      refine wf_rd _ rfl rfl (RD.move rfl) rfl ?_
      refine wf_rd _ rfl rfl (RD.not rfl) rfl ?_
      refine wf_nil ?_
      refine at_thn ?_
      refine wc_no rfl ?_
      refine wc_skip ?_
      refine at_inB ?_
      refine at_thn ?_
      refine wc_plain ?_
      refine wf_rd _ rfl rfl (RD.add64 rfl rfl (by omega)) rfl ?_
      refine wf_rd _ rfl rfl (RD.move rfl) rfl ?_
      refine wf_nil ?_
      refine at_lp (j + 1) (by show ds.length - (j + 1) < ds.length - j; omega) ⟨rfl, rfl, rfl, rfl, rfl, rfl, trivial⟩ ⟨by omega, by omega, h⟩
    ·
      have hjn : j = ds.length := by
        have : ¬ j < ds.length := by simpa using hc38
        omega
      subst hjn
      rw [← hLj, List.drop_length, List.take_length] at h
      rw [hLj] at h
      refine wc_exit ?_
      refine at_thn_exit ?_
      refine at_lp_exit ?_
      refine at_inB_out ?_
      refine at_thn ?_
      refine wc_seq ?_
      refine wc_seq ?_
      refine wc_plain ?_
      refine wf_rd _ rfl rfl (RD.move rfl) rfl ?_
      refine wf_call rfl en10 rfl rfl (u10 h) ?_
      rintro _ _ ⟨rfl, rfl⟩
      refine ⟨trivial, ?_⟩
      refine wf_rd _ rfl rfl (RD.move rfl) rfl ?_
      refine wf_rd _ rfl rfl (RD.extract rfl rfl) rfl ?_
      refine wf_rd _ rfl rfl (RD.extract rfl rfl) rfl ?_
      refine wf_rd _ rfl rfl (RD.assign rfl) rfl ?_
      refine wf_rd _ rfl rfl (RD.assign rfl) rfl ?_
      refine wf_nil ?_
      refine at_thn ?_
      refine wc_seq ?_
      refine wc_plain ?_
      refine wf_rd _ rfl rfl (RD.move rfl) rfl ?_
      refine wf_rd _ rfl rfl (RD.cmp false rfl rfl rfl) rfl ?_
      refine wf_rd _ rfl rfl (RD.move rfl) rfl ?_
      refine wf_rd _ rfl rfl (RD.move rfl) rfl ?_
      refine wf_rd _ rfl rfl (RD.move rfl) rfl ?_
      refine wf_rd _ rfl rfl (RD.lenSl rfl Try.underlying24) rfl ?_
      refine wf_rd _ rfl rfl (RD.cmp false rfl rfl (congrArg some (bne_eq_false_iff_eq.2 (by simp [hLj])))) rfl ?_
      refine wf_rd _ rfl rfl (RD.pickF rfl rfl) rfl ?_
      refine wf_nil ?_
      refine at_thn ?_
      refine wc_no rfl ?_
      refine wc_skip ?_
      refine at_thn ?_
      refine wc_seq ?_
      refine wc_seq ?_
      refine wc_plain ?_
      refine wf_rd _ rfl rfl (RD.move rfl) rfl ?_
      refine wf_call rfl en11 rfl rfl (u11 h (by simp; omega) (by dsimp only; omega)) ?_
      rintro v61 H7 ⟨ks, ds2, hperm, _, hds2, ⟨es2, ha2⟩, hx⟩
      refine ⟨trivial, ?_⟩
      have hA2 := h.facts
      replace h := h.add hx
      have z7 := Nat.le_trans z6 hx.size
      obtain ⟨p61, c61, e61⟩ := ha2.own.val
      subst e61
      have hl2 : ds2.length = ks.length := by have := congrArg List.length hds2; simpa using this
      have hkl : ds2.length = ks.length := hl2
      have hkL : ks.length = ds.length := by rw [hperm.length_eq]; simp [hLj]
      have hkn : ks.Nodup := hperm.nodup_iff.2 hA1.nod
      have hseq : ∀ (j : Nat) (d : CD) (k : Int), ds2[j]? = some d → ks[j]? = some k → d.seq = k ∧ cp k = some d := by
        intro j d k h1 h2
        have h3 : (ds2.map some)[j]? = some (some d) := by rw [List.getElem?_map, h1]; rfl
        rw [hds2, List.getElem?_map, h2] at h3
        have h4 : cp k = some d := Option.some.inj h3
        obtain ⟨d', h5, h6⟩ := hA2.covo k (hperm.mem_iff.1 (List.mem_of_getElem? h2))
        have h5 : cp k = some d' := h5
        rw [h4] at h5
        cases h5
        exact ⟨h6, h4⟩
      refine wf_rd _ rfl rfl (RD.lenSl rfl Try.underlying24) rfl ?_
      refine wf_rd _ rfl rfl (RD.move rfl) rfl ?_
      refine wf_nil ?_
      refine at_thn ?_
      refine wc_block ?_
      refine wc_loop (fun i : Nat => [(4, .bool false), (5, .pointer (some ⟨q, 0, none⟩)), (8, .slice p8 ds1.length c8), (61, .slice p61 ds2.length c61), (62, .int .i64 ds2.length), (63, .int .i64 (i : Int))]) (fun i H8 => i ≤ ds2.length ∧ H7.size ≤ H8.size ∧ ∃ L2 cp2 ou2, Qu f (fun b o => (H[b]? = some o ∨ (fresh H4 H5 b ∧ H5[b]? = some o)) ∨ (fresh H6 H7 b ∧ H7[b]? = some o)) H8 q ⟨cf, L2, cp2, ou2, ds.length, []⟩ ∧ L2.length = i ∧ (L2.map It.s).Perm (ks.take i) ∧ ou2.Perm (ks.drop i) ∧ (∀ k, cp2 k = if k ∈ ks.take i then (cp k).map rd else cp k)) (fun i => ds2.length - i) 0 ⟨rfl, rfl, rfl, rfl, rfl, rfl, trivial⟩ ⟨Nat.zero_le _, Nat.le_refl _, _, _, _, h, rfl, .nil, hperm.symm, fun k => by simp⟩ ?_
      rintro j H8 ⟨hj, z8, L2, cp2, ou2, h, hL2, hpL, hpo, hcp2⟩
      show WC _ _ _ _ [(4, .bool false), (5, .pointer (some ⟨q, 0, none⟩)), (8, .slice p8 ds1.length c8), (61, .slice p61 ds2.length c61), (62, .int .i64 ds2.length), (63, .int .i64 (j : Int))] H8
      refine wc_seq ?_
      refine wc_plain ?_
      refine wf_rd _ rfl rfl (RD.cmp _ rfl rfl rfl) rfl ?_
      refine wf_nil ?_
      refine at_thn ?_
      refine wc_seq ?_
      refine wc_cond rfl (fun hc64 => ?_) (fun hc64 => ?_)
      ·
        have hlt : j < ds2.length := by simpa using hc64
        obtain ⟨d, hdj⟩ : ∃ d, ds2[j]? = some d := ⟨_, List.getElem?_eq_getElem hlt⟩
        obtain ⟨k, hkj⟩ : ∃ k, ks[j]? = some k := ⟨_, List.getElem?_eq_getElem (by omega)⟩
        have hkd : ks.drop j = k :: ks.drop (j + 1) := by rw [List.drop_eq_getElem_cons (by omega)]; congr 1; exact (List.getElem?_eq_some_iff.1 hkj).2
        have hko : k ∈ ou2 := hpo.mem_iff.2 (by rw [hkd]; exact List.mem_cons_self ..)
        have hds := hseq j d k hdj hkj
        obtain ⟨g, c9, cs, x, e9, hgb, hcs, hlen, hxj, hxl, hxe, hrc⟩ := ha2.at (by decide) hdj
        cases e9
        have hD8 : (fun b o => (H[b]? = some o ∨ (fresh H4 H5 b ∧ H5[b]? = some o)) ∨ (fresh H6 H7 b ∧ H7[b]? = some o)) g _ := .inr ⟨⟨ha2.young g hgb, ha2.own.lt hgb⟩, hcs⟩
        have hcs8 := h.mem hD8
        have hone := hrc.one
        refine wc_skip ?_
        refine at_thn ?_
        refine wc_seq ?_
        refine wc_block ?_
        refine wc_seq ?_
        refine wc_plain ?_
        refine wf_rd _ rfl rfl (RD.indexN rfl rfl Try.underlying24 Try.sizeOf35 hlt) rfl ?_
        refine wf_rd _ rfl rfl (RD.load rfl (LD.el Try.isAgg35 Try.sizeOf35 hcs8 ⟨hxe, by omega⟩)) rfl ?_
        refine wf_alloc Try.zeroValue35 rfl rfl rfl (fun b14 H9 e9 z9 hb14 hk9 => ⟨trivial, ?_⟩)
        refine wf_storeA rfl rfl (fun w => by rw [hxl]; exact Try.sizeOf35 w) rfl hb14 hone (by rw [hxl]; rfl) (fun H10 z10 hb14' hk10 => ⟨trivial, ?_⟩)
        replace h := h.ext ((Ext.new z9 hk9).wrote z10 hk10 (by omega))
        replace hb14 := hb14'
        obtain ⟨x1, x2, rfl, _⟩ := hrc
        refine wf_nil ?_
        refine at_thn ?_
        refine wc_seq ?_
        refine wc_plain ?_
        refine wf_rd _ rfl rfl (RD.move rfl) rfl ?_
        refine wf_rd _ rfl rfl (RD.field rfl Try.underlying35 rfl Try.sizeOf3) rfl ?_
        refine wf_rd _ rfl rfl (RD.load rfl (LD.one (v := .int .i64 k) Try.isAgg3 hb14 (by rw [← hds.1]; rfl))) rfl ?_
        refine wf_call rfl en12 rfl rfl (u12 h hko (by dsimp only; omega)) ?_
        rintro _ H11 ⟨rfl, d12, hd12, h', z11⟩
        refine ⟨trivial, ?_⟩
        replace h := h'
        clear h'
        refine wf_rd _ rfl rfl (RD.not rfl) rfl ?_
        refine wf_nil ?_
        refine at_thn ?_
        refine wc_no rfl ?_
        refine wc_skip ?_
        refine at_inB ?_
        refine at_thn ?_
        refine wc_plain ?_
        refine wf_rd _ rfl rfl (RD.add64 rfl rfl (by omega)) rfl ?_
        refine wf_rd _ rfl rfl (RD.move rfl) rfl ?_
        refine wf_nil ?_
        refine at_lp (j + 1) (by show ds2.length - (j + 1) < ds2.length - j; omega) ⟨rfl, rfl, rfl, rfl, rfl, rfl, trivial⟩ ⟨by omega, by omega, _, _, _, h, ?_, ?_, ?_, ?_⟩
        · rw [(ins_perm _ _).length_eq, List.length_cons, hL2]
        · exact back_L hkj hpL (ins_perm _ _)
        · exact back_ou hkd hkn hpo
        · exact back_cp hkj hkn hcp2 hd12
      ·
        have hjn : j = ds2.length := by
          have : ¬ j < ds2.length := by simpa using hc64
          omega
        subst hjn
        rw [hkl, List.take_length] at hpL hcp2
        rw [hkl, List.drop_length] at hpo
        have hA3 := h.facts
        refine wc_exit ?_
        refine at_thn_exit ?_
        refine at_lp_exit ?_
        refine at_inB_out ?_
        refine at_thn ?_
        refine wc_seq ?_
        refine wc_plain ?_
        refine wf_rd _ rfl rfl (RD.move rfl) rfl ?_
        refine wf_call rfl en8 rfl rfl (u8 h (by dsimp only; omega)) ?_
        rintro v15 H9 ⟨ds3, hds3, ⟨es3, ha3⟩, hx⟩
        refine ⟨trivial, ?_⟩
        have e3 : ds3 = ds1.map rd := ready_back hA1 hA3 rfl (hpL.trans hperm) (fun a ha => by
          show cp2 a.s = (cp a.s).map rd
          rw [hcp2, if_pos (hperm.mem_iff.2 (List.mem_map_of_mem ha))]) hds1 hds3
        subst e3
        have z9 := hx.size
        have hmem : ∀ b, b < H.size → H9[b]? = H[b]? := fun b hb => (h.ext hx).same hb (fun o ho => .inl (.inl ho))
        replace ha1 : Accum H4 H9 35 25 (RC f) (.slice p8 ds1.length c8) ds1 es1 := ha1.keep (RC.mono f) (by omega) (fun b hb => (h.ext hx).same hb.2 (fun o ho => .inl (.inr ⟨hb, ho⟩)))
        replace ha3 := ha3.done (RC.mono f)
        clear h
        refine wf_rd _ rfl rfl (RD.assign rfl) rfl ?_
        refine wf_nil ?_
        refine at_thn ?_
        refine wc_seq ?_
        refine wc_seq ?_
        refine wc_plain ?_
        refine wf_rd _ rfl rfl (RD.move rfl) rfl ?_
        refine wf_rd _ rfl rfl (RD.lenSl rfl Try.underlying24) rfl ?_
        refine wf_rd _ rfl rfl (RD.move rfl) rfl ?_
        refine wf_nil ?_
        refine at_thn ?_
        refine wc_block ?_
        refine wc_loop (fun i : Nat => [(8, .slice p8 ds1.length c8), (15, v15), (76, .int .i64 ds1.length), (77, .int .i64 (i : Int))]) (fun i H10 => i ≤ ds1.length ∧ (∃ es, Accum H4 H10 35 25 (RC f) (.slice p8 ds1.length c8) ((ds1.take i).map rd ++ ds1.drop i) es) ∧ Frm (fun b => (Value.slice p8 ds1.length c8).ownBlock = some b) H9 H10) (fun i => ds1.length - i) 0 ⟨rfl, rfl, rfl, rfl, trivial⟩ ⟨Nat.zero_le _, ⟨_, by simpa using ha1⟩, Frm.refl _ _⟩ ?_
        rintro j H10 ⟨hj, ⟨es, ha⟩, hf⟩
        show WC _ _ _ _ [(8, .slice p8 ds1.length c8), (15, v15), (76, .int .i64 ds1.length), (77, .int .i64 (j : Int))] H10
        refine wc_seq ?_
        refine wc_plain ?_
        refine wf_rd _ rfl rfl (RD.cmp _ rfl rfl rfl) rfl ?_
        refine wf_nil ?_
        refine at_thn ?_
        refine wc_seq ?_
        refine wc_cond rfl (fun hc78 => ?_) (fun hc78 => ?_)
        ·
          have hlt : j < ds1.length := by simpa using hc78
          obtain ⟨d, hdj⟩ : ∃ d, ds1[j]? = some d := ⟨_, List.getElem?_eq_getElem hlt⟩
          have hml : ((ds1.take j).map rd ++ ds1.drop j).length = ds1.length := by simp; omega
          have hdm : ((ds1.take j).map rd ++ ds1.drop j)[j]? = some d := by rw [List.getElem?_append_right (by simp; omega)]; simp [show min j ds1.length = j by omega, hdj]
          obtain ⟨g, c9, cs, x, e9, hgb, hcs, hlen, hxj, hxl, hxe, hrc⟩ := ha.at (by decide) hdm
          rw [hml] at e9 hlen
          cases e9
          obtain ⟨x1, x2, rfl, hr1, hr2, hr3, hr4⟩ := hrc
          refine wc_skip ?_
          refine at_thn ?_
          refine wc_seq ?_
          refine wc_block ?_
          refine wc_seq ?_
          refine wc_plain ?_
          refine wf_rd _ rfl rfl (RD.move rfl) rfl ?_
          refine wf_rd _ rfl rfl (RD.assign rfl) rfl ?_
          refine wf_nil ?_
          refine at_thn ?_
          refine wc_plain ?_
          refine wf_rd _ rfl rfl (RD.move rfl) rfl ?_
          refine wf_rd _ rfl rfl (RD.move rfl) rfl ?_
          refine wf_rd _ rfl rfl (RD.indexN rfl rfl Try.underlying24 Try.sizeOf35 hlt) rfl ?_
          refine wf_rd _ rfl rfl (RD.field rfl Try.underlying35 rfl Try.sizeOf4) rfl ?_
          refine wf_store1 rfl rfl Try.sizeOf4 rfl hcs rfl (by have : (j + 1) * 25 ≤ ds1.length * 25 := Nat.mul_le_mul_right _ hlt
                                                               show 0 + j * 25 + 24 < cs.length
                                                               omega) (fun H11 z11 hcs11 hk11 => ⟨trivial, ?_⟩)
          have ha' := ha.set (d' := rd d) (u := .bool true) (o := 24) (RC.mono f) hgb hcs hxj (by decide) z11 (by have := hcs11; rw [Nat.zero_add] at this; exact this) hk11 ⟨x1, x2, rfl, hr1, hr2, hr3, hr4⟩
          have hsj : ((ds1.take j).map rd ++ ds1.drop j).set j (rd d) = (ds1.take (j + 1)).map rd ++ ds1.drop (j + 1) := red_step hdj
          rw [hsj] at ha'
          have hf' := hf.trans (Frm.wrote z11 hk11 (fun _ => hgb))
          refine wf_nil ?_
          refine at_inB ?_
          refine at_thn ?_
          refine wc_plain ?_
          refine wf_rd _ rfl rfl (RD.add64 rfl rfl (by omega)) rfl ?_
          refine wf_rd _ rfl rfl (RD.move rfl) rfl ?_
          refine wf_nil ?_
          refine at_lp (j + 1) (by show ds1.length - (j + 1) < ds1.length - j; omega) ⟨rfl, rfl, rfl, rfl, trivial⟩ ⟨by omega, ⟨_, ha'⟩, hf'⟩
        ·
          have hjn : j = ds1.length := by
            have : ¬ j < ds1.length := by simpa using hc78
            omega
          subst hjn
          rw [List.take_length, List.drop_length, List.append_nil] at ha
          have hyg : ∀ b, (Value.slice p8 ds1.length c8).ownBlock = some b → ¬ H8.size ≤ b := fun b e => by have := hb8lt b e; omega
          refine wc_exit ?_
          refine at_thn_exit ?_
          refine at_lp_exit ?_
          refine at_inB_out ?_
          refine at_thn ?_
          refine wc_seq ?_
          refine wc_plain ?_
          refine wf_rd _ rfl rfl (RD.move rfl) rfl ?_
          refine wf_rd _ rfl rfl (RD.move rfl) rfl ?_
          refine wf_call rfl en13 rfl rfl (same13 f H10 (fresh H4 H10) (fresh H8 H9) _ _ (ds1.map rd) (ha.done (RC.mono f)) (RSl.mono ha3 (fun b hb => hf.old b hb.2 (fun e => hyg b e hb.1)) (fun _ h => h) (fun cs d _ hcd => RC.mono f _ _ _ _ _ _ (fun b hb => hf.old b hb.2 (fun e => hyg b e hb.1)) (fun _ h => h) hcd)) (fun b hb => hb.2) (fun b hb => Nat.lt_of_lt_of_le hb.2 hf.size) (by simp; omega)) ?_
          rintro _ H11 ⟨rfl, hx11⟩
          refine ⟨trivial, ?_⟩
          refine wf_rd _ rfl rfl (RD.assign rfl) rfl ?_
          refine wf_nil ?_
          refine at_thn ?_
          refine wc_ret ?_
          refine at_ret1 rfl rfl ?_
          have hs1 := hf.size
          have hs2 := hx11.size
          exact ⟨rfl, by omega, fun b hb => by
            rw [hx11.old b (by omega), hf.old b (by omega) (fun e => by have := ha1.young b e; omega)]
            exact hmem b hb⟩
end Go.Proofs.Ytfomnjippakjpaa
