/-
  QueuePlaces, walked.
-/
import Derived.Test.YtfomnjippakjpaaSpeaks
import Derived.Test.YtfomnjippakjpaaPData
import Derived.Test.YtfomnjippakjpaaRows
namespace Go.Proofs.Ytfomnjippakjpaa
open Go.S

theorem ext_frm {H0 H1 H2 : Heap} {b : Nat} (h : Ext H0 H1) (hf : Frm (fun x => x = b) H1 H2) (hb : H0.size ≤ b) : Ext H0 H2 :=
  ⟨Nat.le_trans h.size hf.size, fun j hj => (hf.old j (Nat.lt_of_lt_of_le hj h.size) (fun e => by omega)).trans (h.old j hj)⟩
theorem nodup_take {ks : List Int} {m : Nat} {k : Int} (hn : ks.Nodup) (h : ks[m]? = some k) : k ∉ ks.take m := by
  have hlt := (List.getElem?_eq_some_iff.1 h).1
  have he := (List.getElem?_eq_some_iff.1 h).2
  intro hmem
  obtain ⟨i, hi⟩ := List.getElem?_of_mem hmem
  have hij := (List.getElem?_eq_some_iff.1 hi).1
  rw [List.getElem?_take, if_pos (by simp at hij; omega)] at hi
  have h1 := (List.getElem?_eq_some_iff.1 hi).1
  have := List.pairwise_iff_getElem.1 (List.nodup_iff_pairwise_ne.1 hn) i m h1 hlt (by simp at hij; omega)
  rw [he, (List.getElem?_eq_some_iff.1 hi).2] at this
  exact this rfl
theorem rows_one {f : Nat} {H H' : Heap} {v : Value} {ds : List CD} {es : List (List Value)} (h : Accum H H' 35 25 (RC f) v ds es) : ∀ u ∈ es.flatten, u.oneCell' = true := by
  intro u hu
  obtain ⟨x, hx, hux⟩ := List.mem_flatten.1 hu
  obtain ⟨i, hi⟩ := List.getElem?_of_mem hx
  have hn := h.num
  have hlt := (List.getElem?_eq_some_iff.1 hi).1
  exact (h.rel i x _ hi (List.getElem?_eq_getElem (show i < ds.length by omega))).one u hux
theorem RD.cast0 {P : Program} {o : SOp} {n : Nat} {env : Env} {H : Heap} {u v : Value} (h : RD P o n env H u) (e : u = v) : RD P o n env H v := e ▸ h
set_option maxRecDepth 100000 in
theorem law4 (f : Nat) (H : Heap) (Z : Nat → Prop) (cf : CF) (v : Value) (ops : List OD) (hv : RSl H Z 38 (RO f H Z) v ops) (hz : ∀ b, Z b → b < H.size) (hl : ops.length ≤ 1048576) :
    FN Try.prog 4 [.agg cf.cells.toArray, v] H (fun r H' => r = .bool true ∧ Ext H H') := by
  obtain ⟨p, c, rfl⟩ := hv.len
  refine fn_intro 152 Try.func4 rfl Try.ntmps4 rfl ?_
  refine wc_seq ?_
  refine wc_plain ?_
  refine wf_box rfl rfl rfl rfl (fun b2 H1 e2 z1 hb2 hk1 => ⟨trivial, ?_⟩)
  refine wf_rd _ rfl rfl (RD.assign rfl) rfl ?_
  refine wf_nil ?_
  refine at_thn ?_
  refine wc_seq ?_
  refine wc_seq ?_
  refine wc_plain ?_
  refine wf_call rfl en5 rfl rfl (speaks5 f H1) ?_
  rintro _ H2 ⟨rfl, hx2⟩
  refine ⟨trivial, ?_⟩
  replace hb2 := hx2.keep hb2
  have hx02 : Ext H H2 := (Ext.new z1 hk1).trans hx2
  refine wf_rd _ rfl rfl (RD.not rfl) rfl ?_
  refine wf_nil ?_
  refine at_thn ?_
  refine wc_no rfl ?_
  refine wc_skip ?_
  refine at_thn ?_
  refine wc_seq ?_
  refine wc_plain ?_
  refine wf_rd _ rfl rfl (RD.load rfl (LD.all Try.isAgg23 Try.sizeOf23 hb2 rfl)) rfl ?_
  refine wf_call rfl en6 rfl rfl (u6 f (fun b o => H[b]? = some o) H2 cf (fun b o hb => hx02.keep hb)) ?_
  rintro _ H3 ⟨q, rfl, h, z3⟩
  refine ⟨trivial, ?_⟩
  replace z3 := Nat.le_trans hx02.size z3
  refine wf_rd _ rfl rfl (RD.assign rfl) rfl ?_
  refine wf_nil ?_
  refine at_thn ?_
  refine wc_seq ?_
  refine wc_seq ?_
  refine wc_plain ?_
  refine wf_rd _ rfl rfl (RD.move rfl) rfl ?_
  refine wf_rd _ rfl rfl (RD.peq rfl rfl Try.underlying26) rfl ?_
  refine wf_nil ?_
  refine at_thn ?_
  refine wc_no rfl ?_
  refine wc_skip ?_
  refine at_thn ?_
  refine wc_seq ?_
  refine wc_plain ?_
  refine wf_mkSlice0 el46 rfl rfl (fun b29 H4 e29 z4 hb29 hk4 => ⟨trivial, ?_⟩)
  refine wf_alloc Try.zeroValue46 rfl rfl rfl (fun bi H5 e6 z5 hb6 hk5 => ⟨trivial, ?_⟩)
  refine wf_store1 rfl rfl Try.sizeOf46 rfl hb6 rfl (Nat.le_of_ble_eq_true rfl) (fun H6 z6 hx6 hk6 => ⟨trivial, ?_⟩)
  have hP : PS f H q bi 0 H6 ⟨cf, [], fun _ => none, [], 0, []⟩ (.slice (some ⟨b29, 0, none⟩) 0 0) [] := by
    have hx36 : Ext H3 H6 := ((Ext.new z4 hk4).trans (Ext.new z5 hk5)).wrote z6 hk6 (by omega)
    have hb296 := (hk6 b29 (by omega)).trans ((hk5 b29 (by omega)).trans hb29)
    refine ⟨(h.add hx36).re (fun b o hb => ?_), hx6, Own.empty hb296, .nil, Nat.le_refl _, Int.le_refl _, by omega, fun g e => by have : b29 = g := Option.some.inj e; omega, by omega⟩
    rcases hb with hb | ⟨hb, ho⟩
    · exact ⟨hx36.keep (h.mem hb), o, .inl hb⟩
    · refine ⟨ho, o, .inr ⟨?_, ho⟩⟩
      rcases hb with rfl | hb
      · exact ⟨by omega, lt_of ho⟩
      · have : b29 = b := Option.some.inj hb
        exact ⟨by omega, lt_of ho⟩
  refine wf_nil ?_
  refine at_thn ?_
  refine wc_seq ?_
  refine wc_plain ?_
  refine wf_rd _ rfl rfl (RD.mkFunc rfl) rfl ?_
  refine wf_rd _ rfl rfl (RD.assign rfl) rfl ?_
  refine wf_nil ?_
  refine at_thn ?_
  refine wc_seq ?_
  refine wc_seq ?_
  refine wc_plain ?_
  refine wf_rd _ rfl rfl (RD.move rfl) rfl ?_
  refine wf_rd _ rfl rfl (RD.lenSl rfl Try.underlying45) rfl ?_
  refine wf_rd _ rfl rfl (RD.move rfl) rfl ?_
  refine wf_nil ?_
  refine at_thn ?_
  refine wc_block ?_
  refine wc_loop (fun i : Nat => [(4, .bool false), (5, .pointer (some ⟨q, 0, none⟩)), (6, .pointer (some ⟨bi, 0, none⟩)), (7, .func (.func 14) #[] [.pointer (some ⟨bi, 0, none⟩)].toArray), (31, .slice p ops.length c), (32, .int .i64 ops.length), (33, .int .i64 (i : Int))]) (fun i H5 => i ≤ ops.length ∧ ∃ A v ins, PS f H q bi i H5 A v ins) (fun i => ops.length - i) 0 ⟨rfl, rfl, rfl, rfl, rfl, rfl, rfl, trivial⟩ ⟨Nat.zero_le _, _, _, _, hP⟩ ?_
  rintro j H5 ⟨hj, A, v, ins, hP⟩
  show WC _ _ _ _ [(4, .bool false), (5, .pointer (some ⟨q, 0, none⟩)), (6, .pointer (some ⟨bi, 0, none⟩)), (7, .func (.func 14) #[] [.pointer (some ⟨bi, 0, none⟩)].toArray), (31, .slice p ops.length c), (32, .int .i64 ops.length), (33, .int .i64 (j : Int))] H5
  refine wc_seq ?_
  refine wc_plain ?_
  refine wf_rd _ rfl rfl (RD.cmp _ rfl rfl rfl) rfl ?_
  refine wf_nil ?_
  refine at_thn ?_
  refine wc_seq ?_
  refine wc_cond rfl (fun hc34 => ?_) (fun hc34 => ?_)
  ·
    have hlt : j < ops.length := by simpa using hc34
    obtain ⟨o, hoj⟩ : ∃ o, ops[j]? = some o := ⟨_, List.getElem?_eq_getElem hlt⟩
    obtain ⟨b0, off0, c0, cs0, T0, fz0, e0, hZ0, hcs0, hoff0, hro⟩ := hv.at hoj
    cases e0
    have hsame : ∀ b, b < H.size → H5[b]? = H[b]? := fun b hb => by rw [Array.getElem?_eq_getElem hb]; exact hP.qu.mem (.inl (Array.getElem?_eq_getElem hb))
    have hcs5 := (hsame b0 (lt_of hcs0)).trans hcs0
    have hone38 := hro.one
    have hs5 := hP.size
    obtain ⟨oh, ot, ocv, hxe, hrc0, _, _⟩ := hro
    rw [hxe] at hone38
    refine wc_skip ?_
    refine at_thn ?_
    refine wc_seq ?_
    refine wc_block ?_
    refine wc_seq ?_
    refine wc_plain ?_
    refine wf_rd _ rfl rfl (RD.indexN rfl rfl Try.underlying45 Try.sizeOf49 hlt) rfl ?_
    refine wf_rd _ rfl rfl (RD.load rfl (LD.el Try.isAgg49 Try.sizeOf49 hcs5 ⟨hxe, hoff0⟩)) rfl ?_
    refine wf_alloc Try.zeroValue49 rfl rfl rfl (fun b9 H6 e9 z6 hb9 hk6 => ⟨trivial, ?_⟩)
    refine wf_storeA rfl rfl Try.sizeOf49 rfl hb9 hone38.1 rfl (fun H7 z7 hx7 hk7 => ⟨trivial, ?_⟩)
    have hx57 : Ext H5 H7 := (Ext.new z6 hk6).wrote z7 hk7 (by omega)
    replace hP := hP.ext hx57
    replace hb9 := hx7
    replace hsame : ∀ b, b < H.size → H7[b]? = H[b]? := fun b hb => (hx57.old b (by omega)).trans (hsame b hb)
    have hF := hP.qu.facts
    have hIL : ins.length = A.L.length + A.ou.length := by rw [hP.perm.length_eq]; simp
    have hIf := hP.few
    have hIla := hP.last
    refine wf_nil ?_
    refine at_thn ?_
    refine wc_seq ?_
    refine wc_plain ?_
    refine wf_rd _ rfl rfl (RD.assign rfl) rfl ?_
    refine wf_nil ?_
    refine at_thn ?_
    refine wc_cut (fun _ : Unit => [(4, .bool false), (5, .pointer (some ⟨q, 0, none⟩)), (6, .pointer (some ⟨bi, 0, none⟩)), (7, .func (.func 14) #[] [.pointer (some ⟨bi, 0, none⟩)].toArray), (10, .bool true), (31, .slice (some ⟨b0, off0, none⟩) ops.length c), (32, .int .i64 ops.length), (33, .int .i64 (j : Int))]) (fun _ H8 => ∃ A v ins, PS f H q bi (j + 1) H8 A v ins) ?_ ?_
    ·
      refine wc_seq ?_
      refine wc_plain ?_
      refine wf_rd _ rfl rfl (RD.field rfl Try.underlying49 rfl Try.sizeOf3) rfl ?_
      refine wf_rd _ rfl rfl (RD.load rfl (LD.one Try.isAgg3 hb9 rfl)) rfl ?_
      refine wf_rd _ rfl rfl (RD.and rfl rfl) rfl ?_
      refine wf_nil ?_
      refine at_thn ?_
      refine wc_block ?_
      refine wc_cut (fun b : Bool => [(4, .bool false), (5, .pointer (some ⟨q, 0, none⟩)), (6, .pointer (some ⟨bi, 0, none⟩)), (7, .func (.func 14) #[] [.pointer (some ⟨bi, 0, none⟩)].toArray), (9, .pointer (some ⟨b9, 0, none⟩)), (10, .bool true), (31, .slice (some ⟨b0, off0, none⟩) ops.length c), (32, .int .i64 ops.length), (33, .int .i64 (j : Int)), (39, .int .i64 (andI o.kind 7)), (46, .bool b)]) (fun _ H6 => H7 = H6) ?_ ?_
      ·
        refine wc_cut (fun b : Bool => [(4, .bool false), (5, .pointer (some ⟨q, 0, none⟩)), (6, .pointer (some ⟨bi, 0, none⟩)), (7, .func (.func 14) #[] [.pointer (some ⟨bi, 0, none⟩)].toArray), (9, .pointer (some ⟨b9, 0, none⟩)), (10, .bool true), (31, .slice (some ⟨b0, off0, none⟩) ops.length c), (32, .int .i64 ops.length), (33, .int .i64 (j : Int)), (39, .int .i64 (andI o.kind 7)), (46, .bool b)]) (fun _ H6 => H7 = H6) ?_ ?_
        ·
          refine wc_plain ?_
          refine wf_rd _ rfl rfl (RD.cmp _ rfl rfl rfl) rfl ?_
          refine wf_rd _ rfl rfl (RD.assign rfl) rfl ?_
          refine wf_nil ?_
          exact at_cut _ ⟨rfl, rfl, rfl, rfl, rfl, rfl, rfl, rfl, rfl, rfl, rfl, trivial⟩ rfl
        ·
          rintro b _ rfl
          show WC _ _ _ _ [(4, .bool false), (5, .pointer (some ⟨q, 0, none⟩)), (6, .pointer (some ⟨bi, 0, none⟩)), (7, .func (.func 14) #[] [.pointer (some ⟨bi, 0, none⟩)].toArray), (9, .pointer (some ⟨b9, 0, none⟩)), (10, .bool true), (31, .slice (some ⟨b0, off0, none⟩) ops.length c), (32, .int .i64 ops.length), (33, .int .i64 (j : Int)), (39, .int .i64 (andI o.kind 7)), (46, .bool b)] H7
          refine wc_cond rfl (fun hc46 => ?_) (fun hc46 => ?_)
          ·
            refine wc_skip ?_
            exact at_cut _ ⟨rfl, rfl, rfl, rfl, rfl, rfl, rfl, rfl, rfl, rfl, rfl, trivial⟩ rfl
          ·
            refine wc_seq ?_
            refine wc_plain ?_
            refine wf_rd _ rfl rfl (RD.cmp _ rfl rfl rfl) rfl ?_
            refine wf_rd _ rfl rfl (RD.assign rfl) rfl ?_
            refine wf_nil ?_
            refine at_thn ?_
            refine wc_cond rfl (fun hc46 => ?_) (fun hc46 => ?_)
            ·
              refine wc_skip ?_
              exact at_cut _ ⟨rfl, rfl, rfl, rfl, rfl, rfl, rfl, rfl, rfl, rfl, rfl, trivial⟩ rfl
            ·
              refine wc_plain ?_
              refine wf_rd _ rfl rfl (RD.cmp _ rfl rfl rfl) rfl ?_
              refine wf_rd _ rfl rfl (RD.assign rfl) rfl ?_
              refine wf_nil ?_
              exact at_cut _ ⟨rfl, rfl, rfl, rfl, rfl, rfl, rfl, rfl, rfl, rfl, rfl, trivial⟩ rfl
      ·
        rintro b _ rfl
        show WC _ _ _ _ [(4, .bool false), (5, .pointer (some ⟨q, 0, none⟩)), (6, .pointer (some ⟨bi, 0, none⟩)), (7, .func (.func 14) #[] [.pointer (some ⟨bi, 0, none⟩)].toArray), (9, .pointer (some ⟨b9, 0, none⟩)), (10, .bool true), (31, .slice (some ⟨b0, off0, none⟩) ops.length c), (32, .int .i64 ops.length), (33, .int .i64 (j : Int)), (39, .int .i64 (andI o.kind 7)), (46, .bool b)] H7
        refine wc_cond rfl (fun hc46 => ?_) (fun hc46 => ?_)
        ·
          refine wc_drawn [(1, 0), (2, 0), (3, 0), (0, 1), (4, 2), (5, 2), (6, 3), (7, 3)] (fun X => X[bi]? = some (.cells [v].toArray 46 (0, 0))) (by kernel_rfl) (by kernel_rfl) hP.cell ?_
          refine wf_rd _ rfl rfl (RD.move rfl) rfl ?_
          refine wf_rd _ rfl rfl (RD.field rfl Try.underlying49 rfl Try.sizeOf35) rfl ?_
          refine wf_rd _ rfl rfl (RD.load rfl (LD.el Try.isAgg35 Try.sizeOf35 hb9 ⟨rfl, Nat.le_of_ble_eq_true rfl⟩)) rfl ?_
          refine wf_su _ rfl rfl (fun _ hC => (RD.load rfl (LD.one Try.isAgg46 hC rfl))) ?_
          refine wf_call rfl en7 rfl rfl (u7 hP.qu (RC.mono f _ _ _ _ _ _ (fun b hb => hsame b (hz b hb)) (fun _ h => h) hrc0) (fun b hb => by have := hz b hb; have := hP.size; omega) (by omega) (by omega)) ?_
          rintro _ H8 ⟨rfl, hq8, z8⟩
          refine ⟨hq8.mem (.inr ⟨.inl rfl, hP.cell⟩), ?_⟩
          obtain ⟨hcell8, hown8, hq8⟩ := hP.kept hq8
          refine wf_mkSlice1 el46 rfl rfl rfl rfl rfl rfl (fun b55 H9 e55 z9 hb55 hk9 => ⟨(hk9 _ (lt_of hcell8)).trans hcell8, ?_⟩)
          have hx9 := Ext.new z9 hk9
          refine wf_append (news := [ik (A.last + 1)]) el46 rfl rfl (hown8.keep (fun g hg => hx9.old g (hown8.lt hg))) hb55 rfl (by simp) (by intro u hu; simp at hu; subst hu; rfl) (by omega) (by omega) rfl rfl (fun va H10 ho10 hg10 hw10 => ⟨trivial, ?_⟩)
          have hcell10 : H10[bi]? = some (.cells [v].toArray 46 (0, 0)) := (hg10.2 bi (lt_of (hx9.keep hcell8)) (fun e => (hP.nv bi e.symm).1 rfl)).trans (hx9.keep hcell8)
          refine wf_store1 rfl rfl Try.sizeOf46 rfl hcell10 ho10.one (Nat.le_of_ble_eq_true rfl) (fun H11 z11 hx11 hk11 => ⟨trivial, ?_⟩)
          have hva : ∀ g, va.ownBlock = some g → v.ownBlock = some g ∨ H8.size ≤ g := fun g hg => by
            rcases hw10 with e | e
            · exact .inl (e ▸ hg)
            · rw [e] at hg; have := Option.some.inj hg; exact .inr (by omega)
          have hvb : ∀ g, va.ownBlock = some g → g ≠ bi := fun g hg e => by
            rcases hw10 with h1 | h1
            · exact (hP.nv g (h1 ▸ hg)).1 e
            · rw [h1] at hg; have := Option.some.inj hg; have := lt_of hcell8; omega
          have hP9 : PS f H q bi (j + 1) H11 _ va (ins ++ [A.last + 1]) := hP.put (ins2 := ins ++ [A.last + 1]) hq8 (by have := hP.size; omega) ⟨by have := hg10.1; omega, fun b hb hn => (hk11 b (fun e => hn (.inl e))).trans ((hg10.2 b (by omega) (fun e => hn (.inr e.symm))).trans (hk9 b hb))⟩ hx11
            (by have := ho10.keep (H' := H11) (fun g hg => hk11 g (hvb g hg)); simpa using this) hva (lt_of hcell8) (fun g hg => hown8.lt hg) (perm_push (a := ⟨rankOf A.cf.maxprio o.copy.prio, A.last + 1, 0⟩) hP.perm) (by simp; omega) (by show A.last + 1 ≤ _; omega)
          refine wf_nil ?_
          refine at_inB ?_
          exact at_cut () ⟨rfl, rfl, rfl, rfl, rfl, rfl, rfl, rfl, trivial⟩ ⟨_, _, _, hP9⟩
        ·
          refine wc_seq ?_
          refine wc_plain ?_
          refine wf_rd _ rfl rfl (RD.cmp _ rfl rfl rfl) rfl ?_
          refine wf_rd _ rfl rfl (RD.assign rfl) rfl ?_
          refine wf_nil ?_
          refine at_thn ?_
          refine wc_cond rfl (fun hc57 => ?_) (fun hc57 => ?_)
          ·
            refine wc_seq ?_
            by_cases hno : A.cf.maxlen < 0 ∨ (A.L.length : Int) ≤ A.cf.maxlen
            ·
              refine wc_plain ?_
              refine wf_rd _ rfl rfl (RD.move rfl) rfl ?_
              refine wf_call rfl en15 rfl rfl (u15_none hP.qu hno) ?_
              rintro _ H8 ⟨rfl, hx8⟩
              refine ⟨trivial, ?_⟩
              replace hP := hP.ext hx8
              refine wf_rd _ rfl rfl (RD.move rfl) rfl ?_
              refine wf_rd _ rfl rfl (RD.extract rfl rfl) rfl ?_
              refine wf_rd _ rfl rfl (RD.extract rfl rfl) rfl ?_
              refine wf_alloc Try.zeroValue35 rfl rfl rfl (fun b11 H9 e11 za hb11 hka => ⟨trivial, ?_⟩)
              refine wf_storeA rfl rfl Try.sizeOf35 rfl hb11 (CD.one cd0 rfl rfl) rfl (fun H10 zb hb11' hkb => ⟨trivial, ?_⟩)
              have hxp := (Ext.new za hka).wrote zb hkb (by omega)
              replace hb11 := hb11'
              have hP9 := (hP.ext hxp).more
              refine wf_rd _ rfl rfl (RD.assign rfl) rfl ?_
              refine wf_nil ?_
              refine at_thn ?_
              refine wc_seq ?_
              refine wc_plain ?_
              refine wf_rd _ rfl rfl (RD.move rfl) rfl ?_
              refine wf_nil ?_
              refine at_thn ?_
              refine wc_no rfl ?_
              refine wc_skip ?_
              refine at_inB ?_
              exact at_cut () ⟨rfl, rfl, rfl, rfl, rfl, rfl, rfl, rfl, trivial⟩ ⟨_, _, _, hP9⟩
            ·
              have hpos : 0 ≤ A.cf.maxlen := by omega
              have hmany : A.cf.maxlen < (A.L.length : Int) := by omega
              obtain ⟨a, L, hL⟩ : ∃ a L, A.L = a :: L := by
                cases hl : A.L with
                | nil => rw [hl] at hmany; simp at hmany; omega
                | cons a L => exact ⟨a, L, rfl⟩
              refine wc_plain ?_
              refine wf_rd _ rfl rfl (RD.move rfl) rfl ?_
              refine wf_call rfl en15 rfl rfl (u15 hP.qu hL hpos hmany (by omega)) ?_
              rintro _ H8 ⟨csk, dk, Zk, rfl, hdk, hdks, ⟨h1, h2, rfl, hh1, hh2, _, _⟩, hq8, z8, _⟩
              refine ⟨trivial, ?_⟩
              have hPo := hP
              have hnod := hP.nod
              have hkin : a.s ∈ ins := hP.perm.mem_iff.2 (by rw [hL]; simp)
              have hpm := hP.perm
              rw [hL] at hpm
              have hsz := hP.size
              replace hP := hPo.kept (hq8.weak (fun _ _ h => .inl h))
              refine wf_rd _ rfl rfl (RD.move rfl) rfl ?_
              refine wf_rd _ rfl rfl (RD.extract rfl rfl) rfl ?_
              refine wf_rd _ rfl rfl (RD.extract rfl rfl) rfl ?_
              refine wf_alloc Try.zeroValue35 rfl rfl rfl (fun b11 H9 e11 za hb11 hka => ⟨trivial, ?_⟩)
              refine wf_storeA rfl rfl Try.sizeOf35 rfl hb11 (CD.one _ (RSl.one hh1) (RSl.one hh2)) rfl (fun H10 zb hb11' hkb => ⟨trivial, ?_⟩)
              have hxp := (Ext.new za hka).wrote zb hkb (by omega)
              replace hb11 := hb11'
              replace hP := (⟨hxp.keep hP.1, hP.2.1.keep (fun g hg => hxp.old g (hP.2.1.lt hg)), (hP.2.2.ext hxp).re (fun b o hb => by
                rcases hb with hb | ⟨hb, ho⟩
                · exact ⟨hxp.keep (hP.2.2.mem (.inl hb)), o, .inl hb⟩
                · refine ⟨ho, o, .inr ⟨hb, ?_⟩⟩
                  have hlb : b < H8.size := by
                    rcases hb with rfl | hb
                    · exact lt_of hP.1
                    · exact hP.2.1.lt hb
                  rw [← hxp.old b hlb]; exact ho)⟩ : H10[bi]? = some (.cells [v].toArray 46 (0, 0)) ∧ Own H10 3 1 v ins.length (ins.map ik) ∧ Qu f (DQ H bi v H10) H10 q _)
              have hs10 := hxp.size
              refine wf_rd _ rfl rfl (RD.assign rfl) rfl ?_
              refine wf_nil ?_
              refine at_thn ?_
              refine wc_seq ?_
              refine wc_plain ?_
              refine wf_rd _ rfl rfl (RD.move rfl) rfl ?_
              refine wf_nil ?_
              refine at_thn ?_
              refine wc_yes rfl ?_
              refine wc_plain ?_
              refine wf_rd _ rfl rfl (RD.move rfl) rfl ?_
              refine wf_rd _ rfl rfl (RD.load rfl (LD.all Try.isAgg35 Try.sizeOf35 hb11 rfl)) rfl ?_
              refine wf_mkSlice1 el24 rfl rfl rfl rfl rfl rfl (fun b67 H12 eb67 zb67 hb67 hkb67 => ⟨trivial, ?_⟩)
              have hxs := Ext.new zb67 hkb67
              have hcs_ := hxs.keep hP.1
              refine wf_callv (caps := [.pointer (some ⟨bi, 0, none⟩)]) rfl rfl en14 rfl rfl (gone14 H12 bi v _ ins [a.s] hcs_ (hP.2.1.keep (fun g hg => hxs.old g (hP.2.1.lt hg))) (by omega) (⟨_, _, rfl, fun j' k' hj' => by
                have hj0 : j' = 0 := by have := (List.getElem?_eq_some_iff.1 hj').1; simp at this; omega
                subst hj0
                have hk' : a.s = k' := Option.some.inj hj'
                exact ⟨_, _, _, rfl, hb67, Nat.le_of_ble_eq_true rfl, rfl, by rw [← hk', ← hdks]; rfl, (CD.one _ (RSl.one hh1) (RSl.one hh2)), rfl⟩⟩) (fun g e => by
                have e1 : b67 = g := Option.some.inj e
                have := lt_of hP.1
                omega) (by simp) (by intro k' hk'; simp at hk'; subst hk'; exact hkin) hnod (by simp)) ?_
              rintro _ Hg ⟨rfl, hG⟩
              refine ⟨trivial, ?_⟩
              obtain ⟨vg, hcg, hog, hyg⟩ := hG.cell
              have hP9 : PS f H q bi (j + 1) Hg _ vg (gins ins [a.s] 1) := hPo.put (hP.2.2) (by omega) (((hxs.frm _).trans (hG.frm.mono (fun b _ e => e))).mono (fun b _ e => .inl e)) hcg hog (fun g hg => (hyg g hg).imp id (fun h => by have := hxs.size; omega)) (lt_of hP.1) (fun g hg => hP.2.1.lt hg) (perm_over hpm hnod) (by have := List.length_filter_le (fun s => !([a.s].take 1).contains s) ins; unfold gins; omega) (by show A.last ≤ _; omega)
              refine wf_rd _ rfl rfl (RD.assign rfl) rfl ?_
              refine wf_nil ?_
              refine at_inB ?_
              exact at_cut () ⟨rfl, rfl, rfl, rfl, rfl, rfl, rfl, rfl, trivial⟩ ⟨_, _, _, hP9⟩
          ·
            refine wc_seq ?_
            refine wc_plain ?_
            refine wf_rd _ rfl rfl (RD.cmp _ rfl rfl rfl) rfl ?_
            refine wf_rd _ rfl rfl (RD.assign rfl) rfl ?_
            refine wf_nil ?_
            refine at_thn ?_
            refine wc_cond rfl (fun hc69 => ?_) (fun hc69 => ?_)
            ·
              rcases hL : A.L with _ | ⟨a, L⟩
              ·
                refine wc_plain ?_
                refine wf_rd _ rfl rfl (RD.move rfl) rfl ?_
                refine wf_call rfl en9 rfl rfl (u9_none hP.qu hL) ?_
                rintro _ H8 ⟨rfl, hx8⟩
                refine ⟨trivial, ?_⟩
                have hP9 := (hP.ext hx8).more
                refine wf_nil ?_
                refine at_inB ?_
                exact at_cut () ⟨rfl, rfl, rfl, rfl, rfl, rfl, rfl, rfl, trivial⟩ ⟨_, _, _, hP9⟩
              ·
                refine wc_plain ?_
                refine wf_rd _ rfl rfl (RD.move rfl) rfl ?_
                refine wf_call rfl en9 rfl rfl (u9 hP.qu hL (by have := congrArg List.length hL; simp at this; omega)) ?_
                rintro _ H8 ⟨csk, dk, rfl, _, _, _, hq8, z8, _⟩
                refine ⟨trivial, ?_⟩
                have hP9 := (hP.go hq8 z8 (perm_pop (hL ▸ hP.perm)) (Int.le_refl _)).more
                refine wf_nil ?_
                refine at_inB ?_
                exact at_cut () ⟨rfl, rfl, rfl, rfl, rfl, rfl, rfl, rfl, trivial⟩ ⟨_, _, _, hP9⟩
            ·
              refine wc_seq ?_
              refine wc_plain ?_
              refine wf_rd _ rfl rfl (RD.cmp _ rfl rfl rfl) rfl ?_
              refine wf_rd _ rfl rfl (RD.assign rfl) rfl ?_
              refine wf_nil ?_
              refine at_thn ?_
              refine wc_cond rfl (fun hc73 => ?_) (fun hc73 => ?_)
              ·
                refine wc_seq ?_
                by_cases hko : o.n ∈ A.ou
                ·
                  refine wc_plain ?_
                  refine wf_rd _ rfl rfl (RD.move rfl) rfl ?_
                  refine wf_rd _ rfl rfl (RD.field rfl Try.underlying49 rfl Try.sizeOf3) rfl ?_
                  refine wf_rd _ rfl rfl (RD.load rfl (LD.one (v := .int .i64 o.n) Try.isAgg3 hb9 rfl)) rfl ?_
                  refine wf_call rfl en16 rfl rfl (u16 hP.qu hko) ?_
                  rintro _ H8 ⟨csk, dk, Zk, rfl, hdk, hdks, ⟨h1, h2, rfl, hh1, hh2, _, _⟩, hq8, z8, _⟩
                  refine ⟨trivial, ?_⟩
                  have hPo := hP
                  have hnod := hP.nod
                  have hkin : o.n ∈ ins := hP.perm.mem_iff.2 (List.mem_append_right _ hko)
                  have hpm := hP.perm
                  have hsz := hP.size
                  replace hP := hPo.kept (hq8.weak (fun _ _ h => .inl h))
                  refine wf_rd _ rfl rfl (RD.move rfl) rfl ?_
                  refine wf_rd _ rfl rfl (RD.extract rfl rfl) rfl ?_
                  refine wf_rd _ rfl rfl (RD.extract rfl rfl) rfl ?_
                  refine wf_alloc Try.zeroValue35 rfl rfl rfl (fun b13 H9 e13 za hb13 hka => ⟨trivial, ?_⟩)
                  refine wf_storeA rfl rfl Try.sizeOf35 rfl hb13 (CD.one _ (RSl.one hh1) (RSl.one hh2)) rfl (fun H10 zb hb13' hkb => ⟨trivial, ?_⟩)
                  have hxp := (Ext.new za hka).wrote zb hkb (by omega)
                  replace hb13 := hb13'
                  replace hP := (⟨hxp.keep hP.1, hP.2.1.keep (fun g hg => hxp.old g (hP.2.1.lt hg)), (hP.2.2.ext hxp).re (fun b o hb => by
                    rcases hb with hb | ⟨hb, ho⟩
                    · exact ⟨hxp.keep (hP.2.2.mem (.inl hb)), o, .inl hb⟩
                    · refine ⟨ho, o, .inr ⟨hb, ?_⟩⟩
                      have hlb : b < H8.size := by
                        rcases hb with rfl | hb
                        · exact lt_of hP.1
                        · exact hP.2.1.lt hb
                      rw [← hxp.old b hlb]; exact ho)⟩ : H10[bi]? = some (.cells [v].toArray 46 (0, 0)) ∧ Own H10 3 1 v ins.length (ins.map ik) ∧ Qu f (DQ H bi v H10) H10 q _)
                  have hs10 := hxp.size
                  refine wf_rd _ rfl rfl (RD.assign rfl) rfl ?_
                  refine wf_nil ?_
                  refine at_thn ?_
                  refine wc_seq ?_
                  refine wc_plain ?_
                  refine wf_rd _ rfl rfl (RD.move rfl) rfl ?_
                  refine wf_nil ?_
                  refine at_thn ?_
                  refine wc_yes rfl ?_
                  refine wc_plain ?_
                  refine wf_rd _ rfl rfl (RD.move rfl) rfl ?_
                  refine wf_rd _ rfl rfl (RD.load rfl (LD.all Try.isAgg35 Try.sizeOf35 hb13 rfl)) rfl ?_
                  refine wf_mkSlice1 el24 rfl rfl rfl rfl rfl rfl (fun b85 H12 eb85 zb85 hb85 hkb85 => ⟨trivial, ?_⟩)
                  have hxs := Ext.new zb85 hkb85
                  have hcs_ := hxs.keep hP.1
                  refine wf_callv (caps := [.pointer (some ⟨bi, 0, none⟩)]) rfl rfl en14 rfl rfl (gone14 H12 bi v _ ins [o.n] hcs_ (hP.2.1.keep (fun g hg => hxs.old g (hP.2.1.lt hg))) (by omega) (⟨_, _, rfl, fun j' k' hj' => by
                    have hj0 : j' = 0 := by have := (List.getElem?_eq_some_iff.1 hj').1; simp at this; omega
                    subst hj0
                    have hk' : o.n = k' := Option.some.inj hj'
                    exact ⟨_, _, _, rfl, hb85, Nat.le_of_ble_eq_true rfl, rfl, by rw [← hk', ← hdks]; rfl, (CD.one _ (RSl.one hh1) (RSl.one hh2)), rfl⟩⟩) (fun g e => by
                    have e1 : b85 = g := Option.some.inj e
                    have := lt_of hP.1
                    omega) (by simp) (by intro k' hk'; simp at hk'; subst hk'; exact hkin) hnod (by simp)) ?_
                  rintro _ Hg ⟨rfl, hG⟩
                  refine ⟨trivial, ?_⟩
                  obtain ⟨vg, hcg, hog, hyg⟩ := hG.cell
                  have hP9 : PS f H q bi (j + 1) Hg _ vg (gins ins [o.n] 1) := hPo.put (hP.2.2) (by omega) (((hxs.frm _).trans (hG.frm.mono (fun b _ e => e))).mono (fun b _ e => .inl e)) hcg hog (fun g hg => (hyg g hg).imp id (fun h => by have := hxs.size; omega)) (lt_of hP.1) (fun g hg => hP.2.1.lt hg) (perm_settle hpm hnod hko) (by have := List.length_filter_le (fun s => !([o.n].take 1).contains s) ins; unfold gins; omega) (by show A.last ≤ _; omega)
                  refine wf_rd _ rfl rfl (RD.assign rfl) rfl ?_
                  refine wf_nil ?_
                  refine at_inB ?_
                  exact at_cut () ⟨rfl, rfl, rfl, rfl, rfl, rfl, rfl, rfl, trivial⟩ ⟨_, _, _, hP9⟩
                ·
                  refine wc_plain ?_
                  refine wf_rd _ rfl rfl (RD.move rfl) rfl ?_
                  refine wf_rd _ rfl rfl (RD.field rfl Try.underlying49 rfl Try.sizeOf3) rfl ?_
                  refine wf_rd _ rfl rfl (RD.load rfl (LD.one (v := .int .i64 o.n) Try.isAgg3 hb9 rfl)) rfl ?_
                  refine wf_call rfl en16 rfl rfl (u16_none hP.qu hko) ?_
                  rintro _ H8 ⟨rfl, hx8⟩
                  refine ⟨trivial, ?_⟩
                  replace hP := hP.ext hx8
                  refine wf_rd _ rfl rfl (RD.move rfl) rfl ?_
                  refine wf_rd _ rfl rfl (RD.extract rfl rfl) rfl ?_
                  refine wf_rd _ rfl rfl (RD.extract rfl rfl) rfl ?_
                  refine wf_alloc Try.zeroValue35 rfl rfl rfl (fun b13 H9 e13 za hb13 hka => ⟨trivial, ?_⟩)
                  refine wf_storeA rfl rfl Try.sizeOf35 rfl hb13 (CD.one cd0 rfl rfl) rfl (fun H10 zb hb13' hkb => ⟨trivial, ?_⟩)
                  have hxp := (Ext.new za hka).wrote zb hkb (by omega)
                  replace hb13 := hb13'
                  have hP9 := (hP.ext hxp).more
                  refine wf_rd _ rfl rfl (RD.assign rfl) rfl ?_
                  refine wf_nil ?_
                  refine at_thn ?_
                  refine wc_seq ?_
                  refine wc_plain ?_
                  refine wf_rd _ rfl rfl (RD.move rfl) rfl ?_
                  refine wf_nil ?_
                  refine at_thn ?_
                  refine wc_no rfl ?_
                  refine wc_skip ?_
                  refine at_inB ?_
                  exact at_cut () ⟨rfl, rfl, rfl, rfl, rfl, rfl, rfl, rfl, trivial⟩ ⟨_, _, _, hP9⟩
              ·
                refine wc_seq ?_
                refine wc_plain ?_
                refine wf_rd _ rfl rfl (RD.cmp _ rfl rfl rfl) rfl ?_
                refine wf_rd _ rfl rfl (RD.assign rfl) rfl ?_
                refine wf_nil ?_
                refine at_thn ?_
                refine wc_cond rfl (fun hc87 => ?_) (fun hc87 => ?_)
                ·
                  by_cases hko : o.n ∈ A.ou
                  ·
                    refine wc_plain ?_
                    refine wf_rd _ rfl rfl (RD.move rfl) rfl ?_
                    refine wf_rd _ rfl rfl (RD.field rfl Try.underlying49 rfl Try.sizeOf3) rfl ?_
                    refine wf_rd _ rfl rfl (RD.load rfl (LD.one (v := .int .i64 o.n) Try.isAgg3 hb9 rfl)) rfl ?_
                    refine wf_call rfl en12 rfl rfl (u12 hP.qu hko (by omega)) ?_
                    rintro _ H8 ⟨rfl, dk, hdk, hq8, z8⟩
                    refine ⟨trivial, ?_⟩
                    have hP9 := (hP.go hq8 z8 (perm_ret hP.perm hko) (Int.le_refl _)).more
                    refine wf_nil ?_
                    refine at_inB ?_
                    exact at_cut () ⟨rfl, rfl, rfl, rfl, rfl, rfl, rfl, rfl, trivial⟩ ⟨_, _, _, hP9⟩
                  ·
                    refine wc_plain ?_
                    refine wf_rd _ rfl rfl (RD.move rfl) rfl ?_
                    refine wf_rd _ rfl rfl (RD.field rfl Try.underlying49 rfl Try.sizeOf3) rfl ?_
                    refine wf_rd _ rfl rfl (RD.load rfl (LD.one (v := .int .i64 o.n) Try.isAgg3 hb9 rfl)) rfl ?_
                    refine wf_call rfl en12 rfl rfl (u12_none hP.qu hko) ?_
                    rintro _ H8 ⟨rfl, hx8⟩
                    refine ⟨trivial, ?_⟩
                    have hP9 := (hP.ext hx8).more
                    refine wf_nil ?_
                    refine at_inB ?_
                    exact at_cut () ⟨rfl, rfl, rfl, rfl, rfl, rfl, rfl, rfl, trivial⟩ ⟨_, _, _, hP9⟩
                ·
                  refine wc_plain ?_
                  refine wf_rd _ rfl rfl (RD.move rfl) rfl ?_
                  refine wf_rd _ rfl rfl (RD.move rfl) rfl ?_
                  refine wf_rd _ rfl rfl (RD.field rfl Try.underlying49 rfl Try.sizeOf3) rfl ?_
                  refine wf_rd _ rfl rfl (RD.load rfl (LD.one (v := .int .i64 o.n) Try.isAgg3 hb9 rfl)) rfl ?_
                  refine wf_call rfl en17 rfl rfl (u17 hP.qu o.n (by omega)) ?_
                  rintro r44 H8 ⟨ds, es, hds, hnum, hor, hlr, hyr, z8, Zs, hrel, _, hq8⟩
                  refine ⟨trivial, ?_⟩
                  have hPo := hP
                  have hnod := hP.nod
                  have hpm := hP.perm
                  have hsz := hP.size
                  replace hP := hPo.kept (hq8.weak (fun _ _ h => .inl h))
                  have hsq := seqs_of hds (fun a ha => by obtain ⟨d, h1, h2, _⟩ := hF.cov a (List.mem_filter.1 ha).1; exact ⟨d, h1, h2⟩)
                  generalize hks : (A.L.filter (pcA A.cp (exP o.n))).map It.s = ks at *
                  have hkl : ds.length = ks.length := by rw [← hsq]; simp
                  rw [hkl] at hor
                  refine wf_callv (caps := [.pointer (some ⟨bi, 0, none⟩)]) rfl rfl en14 rfl rfl (gone14 H8 bi v _ ins ks hP.1 hP.2.1 (by omega) (own_rows hor (by omega) hlr (fun i x k hi hk => by
                      obtain ⟨d, hd⟩ : ∃ d, ds[i]? = some d := ⟨_, List.getElem?_eq_getElem (by have := (List.getElem?_eq_some_iff.1 hk).1; omega)⟩
                      have hr := hrel i x d hi hd
                      have hsk : d.seq = k := by rw [← hsq, List.getElem?_map, hd] at hk; exact Option.some.inj hk
                      exact ⟨hsk ▸ rc_fst hr, hr.one⟩))
                    (fun g e e2 => by have := hyr g e; have := lt_of hPo.cell; omega)
                    (hks ▸ (hF.nod.sublist (List.Sublist.map _ List.filter_sublist))) (fun k hk => hpm.mem_iff.2 (List.mem_append_left _ (by rw [← hks] at hk; obtain ⟨a, ha, e⟩ := List.mem_map.1 hk; exact List.mem_map.2 ⟨a, (List.mem_filter.1 ha).1, e⟩))) hnod (by rw [← hks]; have := List.length_filter_le (pcA A.cp (exP o.n)) A.L; simp; omega)) ?_
                  rintro _ Hg ⟨rfl, hG⟩
                  refine ⟨trivial, ?_⟩
                  obtain ⟨vg, hcg, hog, hyg⟩ := hG.cell
                  have hP9 : PS f H q bi (j + 1) Hg _ vg (gins ins ks ks.length) := hPo.put hP.2.2 (by omega) (hG.frm.mono (fun b _ e => .inl e)) hcg hog hyg (lt_of hP.1) (fun g hg => hP.2.1.lt hg) (by rw [← hks]; exact perm_exp _ hpm hnod) (by have := List.length_filter_le (fun s => !(ks.take ks.length).contains s) ins; unfold gins; omega) (by show A.last ≤ _; omega)
                  refine wf_rd _ rfl rfl (RD.assign rfl) rfl ?_
                  refine wf_nil ?_
                  refine at_inB ?_
                  exact at_cut () ⟨rfl, rfl, rfl, rfl, rfl, rfl, rfl, rfl, trivial⟩ ⟨_, _, _, hP9⟩
    ·
      clear hP
      rintro _ H30 ⟨A, v, ins, hP⟩
      show WC _ _ _ _ [(4, .bool false), (5, .pointer (some ⟨q, 0, none⟩)), (6, .pointer (some ⟨bi, 0, none⟩)), (7, .func (.func 14) #[] [.pointer (some ⟨bi, 0, none⟩)].toArray), (10, .bool true), (31, .slice (some ⟨b0, off0, none⟩) ops.length c), (32, .int .i64 ops.length), (33, .int .i64 (j : Int))] H30
      have hF := hP.qu.facts
      have hIL : ins.length = A.L.length + A.ou.length := by rw [hP.perm.length_eq]; simp
      have hIf := hP.few
      have hIla := hP.last
      refine wc_seq ?_
      refine wc_plain ?_
      refine wf_mkSlice0 el46 rfl rfl (fun b93 H31 e93 z31 hb93 hk31 => ⟨trivial, ?_⟩)
      have hx31 := Ext.new z31 hk31
      refine wf_rd _ rfl rfl (RD.assign rfl) rfl ?_
      refine wf_nil ?_
      refine at_thn ?_
      refine wc_seq ?_
      refine wc_seq ?_
      refine wc_plain ?_
      refine wf_rd _ rfl rfl (RD.move rfl) rfl ?_
      refine wf_call rfl en8 rfl rfl (u8 (hP.ext hx31).qu (by omega)) ?_
      rintro v95 H32 ⟨ds1, hds1, ⟨es1, ha1⟩, hx32⟩
      refine ⟨trivial, ?_⟩
      refine wf_rd _ rfl rfl (RD.move rfl) rfl ?_
      refine wf_call rfl en11 rfl rfl (u11 ((hP.ext hx31).ext hx32).qu (by omega) (by omega)) ?_
      rintro v97 H33 ⟨ks2, ds2, hperm2, _, hds2, ⟨es2, ha2⟩, hx33⟩
      refine ⟨trivial, ?_⟩
      have hsq1 := seqs_of hds1 (fun a ha => by obtain ⟨d, h1, h2, _⟩ := hF.cov a ha; exact ⟨d, h1, h2⟩)
      have hsq2 := seqs_out hds2 (fun k hk => hF.covo k (hperm2.mem_iff.1 hk))
      have hl1 : ds1.length = A.L.length := by have := congrArg List.length hds1; simpa using this
      have hl2 : ds2.length = ks2.length := by have := congrArg List.length hds2; simpa using this
      have hl3 : ks2.length = A.ou.length := hperm2.length_eq
      have hkp : ins.Perm (A.L.map It.s ++ ks2) := hP.perm.trans (List.Perm.append_left _ hperm2.symm)
      have hks : (A.L.map It.s ++ ks2).Nodup := hkp.nodup_iff.1 hP.nod
      have hown1 := ha1.own.keep (fun g hg => hx33.old g (ha1.own.lt hg))
      refine wf_appendO el24 rfl rfl hown1 ha2.own (rows_one ha2) (by omega) (by omega) rfl rfl trivial (fun v98 Hc ho98 hg98 hw98 => ⟨trivial, ?_⟩)
      have hxc : Ext H30 Hc := ((hx31.trans hx32).trans hx33).grew hg98 (fun g hg => by have := ha1.young g hg; omega)
      have hy98 : ∀ g, v98.ownBlock = some g → ¬ g = b93 := fun g hg e => by
        rcases hw98 with h1 | h1
        · have := ha1.young g (h1 ▸ hg); omega
        · rw [h1] at hg; have := Option.some.inj hg; have := hx32.size; have := hx33.size; omega
      have hom : Own Hc 3 1 (.slice (some ⟨b93, 0, none⟩) 0 0) 0 [] := Own.empty ((hg98.2 b93 (by have := hx32.size; have := hx33.size; omega) (fun e => by have := ha1.young b93 e.symm; omega)).trans (hx33.keep (hx32.keep hb93)))
      obtain ⟨p98, c98, e98, hrows⟩ := own_rows (ks := A.L.map It.s ++ ks2) (es := es1 ++ es2) (by rw [show (A.L.map It.s ++ ks2).length = ds1.length + ds2.length by simp; omega, List.flatten_append]; exact ho98) (by simp [ha1.num, ha2.num, hl1, hl2]) (fun x hx => (List.mem_append.1 hx).elim (ha1.len x) (ha2.len x)) (fun i x k hi hk => by
        rcases Nat.lt_or_ge i es1.length with hlt1 | hge1
        · rw [List.getElem?_append_left hlt1] at hi
          have hn1 := ha1.num
          obtain ⟨d, hd⟩ : ∃ d, ds1[i]? = some d := ⟨_, List.getElem?_eq_getElem (by omega)⟩
          have hr := ha1.rel i x d hi hd
          rw [List.getElem?_append_left (by simp; omega), ← hsq1, List.getElem?_map, hd] at hk
          have hsk : d.seq = k := Option.some.inj hk
          exact ⟨hsk ▸ rc_fst hr, hr.one⟩
        · rw [List.getElem?_append_right hge1] at hi
          have hn1 := ha1.num
          have hn2 := ha2.num
          have hi2 := (List.getElem?_eq_some_iff.1 hi).1
          obtain ⟨d, hd⟩ : ∃ d, ds2[i - es1.length]? = some d := ⟨_, List.getElem?_eq_getElem (by omega)⟩
          have hr := ha2.rel _ x d hi hd
          have hlm : (A.L.map It.s).length = es1.length := by simp; omega
          rw [List.getElem?_append_right (by omega), hlm, ← hsq2, List.getElem?_map, hd] at hk
          have hsk : d.seq = k := Option.some.inj hk
          exact ⟨hsk ▸ rc_fst hr, hr.one⟩)
      subst e98
      replace hy98 : ∀ g, p98 = some ⟨g, 0, none⟩ → ¬ g = b93 := fun g e => hy98 g (by rw [e]; rfl)
      refine wf_rd _ rfl rfl (RD.lenSl rfl Try.underlying24) rfl ?_
      refine wf_rd _ rfl rfl (RD.move rfl) rfl ?_
      refine wf_nil ?_
      refine at_thn ?_
      refine wc_block ?_
      refine wc_loop (fun i : Nat × Value => [(4, .bool false), (5, .pointer (some ⟨q, 0, none⟩)), (6, .pointer (some ⟨bi, 0, none⟩)), (7, .func (.func 14) #[] [.pointer (some ⟨bi, 0, none⟩)].toArray), (10, .bool true), (31, .slice (some ⟨b0, off0, none⟩) ops.length c), (32, .int .i64 ops.length), (33, .int .i64 (j : Int)), (15, i.2), (98, .slice p98 (A.L.map It.s ++ ks2).length c98), (99, .int .i64 (A.L.map It.s ++ ks2).length), (100, .int .i64 (i.1 : Int))]) (fun i H40 => i.1 ≤ (A.L.map It.s ++ ks2).length ∧ Frm (fun b => b = b93) Hc H40 ∧ Own H40 3 1 i.2 ((A.L.map It.s ++ ks2).take i.1).length (((A.L.map It.s ++ ks2).take i.1).map ik) ∧ (∀ g, i.2.ownBlock = some g → g = b93 ∨ Hc.size ≤ g)) (fun i => (A.L.map It.s ++ ks2).length - i.1) (0, .slice (some ⟨b93, 0, none⟩) 0 0) ⟨rfl, rfl, rfl, rfl, rfl, rfl, rfl, rfl, rfl, rfl, rfl, rfl, trivial⟩ ⟨Nat.zero_le _, Frm.refl _ _, by simpa using hom, fun g e => .inl (Option.some.inj e).symm⟩ ?_
      rintro ⟨m, vm⟩ H40 ⟨hm, hf40, hom, hym⟩
      dsimp only at hm hom hym
      show WC _ _ _ _ [(4, .bool false), (5, .pointer (some ⟨q, 0, none⟩)), (6, .pointer (some ⟨bi, 0, none⟩)), (7, .func (.func 14) #[] [.pointer (some ⟨bi, 0, none⟩)].toArray), (10, .bool true), (31, .slice (some ⟨b0, off0, none⟩) ops.length c), (32, .int .i64 ops.length), (33, .int .i64 (j : Int)), (15, vm), (98, .slice p98 (A.L.map It.s ++ ks2).length c98), (99, .int .i64 (A.L.map It.s ++ ks2).length), (100, .int .i64 (m : Int))] H40
      refine wc_seq ?_
      refine wc_plain ?_
      refine wf_rd _ rfl rfl (RD.cmp _ rfl rfl rfl) rfl ?_
      refine wf_nil ?_
      refine at_thn ?_
      refine wc_seq ?_
      refine wc_cond rfl (fun hc101 => ?_) (fun hc101 => ?_)
      ·
        have hltm : m < (A.L.map It.s ++ ks2).length := Int.ofNat_lt.1 (of_decide_eq_true hc101)
        obtain ⟨k, hkm⟩ : ∃ k, (A.L.map It.s ++ ks2)[m]? = some k := ⟨_, List.getElem?_eq_getElem hltm⟩
        obtain ⟨g98, cs98, x98, hpg, hg98, hle98, hxe98, hx098, hone98, hxl98⟩ := hrows m k hkm
        subst hpg
        have hg40 := hf40.keep hg98 (hy98 g98 rfl)
        have htk : (A.L.map It.s ++ ks2).take (m + 1) = (A.L.map It.s ++ ks2).take m ++ [k] := by rw [List.take_add_one, hkm]; rfl
        have hmt : ((A.L.map It.s ++ ks2).take m).length = m := by simp at hltm ⊢; omega
        have hKl := hkp.length_eq
        have hkn : k ∉ (A.L.map It.s ++ ks2).take m := nodup_take hks hkm
        have hki : k ∈ ins := hkp.mem_iff.2 (List.mem_of_getElem? hkm)
        refine wc_skip ?_
        refine at_thn ?_
        refine wc_seq ?_
        refine wc_block ?_
        refine wc_seq ?_
        refine wc_plain ?_
        refine wf_rd _ rfl rfl (RD.indexN rfl rfl Try.underlying24 Try.sizeOf35 hltm) rfl ?_
        refine wf_rd _ rfl rfl (RD.load rfl (LD.el Try.isAgg35 Try.sizeOf35 hg40 ⟨hxe98, hle98⟩)) rfl ?_
        refine wf_alloc Try.zeroValue35 rfl rfl rfl (fun b17 H41 e17 z41 hb17 hk41 => ⟨trivial, ?_⟩)
        refine wf_storeA rfl rfl (fun w => by rw [hxl98]; exact Try.sizeOf35 w) rfl hb17 hone98 (by rw [hxl98]; rfl) (fun H42 z42 hb17' hk42 => ⟨trivial, ?_⟩)
        replace hb17 := hb17'
        have hx42 : Ext H40 H42 := (Ext.new z41 hk41).wrote z42 hk42 (by omega)
        have hom42 := hom.keep (fun g hg => hx42.old g (hom.lt hg))
        obtain ⟨pm, cm, em⟩ := hom.val
        subst em
        refine wf_nil ?_
        refine at_thn ?_
        refine wc_seq ?_
        refine wc_seq ?_
        refine wc_plain ?_
        refine wf_rd _ rfl rfl (RD.move rfl) rfl ?_
        refine wf_rd _ rfl rfl (RD.lenSl rfl Try.underlying46) rfl ?_
        refine wf_rd _ rfl rfl (RD.move rfl) rfl ?_
        refine wf_nil ?_
        refine at_thn ?_
        refine wc_block ?_
        refine wc_loop (fun i : Nat => [(4, .bool false), (5, .pointer (some ⟨q, 0, none⟩)), (6, .pointer (some ⟨bi, 0, none⟩)), (7, .func (.func 14) #[] [.pointer (some ⟨bi, 0, none⟩)].toArray), (10, .bool true), (31, .slice (some ⟨b0, off0, none⟩) ops.length c), (32, .int .i64 ops.length), (33, .int .i64 (j : Int)), (15, .slice pm ((A.L.map It.s ++ ks2).take m).length cm), (17, .pointer (some ⟨b17, 0, none⟩)), (98, .slice (some ⟨g98, 0, none⟩) (A.L.map It.s ++ ks2).length c98), (99, .int .i64 (A.L.map It.s ++ ks2).length), (100, .int .i64 (m : Int)), (104, .slice pm ((A.L.map It.s ++ ks2).take m).length cm), (105, .int .i64 ((A.L.map It.s ++ ks2).take m).length), (106, .int .i64 (i : Int))]) (fun i H50 => i ≤ ((A.L.map It.s ++ ks2).take m).length ∧ H42 = H50) (fun i => ((A.L.map It.s ++ ks2).take m).length - i) 0 ⟨rfl, rfl, rfl, rfl, rfl, rfl, rfl, rfl, rfl, rfl, rfl, rfl, rfl, rfl, rfl, rfl, trivial⟩ ⟨Nat.zero_le _, rfl⟩ ?_
        rintro t _ ⟨ht, rfl⟩
        show WC _ _ _ _ [(4, .bool false), (5, .pointer (some ⟨q, 0, none⟩)), (6, .pointer (some ⟨bi, 0, none⟩)), (7, .func (.func 14) #[] [.pointer (some ⟨bi, 0, none⟩)].toArray), (10, .bool true), (31, .slice (some ⟨b0, off0, none⟩) ops.length c), (32, .int .i64 ops.length), (33, .int .i64 (j : Int)), (15, .slice pm ((A.L.map It.s ++ ks2).take m).length cm), (17, .pointer (some ⟨b17, 0, none⟩)), (98, .slice (some ⟨g98, 0, none⟩) (A.L.map It.s ++ ks2).length c98), (99, .int .i64 (A.L.map It.s ++ ks2).length), (100, .int .i64 (m : Int)), (104, .slice pm ((A.L.map It.s ++ ks2).take m).length cm), (105, .int .i64 ((A.L.map It.s ++ ks2).take m).length), (106, .int .i64 (t : Int))] H42
        refine wc_seq ?_
        refine wc_plain ?_
        refine wf_rd _ rfl rfl (RD.cmp _ rfl rfl rfl) rfl ?_
        refine wf_nil ?_
        refine at_thn ?_
        refine wc_seq ?_
        refine wc_cond rfl (fun hc107 => ?_) (fun hc107 => ?_)
        ·
          have hltt : t < ((A.L.map It.s ++ ks2).take m).length := Int.ofNat_lt.1 (of_decide_eq_true hc107)
          obtain ⟨a, hat⟩ : ∃ a, ((A.L.map It.s ++ ks2).take m)[t]? = some a := ⟨_, List.getElem?_eq_getElem hltt⟩
          obtain ⟨gm, capm, csm, e9, hgm, ham⟩ := own_int_at hom42 hat
          cases e9
          have hne : a ≠ k := fun e => hkn (e ▸ List.mem_of_getElem? hat)
          refine wc_skip ?_
          refine at_thn ?_
          refine wc_seq ?_
          refine wc_block ?_
          refine wc_seq ?_
          refine wc_plain ?_
          refine wf_rd _ rfl rfl (RD.indexN rfl rfl Try.underlying46 Try.sizeOf3 hltt) rfl ?_
          refine wf_rd _ rfl rfl (RD.load rfl (LD.one Try.isAgg3 hgm ham)) rfl ?_
          refine wf_rd _ rfl rfl (RD.assign rfl) rfl ?_
          refine wf_nil ?_
          refine at_thn ?_
          refine wc_plain ?_
          refine wf_rd _ rfl rfl (RD.move rfl) rfl ?_
          refine wf_rd _ rfl rfl (RD.move rfl) rfl ?_
          refine wf_rd _ rfl rfl (RD.move rfl) rfl ?_
          refine wf_rd _ rfl rfl (RD.field rfl Try.underlying35 rfl Try.sizeOf3) rfl ?_
          refine wf_rd _ rfl rfl (RD.load rfl (LD.one Try.isAgg3 hb17 hx098)) rfl ?_
          refine wf_rd _ rfl rfl (RD.cmp true rfl rfl (congrArg some (bne_iff_ne.2 hne))) rfl ?_
          refine wf_rd _ rfl rfl (RD.pickT rfl rfl) rfl ?_
          refine wf_rd _ rfl rfl (RD.assign rfl) rfl ?_
          refine wf_nil ?_
          refine at_inB ?_
          refine at_thn ?_
          refine wc_plain ?_
          refine wf_rd _ rfl rfl (RD.add64 rfl rfl (by omega)) rfl ?_
          refine wf_rd _ rfl rfl (RD.move rfl) rfl ?_
          refine wf_nil ?_
          exact at_lp (t + 1) (by show ((A.L.map It.s ++ ks2).take m).length - (t + 1) < ((A.L.map It.s ++ ks2).take m).length - t; omega) ⟨rfl, rfl, rfl, rfl, rfl, rfl, rfl, rfl, rfl, rfl, rfl, rfl, rfl, rfl, rfl, rfl, trivial⟩ ⟨by omega, rfl⟩
        ·
          refine wc_exit ?_
          refine at_thn_exit ?_
          refine at_lp_exit ?_
          refine at_inB_out ?_
          refine at_thn ?_
          refine wc_seq ?_
          refine wc_plain ?_
          refine wf_rd _ rfl rfl (RD.move rfl) rfl ?_
          refine wf_rd _ rfl rfl (RD.field rfl Try.underlying35 rfl Try.sizeOf3) rfl ?_
          refine wf_rd _ rfl rfl (RD.load rfl (LD.one Try.isAgg3 hb17 hx098)) rfl ?_
          refine wf_mkSlice1 el46 rfl rfl rfl rfl rfl rfl (fun b121 H43 e43 z43 hb121 hk43 => ⟨trivial, ?_⟩)
          have hx43 := Ext.new z43 hk43
          refine wf_append (news := [ik k]) el46 rfl rfl (hom42.keep (fun g hg => hx43.old g (hom42.lt hg))) hb121 rfl (by simp) (by intro u hu; simp at hu; subst hu; rfl) (by simp; omega) (by simp; omega) rfl rfl (fun vm9 H45 ho45 hg45 hw45 => ⟨trivial, ?_⟩)
          have hom9 : Own H45 3 1 vm9 ((A.L.map It.s ++ ks2).take m ++ [k]).length (((A.L.map It.s ++ ks2).take m ++ [k]).map ik) := by simpa using ho45
          have hf9 : Frm (fun b => b = b93) Hc H45 := (hf40.trans ((hx42.trans hx43).frm _)).trans' (⟨hg45.1, fun b hb hn => hg45.2 b hb (fun e => hn e.symm)⟩ : Frm (fun b => (Value.slice pm ((A.L.map It.s ++ ks2).take m).length cm).ownBlock = some b) H43 H45) (fun b hb e => (hym b e).resolve_right (by omega))
          have hym9 : ∀ g, vm9.ownBlock = some g → g = b93 ∨ Hc.size ≤ g := fun g hg => by
            rcases hw45 with h1 | h1
            · exact hym g (h1 ▸ hg)
            · rw [h1] at hg; have := Option.some.inj hg; have := hf40.size; have := hx42.size; have := hx43.size; exact .inr (by omega)
          have hx30 : Ext H30 H45 := ext_frm hxc hf9 (by omega)
          have hcell45 := (hP.ext hx30).cell
          have hov45 := (hP.ext hx30).own
          have hb17A := hb17
          replace hb17 := (hg45.2 b17 (by have := lt_of hb17; have := hx43.size; omega) (fun e => by have := hom.lt e.symm; omega)).trans (hx43.keep hb17)
          obtain ⟨pv, cv, ev⟩ := hov45.val
          subst ev
          refine wf_rd _ rfl rfl (RD.assign rfl) rfl ?_
          refine wf_nil ?_
          refine at_thn ?_
          refine wc_seq ?_
          refine wc_plain ?_
          refine wf_rd _ rfl rfl (RD.assign rfl) rfl ?_
          refine wf_nil ?_
          refine at_thn ?_
          refine wc_seq ?_
          refine wc_seq ?_
          refine wc_plain ?_
          refine wf_rd _ rfl rfl (RD.load rfl (LD.one Try.isAgg46 hcell45 rfl)) rfl ?_
          refine wf_rd _ rfl rfl (RD.lenSl rfl Try.underlying46) rfl ?_
          refine wf_rd _ rfl rfl (RD.move rfl) rfl ?_
          refine wf_nil ?_
          refine at_thn ?_
          refine wc_block ?_
          refine wc_loop (fun i : Nat => [(4, .bool false), (5, .pointer (some ⟨q, 0, none⟩)), (6, .pointer (some ⟨bi, 0, none⟩)), (7, .func (.func 14) #[] [.pointer (some ⟨bi, 0, none⟩)].toArray), (10, .bool true), (31, .slice (some ⟨b0, off0, none⟩) ops.length c), (32, .int .i64 ops.length), (33, .int .i64 (j : Int)), (15, vm9), (17, .pointer (some ⟨b17, 0, none⟩)), (20, .bool (decide (k ∈ ins.take i))), (98, .slice (some ⟨g98, 0, none⟩) (A.L.map It.s ++ ks2).length c98), (99, .int .i64 (A.L.map It.s ++ ks2).length), (100, .int .i64 (m : Int)), (123, .slice pv ins.length cv), (124, .int .i64 ins.length), (125, .int .i64 (i : Int))]) (fun i H60 => i ≤ ins.length ∧ H45 = H60) (fun i => ins.length - i) 0 ⟨rfl, rfl, rfl, rfl, rfl, rfl, rfl, rfl, rfl, rfl, rfl, rfl, rfl, rfl, rfl, rfl, rfl, trivial⟩ ⟨Nat.zero_le _, rfl⟩ ?_
          rintro t _ ⟨ht, rfl⟩
          show WC _ _ _ _ [(4, .bool false), (5, .pointer (some ⟨q, 0, none⟩)), (6, .pointer (some ⟨bi, 0, none⟩)), (7, .func (.func 14) #[] [.pointer (some ⟨bi, 0, none⟩)].toArray), (10, .bool true), (31, .slice (some ⟨b0, off0, none⟩) ops.length c), (32, .int .i64 ops.length), (33, .int .i64 (j : Int)), (15, vm9), (17, .pointer (some ⟨b17, 0, none⟩)), (20, .bool (decide (k ∈ ins.take t))), (98, .slice (some ⟨g98, 0, none⟩) (A.L.map It.s ++ ks2).length c98), (99, .int .i64 (A.L.map It.s ++ ks2).length), (100, .int .i64 (m : Int)), (123, .slice pv ins.length cv), (124, .int .i64 ins.length), (125, .int .i64 (t : Int))] H45
          refine wc_seq ?_
          refine wc_plain ?_
          refine wf_rd _ rfl rfl (RD.cmp _ rfl rfl rfl) rfl ?_
          refine wf_nil ?_
          refine at_thn ?_
          refine wc_seq ?_
          refine wc_cond rfl (fun hc126 => ?_) (fun hc126 => ?_)
          ·
            have hltt : t < ins.length := by simpa using hc126
            obtain ⟨a, hat⟩ : ∃ a, ins[t]? = some a := ⟨_, List.getElem?_eq_getElem hltt⟩
            obtain ⟨gv, capv, csv, e9, hgv, hav⟩ := own_int_at hov45 hat
            cases e9
            have htk3 : ins.take (t + 1) = ins.take t ++ [a] := by rw [List.take_add_one, hat]; rfl
            refine wc_skip ?_
            refine at_thn ?_
            refine wc_seq ?_
            refine wc_block ?_
            refine wc_seq ?_
            refine wc_plain ?_
            refine wf_rd _ rfl rfl (RD.indexN rfl rfl Try.underlying46 Try.sizeOf3 hltt) rfl ?_
            refine wf_rd _ rfl rfl (RD.load rfl (LD.one Try.isAgg3 hgv hav)) rfl ?_
            refine wf_rd _ rfl rfl (RD.assign rfl) rfl ?_
            refine wf_nil ?_
            refine at_thn ?_
            by_cases hkt : k ∈ ins.take t
            ·
              have hdt : decide (k ∈ ins.take t) = true := decide_eq_true hkt
              rw [hdt]
              have hfd : ∀ (b : Bool), b = true → some (Value.bool b) = some (Value.bool (decide (k ∈ ins.take (t + 1)))) := fun b hb => by rw [hb, htk3]; simp [hkt]
              have hfd := hfd true rfl
              refine wc_plain ?_
              refine wf_rd _ rfl rfl (RD.move rfl) rfl ?_
              refine wf_rd _ rfl rfl (RD.move rfl) rfl ?_
              refine wf_not rfl rfl rfl ?_
              refine wf_not rfl rfl rfl ?_
              refine wf_not rfl rfl rfl ?_
              refine wf_not rfl rfl rfl ?_
              refine wf_rd _ rfl rfl (RD.pickT rfl rfl) rfl ?_
              refine wf_rd _ rfl rfl (RD.assign rfl) rfl ?_
              refine wf_nil ?_
              refine at_inB ?_
              refine at_thn ?_
              refine wc_plain ?_
              refine wf_rd _ rfl rfl (RD.add64 rfl rfl (by omega)) rfl ?_
              refine wf_rd _ rfl rfl (RD.move rfl) rfl ?_
              refine wf_nil ?_
              exact at_lp (t + 1) (by show ins.length - (t + 1) < ins.length - t; omega) ⟨rfl, rfl, rfl, rfl, rfl, rfl, rfl, rfl, rfl, rfl, hfd, rfl, rfl, rfl, rfl, rfl, rfl, trivial⟩ ⟨by omega, rfl⟩
            ·
              have hdt : decide (k ∈ ins.take t) = false := decide_eq_false hkt
              rw [hdt]
              have hfd : some (Value.bool (a == k)) = some (Value.bool (decide (k ∈ ins.take (t + 1)))) := by
                rw [htk3]
                congr 2
                by_cases e : a = k
                · subst e; simp
                · have e2 : ¬ k = a := fun h => e h.symm
                  simp [e, e2, hkt]
              refine wc_plain ?_
              refine wf_rd _ rfl rfl (RD.move rfl) rfl ?_
              refine wf_rd _ rfl rfl (RD.move rfl) rfl ?_
              refine wf_rd _ rfl rfl (RD.move rfl) rfl ?_
              refine wf_rd _ rfl rfl (RD.field rfl Try.underlying35 rfl Try.sizeOf3) rfl ?_
              refine wf_rd _ rfl rfl (RD.load rfl (LD.one Try.isAgg3 hb17 hx098)) rfl ?_
              refine wf_rd _ rfl rfl (RD.cmp (a == k) rfl rfl rfl) rfl ?_
              refine wf_rd _ rfl rfl (RD.pickF rfl rfl) rfl ?_
              refine wf_rd _ rfl rfl (RD.assign rfl) rfl ?_
              refine wf_nil ?_
              refine at_inB ?_
              refine at_thn ?_
              refine wc_plain ?_
              refine wf_rd _ rfl rfl (RD.add64 rfl rfl (by omega)) rfl ?_
              refine wf_rd _ rfl rfl (RD.move rfl) rfl ?_
              refine wf_nil ?_
              exact at_lp (t + 1) (by show ins.length - (t + 1) < ins.length - t; omega) ⟨rfl, rfl, rfl, rfl, rfl, rfl, rfl, rfl, rfl, rfl, hfd, rfl, rfl, rfl, rfl, rfl, rfl, trivial⟩ ⟨by omega, rfl⟩
          ·
            have htn : t = ins.length := by
              have : ¬ t < ins.length := by simpa using hc126
              omega
            subst htn
            refine wc_exit ?_
            refine at_thn_exit ?_
            refine at_lp_exit ?_
            refine at_inB_out ?_
            refine at_thn ?_
            refine wc_plain ?_
            refine wf_rd _ rfl rfl (RD.move rfl) rfl ?_
            refine wf_rd _ rfl rfl (RD.move rfl) rfl ?_
            refine wf_rd _ rfl rfl (RD.cast0 (v := .bool true) (RD.move rfl) (by rw [List.take_length]; exact congrArg Value.bool (decide_eq_true hki))) rfl ?_
            refine wf_rd _ rfl rfl (RD.pickT rfl rfl) rfl ?_
            refine wf_rd _ rfl rfl (RD.assign rfl) rfl ?_
            refine wf_nil ?_
            refine at_inB ?_
            refine at_thn ?_
            refine wc_plain ?_
            refine wf_rd _ rfl rfl (RD.add64 rfl rfl (by omega)) rfl ?_
            refine wf_rd _ rfl rfl (RD.move rfl) rfl ?_
            refine wf_nil ?_
            exact at_lp (m + 1, vm9) (by dsimp only; omega) ⟨rfl, rfl, rfl, rfl, rfl, rfl, rfl, rfl, rfl, rfl, rfl, rfl, trivial⟩ ⟨by dsimp only; omega, hf9, htk ▸ hom9, hym9⟩
      ·
        have hmn : m = (A.L.map It.s ++ ks2).length := by
          have : ¬ m < (A.L.map It.s ++ ks2).length := fun e => by have := of_decide_eq_false hc101; exact this (Int.ofNat_lt.2 e)
          omega
        subst hmn
        rw [List.take_length] at hom
        have hx30 : Ext H30 H40 := ext_frm hxc hf40 (by omega)
        have hP9 := hP.ext hx30
        have hcell40 := hP9.cell
        obtain ⟨pv, cv, ev⟩ := hP9.own.val
        obtain ⟨pm, cm, em⟩ := hom.val
        subst em
        refine wc_exit ?_
        refine at_thn_exit ?_
        refine at_lp_exit ?_
        refine at_inB_out ?_
        refine at_thn ?_
        refine wc_seq ?_
        refine wc_plain ?_
        refine wf_rd _ rfl rfl (RD.move rfl) rfl ?_
        refine wf_rd _ rfl rfl (RD.not rfl) rfl ?_
        refine wf_rd _ rfl rfl (RD.move rfl) rfl ?_
        refine wf_rd _ rfl rfl (RD.move rfl) rfl ?_
        refine wf_rd _ rfl rfl (RD.lenSl rfl Try.underlying46) rfl ?_
        refine wf_rd _ rfl rfl (RD.load rfl (LD.one Try.isAgg46 hcell40 rfl)) rfl ?_
        subst ev
        refine wf_rd _ rfl rfl (RD.lenSl rfl Try.underlying46) rfl ?_
        refine wf_rd _ rfl rfl (RD.cmp false rfl rfl (congrArg some (bne_eq_false_iff_eq.2 (by rw [hkp.length_eq])))) rfl ?_
        refine wf_rd _ rfl rfl (RD.pickF rfl rfl) rfl ?_
        refine wf_nil ?_
        refine at_thn ?_
        refine wc_no rfl ?_
        refine wc_skip ?_
        refine at_inB ?_
        refine at_thn ?_
        refine wc_plain ?_
        refine wf_rd _ rfl rfl (RD.add64 rfl rfl (by omega)) rfl ?_
        refine wf_rd _ rfl rfl (RD.move rfl) rfl ?_
        refine wf_nil ?_
        exact at_lp (j + 1) (by show ops.length - (j + 1) < ops.length - j; omega) ⟨rfl, rfl, rfl, rfl, rfl, rfl, rfl, trivial⟩ ⟨by omega, _, _, _, hP9⟩
  ·
    have hjn : j = ops.length := by
      have : ¬ j < ops.length := by simpa using hc34
      omega
    subst hjn
    refine wc_exit ?_
    refine at_thn_exit ?_
    refine at_lp_exit ?_
    refine at_inB_out ?_
    refine at_thn ?_
    refine wc_seq ?_
    refine wc_plain ?_
    refine wf_rd _ rfl rfl (RD.assign rfl) rfl ?_
    refine wf_nil ?_
    refine at_thn ?_
    refine wc_ret ?_
    refine at_ret1 rfl rfl ?_
    exact ⟨rfl, hP.size, fun b hb => by rw [Array.getElem?_eq_getElem hb]; exact hP.qu.mem (.inl (Array.getElem?_eq_getElem hb))⟩
end Go.Proofs.Ytfomnjippakjpaa
