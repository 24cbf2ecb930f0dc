/-
  Contracts of functions of the given program, at the blocks of memory that they read and write.
-/
import Derived.Test.YtfomnjippakjpaaQueue3
import Derived.Test.YtfomnjippakjpaaReady
import Derived.Test.YtfomnjippakjpaaQAbs
import Derived.Test.YtfomnjippakjpaaRows
namespace Go.Proofs.Ytfomnjippakjpaa
open Go.S
/-- Is the item's copy one that is wanted? -/
def Pc (S : QS) (P : CD → Bool) (a : It) : Bool := match S.cp a.s with | some d => P d | none => false
theorem Pc.eq {S : QS} {P : CD → Bool} {a : It} {d : CD} (h : S.cp a.s = some d) : Pc S P a = P d := by unfold Pc; rw [h]
def delAll {α : Type} (cp : Int → Option α) (ks : List Int) : Int → Option α := fun k => if k ∈ ks then none else cp k
/-- Wanted copies are taken out of the line: half way. -/
structure TakeI (f : Nat) (H : Heap) (B : QB) (S0 : QS) (Z : Int → Nat → Prop) (L : List It) (P : CD → Bool) (j : Nat) (H2 : Heap) (vo v : Value) (S : QS) (ds : List CD) (es : List (List Value)) : Prop where
  inv : QInv f H2 { B with v := v } S Z
  qa : QA S ((L.take j).filter (fun a => !Pc S0 P a) ++ L.drop j)
  cf : S.cf = S0.cf
  ou : S.ou = S0.ou
  last : S.last = S0.last
  tn : S.tn = S0.tn
  cp : S.cp = delAll S0.cp (((L.take j).filter (Pc S0 P)).map It.s)
  dsl : ds.map some = ((L.take j).filter (Pc S0 P)).map (fun a => S0.cp a.s)
  num : es.length = ds.length
  own : Own H2 35 25 vo ds.length es.flatten
  len : ∀ x ∈ es, x.length = 25
  rel : ∀ (i : Nat) (x : List Value) (d : CD), es[i]? = some x → ds[i]? = some d → RC f H2 (Z d.seq) x d
  young : ∀ g, vo.ownBlock = some g → H.size ≤ g ∧ ¬ ({ B with v := v } : QB).mut g
  frm : Frm B.mut H H2
  mv : mov H B.v v
  small : S.is.length ≤ 2097152
  zl : ∀ k b, Z k b → b < H.size
section
variable {f : Nat} {H : Heap} {B : QB} {S0 : QS} {Z : Int → Nat → Prop} {L : List It} {P : CD → Bool} {j : Nat} {H2 : Heap} {vo v : Value} {S : QS} {ds : List CD} {es : List (List Value)}
theorem IList.young {H H' : Heap} {v : Value} {js : List It} (h : IList H H' v js) : ∀ g, v.ownBlock = some g → H.size ≤ g := by
  rcases h with ⟨rfl, _⟩ | ⟨g, cap, cs, rfl, _, _, h1, _⟩
  · intro g e; simp [Value.ownBlock] at e
  · intro g' e; have : g = g' := Option.some.inj e; subst this; exact h1
theorem TakeI.start (h : QInv f H2 B S0 Z) (hA : QA S0 L) (hx : Ext H H2) (hz : ∀ k b, Z k b → b < H.size) (hs : S0.is.length ≤ 2097152) : TakeI f H B S0 Z L P 0 H2 (.slice none 0 0) B.v S0 [] [] :=
  ⟨h, by simpa using hA, rfl, rfl, rfl, rfl, by funext k; simp [delAll], by simp, rfl, Own.nil _ _ _, by simp, by simp, by simp [Value.ownBlock], hx.frm _, .inl rfl, hs, hz⟩
theorem TakeI.few (h : TakeI f H B S0 Z L P j H2 vo v S ds es) (hL : L.length ≤ 2097152) : ds.length ≤ 2097152 := by
  have h1 := congrArg List.length h.dsl
  simp only [List.length_map] at h1
  have := List.length_filter_le (Pc S0 P) (L.take j)
  have : (L.take j).length ≤ L.length := by simp; omega
  omega
theorem TakeI.ext (h : TakeI f H B S0 Z L P j H2 vo v S ds es) {H3 : Heap} (hx : Ext H2 H3) : TakeI f H B S0 Z L P j H3 vo v S ds es :=
  { h with inv := h.inv.ext hx, own := h.own.keep (fun g hg => hx.old g (h.own.lt hg)), rel := fun i x d hi hd => RC.mono f _ _ _ _ _ _ (fun b hb => hx.old b (h.inv.z _ b hb).1) (fun _ h => h) (h.rel i x d hi hd), frm := h.frm.trans (hx.frm _) }
theorem TakeI.base {H0 : Heap} (h : TakeI f H B S0 Z L P j H2 vo v S ds es) (hx : Ext H0 H) (hz : ∀ k b, Z k b → b < H0.size) : TakeI f H0 B S0 Z L P j H2 vo v S ds es :=
  { h with young := fun g hg => ⟨Nat.le_trans hx.size (h.young g hg).1, (h.young g hg).2⟩, frm := (hx.frm _).trans h.frm, mv := h.mv.mono hx.size, zl := hz }
theorem TakeI.mem (h : TakeI f H B S0 Z L P j H2 vo v S ds es) {a : It} (ha : L[j]? = some a) : a ∈ (L.take j).filter (fun a => !Pc S0 P a) ++ L.drop j := by
  have hlt := (List.getElem?_eq_some_iff.1 ha).1
  have he := (List.getElem?_eq_some_iff.1 ha).2
  refine List.mem_append_right _ ?_
  rw [List.drop_eq_getElem_cons hlt, he]; exact List.mem_cons_self ..
theorem TakeI.here (h : TakeI f H B S0 Z L P j H2 vo v S ds es) {a : It} (ha : L[j]? = some a) (hA : QA S0 L) : ∃ d, S0.cp a.s = some d ∧ d.seq = a.s ∧ S.cp a.s = some d := by
  obtain ⟨d, h1, h2, _⟩ := h.qa.cov a (h.mem ha)
  obtain ⟨d', k1, k2, _⟩ := hA.cov a (List.mem_of_getElem? ha)
  have h3 := h1
  rw [h.cp] at h3
  unfold delAll at h3
  split at h3
  · cases h3
  · rw [k1] at h3
    have := Option.some.inj h3
    subst this
    exact ⟨d', k1, k2, h1⟩
theorem take_one {a : It} (ha : L[j]? = some a) : L.take (j + 1) = L.take j ++ [a] ∧ L.drop j = a :: L.drop (j + 1) := by
  have hlt := (List.getElem?_eq_some_iff.1 ha).1
  have he := (List.getElem?_eq_some_iff.1 ha).2
  exact ⟨by rw [List.take_succ_eq_append_getElem hlt, he], by rw [List.drop_eq_getElem_cons hlt, he]⟩
theorem TakeI.skip (h : TakeI f H B S0 Z L P j H2 vo v S ds es) {a : It} (ha : L[j]? = some a) {d : CD} (hp : P d = false) (hd : S0.cp a.s = some d) : TakeI f H B S0 Z L P (j + 1) H2 vo v S ds es := by
  obtain ⟨h1, h2⟩ := take_one ha
  have h3 : Pc S0 P a = false := (Pc.eq hd).trans hp
  have h4 : (L.take (j + 1)).filter (Pc S0 P) = (L.take j).filter (Pc S0 P) := by rw [h1, List.filter_append]; simp [h3]
  have h5 : (L.take (j + 1)).filter (fun a => !Pc S0 P a) ++ L.drop (j + 1) = (L.take j).filter (fun a => !Pc S0 P a) ++ L.drop j := by rw [h1, h2, List.filter_append]; simp [h3]
  exact { h with qa := h5 ▸ h.qa, cp := by rw [h4]; exact h.cp, dsl := by rw [h4]; exact h.dsl }
/-- The item is out of the line and the copy out of the map; it is not in the row yet. -/
structure TakeM (f : Nat) (H : Heap) (B : QB) (S0 : QS) (Z : Int → Nat → Prop) (L : List It) (P : CD → Bool) (j : Nat) (H2 : Heap) (vo v : Value) (S : QS) (ds : List CD) (es : List (List Value)) : Prop where
  inv : QInv f H2 { B with v := v } S Z
  qa : QA S ((L.take (j + 1)).filter (fun a => !Pc S0 P a) ++ L.drop (j + 1))
  cf : S.cf = S0.cf
  ou : S.ou = S0.ou
  last : S.last = S0.last
  tn : S.tn = S0.tn
  cp : S.cp = delAll S0.cp (((L.take (j + 1)).filter (Pc S0 P)).map It.s)
  dsl : ds.map some = ((L.take j).filter (Pc S0 P)).map (fun a => S0.cp a.s)
  num : es.length = ds.length
  own : Own H2 35 25 vo ds.length es.flatten
  len : ∀ x ∈ es, x.length = 25
  rel : ∀ (i : Nat) (x : List Value) (d : CD), es[i]? = some x → ds[i]? = some d → RC f H2 (Z d.seq) x d
  young : ∀ g, vo.ownBlock = some g → H.size ≤ g ∧ ¬ ({ B with v := v } : QB).mut g
  frm : Frm B.mut H H2
  mv : mov H B.v v
  small : S.is.length ≤ 2097152
  zl : ∀ k b, Z k b → b < H.size
  few : ds.length ≤ 2097152
theorem filter_ne {X Y : List It} {a : It} (hn : ((X ++ a :: Y).map It.s).Nodup) : (X ++ a :: Y).filter (fun b => b.s != a.s) = X ++ Y := by
  rw [List.map_append, List.map_cons, List.nodup_append] at hn
  obtain ⟨h1, h2, h3⟩ := hn
  have h4 := List.nodup_cons.1 h2
  rw [List.filter_append, List.filter_cons]
  simp only [bne_self_eq_false, Bool.false_eq_true, if_false]
  congr 1
  · refine List.filter_eq_self.2 (fun b hb => ?_)
    have := h3 b.s (List.mem_map_of_mem hb) a.s (List.mem_cons_self ..)
    simpa using this
  · refine List.filter_eq_self.2 (fun b hb => ?_)
    have : b.s ≠ a.s := fun e => h4.1 (e ▸ List.mem_map_of_mem hb)
    simpa using this
theorem TakeI.took (h : TakeI f H B S0 Z L P j H2 vo v S ds es) (hL : L.length ≤ 2097152) {a : It} (ha : L[j]? = some a) {d : CD} (hp : P d = true) (hd0 : S0.cp a.s = some d) {js : List It} {v' : Value} {H3 H4 : Heap}
    (hv : mov H2 v v') (hg : Gone S.is a js) (hf : Frm (pm B.l v B.bm) H2 H3) (hi : QInv f H4 { B with v := v' } { S with is := js, cp := putF S.cp a.s none } Z) (hf4 : Frm ({ B with v := v' } : QB).mut H3 H4) :
    TakeM f H B S0 Z L P j H4 vo v' { S with is := js, cp := putF S.cp a.s none } ds es := by
  obtain ⟨h1, h2⟩ := take_one ha
  have h3 : Pc S0 P a = true := (Pc.eq hd0).trans hp
  have hs := h.frm.size
  have hmm : ∀ b, b < H2.size → ({ B with v := v' } : QB).mut b → ({ B with v := v } : QB).mut b := fun b hb hm => mut_mov (B := { B with v := v }) hv b hb hm
  have hmm0 : ∀ b, b < H.size → ({ B with v := v } : QB).mut b → B.mut b := mut_mov h.mv
  have hmv : mov H B.v v' := by
    rcases hv with e | ⟨g, e, hg'⟩
    · exact h.mv.imp (fun h => e.trans h) (fun ⟨g, h5, h6⟩ => ⟨g, e.trans h5, h6⟩)
    · exact .inr ⟨g, e, Nat.le_trans hs hg'⟩
  have hf3 : Frm ({ B with v := v } : QB).mut H2 H3 := hf.mono (fun b _ hb => pm_mut (B := { B with v := v }) b hb)
  have hfa : Frm ({ B with v := v } : QB).mut H2 H4 := hf3.trans' hf4 hmm
  have hkeep : ∀ g, vo.ownBlock = some g → H4[g]? = H2[g]? := fun g hg' => hfa.old g (h.own.lt hg') (h.young g hg').2
  have h5 : (L.take (j + 1)).filter (Pc S0 P) = (L.take j).filter (Pc S0 P) ++ [a] := by rw [h1, List.filter_append]; simp [h3]
  have h6 : (L.take (j + 1)).filter (fun a => !Pc S0 P a) = (L.take j).filter (fun a => !Pc S0 P a) := by rw [h1, List.filter_append]; simp [h3]
  have hqa := h.qa.gone (h.mem ha) hg hi.pile.nodup
  rw [h2, filter_ne (by rw [← h2]; exact h.qa.line.nod)] at hqa
  refine ⟨hi, ?_, h.cf, h.ou, h.last, h.tn, ?_, h.dsl, h.num, h.own.keep hkeep, h.len, fun i x d hi' hd' => ?_, fun g hg' => ⟨(h.young g hg').1, fun hm => (h.young g hg').2 (hmm g (h.own.lt hg') hm)⟩, h.frm.trans' hfa hmm0, hmv, ?_, h.zl, h.few hL⟩
  · rw [h6]; exact hqa
  · show putF S.cp a.s none = _
    rw [h.cp, h5]
    funext k
    unfold putF delAll
    by_cases e : k = a.s
    · simp [e]
    · simp only [e, if_false, List.map_append, List.mem_append, List.map_cons, List.map_nil, List.mem_singleton, or_false]
  · refine RC.mono f _ _ _ _ _ _ (fun b hb => hfa.old b (h.inv.z _ b hb).1 (h.inv.z _ b hb).2) (fun _ h => h) (h.rel i x d hi' hd')
  · have := hg.len; have := h.small; show js.length ≤ _; omega
theorem TakeM.put (h : TakeM f H B S0 Z L P j H2 vo v S ds es) {a : It} (ha : L[j]? = some a) {d : CD} (hp : P d = true) (hd0 : S0.cp a.s = some d) (hds : d.seq = a.s) {H3 H4 : Heap} {vo' : Value} {x : List Value} (hx : Ext H2 H3) (hr : RC f H2 (Z a.s) x d)
    (ho : Own H4 35 25 vo' (ds.length + 1) (es.flatten ++ x)) (hg : Grw H3 H4 vo.ownBlock) (hw : vo'.ownBlock = vo.ownBlock ∨ vo'.ownBlock = some H3.size) : TakeI f H B S0 Z L P (j + 1) H4 vo' v S (ds ++ [d]) (es ++ [x]) := by
  obtain ⟨h1, h2⟩ := take_one ha
  have h3 : Pc S0 P a = true := (Pc.eq hd0).trans hp
  have h5 : (L.take (j + 1)).filter (Pc S0 P) = (L.take j).filter (Pc S0 P) ++ [a] := by rw [h1, List.filter_append]; simp [h3]
  have hs := h.frm.size
  have hfw : Frm (fun b => vo.ownBlock = some b) H2 H4 := ⟨Nat.le_trans hx.size hg.1, fun b hb hn => (hg.2 b (Nat.lt_of_lt_of_le hb hx.size) (fun e => hn e.symm)).trans (hx.old b hb)⟩
  have hnz : ∀ k b, Z k b → ¬ vo.ownBlock = some b := fun k b hz e => by have := h.zl k b hz; have := (h.young b e).1; omega
  have hzk : ∀ k b, Z k b → H4[b]? = H2[b]? := fun k b hz => hfw.old b (h.inv.z k b hz).1 (hnz k b hz)
  refine ⟨h.inv.frm hfw (fun b hb e => ?_), h.qa, h.cf, h.ou, h.last, h.tn, h.cp, ?_, by simp [h.num], by simpa using ho, ?_, ?_, ?_, h.frm.trans' hfw (fun b hb e => absurd hb (by have := (h.young b e).1; omega)), h.mv, h.small, h.zl⟩
  · rcases hb with hb | ⟨k, hb⟩
    · exact (h.young b e).2 hb
    · exact hnz k b hb e
  · rw [h5, List.map_append, List.map_append, h.dsl]; simp [hd0]
  · intro y hy
    rcases List.mem_append.1 hy with hy | hy
    · exact h.len y hy
    · simp at hy; subst hy; exact hr.len
  · intro i y c hi hc
    have hn := h.num
    rcases Nat.lt_or_ge i es.length with hlt | hge
    · rw [List.getElem?_append_left hlt] at hi
      rw [List.getElem?_append_left (by omega)] at hc
      exact RC.mono f _ _ _ _ _ _ (fun b hb => hzk _ b hb) (fun _ h => h) (h.rel i y c hi hc)
    · have : i = es.length := by
        have := (List.getElem?_eq_some_iff.1 hi).1
        simp at this; omega
      subst this
      simp at hi
      rw [hn] at hc
      simp at hc
      subst hi; subst hc
      rw [hds]
      exact RC.mono f _ _ _ _ _ _ (fun b hb => hzk _ b hb) (fun _ h => h) hr
  · intro g hg'
    rcases hw with hw | hw
    · exact h.young g (hw ▸ hg')
    · rw [hw] at hg'
      have e := Option.some.inj hg'
      have h6 := hx.size
      refine ⟨by omega, fun hm => ?_⟩
      have := h.inv.lt hm
      omega
end

set_option maxRecDepth 100000 in
theorem take34 (f : Nat) (H : Heap) (B : QB) (S0 : QS) (Z : Int → Nat → Prop) (js : List It) (g : Nat) (caps : List Value) (P : CD → Bool) (K : Heap → Prop) (h : QInv f H B S0 Z) (hA : QA S0 js) (hlim : S0.is.length ≤ 2097152)
    (hent : ∀ A w, (callFunc g A).run Try.prog w = .ok (.enter g A) w) (hK : ∀ H', Frm B.mut H H' → K H')
    (hcan : ∀ (H' : Heap) (Z : Nat → Prop) (cs : List Value) (d : CD), RC f H' Z cs d → K H' → FN Try.prog g ([.agg cs.toArray] ++ caps) H' (fun r H'' => r = .bool (P d) ∧ Ext H' H'')) :
    FN Try.prog 34 [(.pointer (some ⟨B.q, 0, none⟩)), .func (.func g) #[] caps.toArray] H (fun r H' => ∃ v S ds es, TakeI f H B S0 Z js P js.length H' r v S ds es) := by
  have hq0 := h.q
  refine fn_intro 42 Try.func34 rfl Try.ntmps34 rfl ?_
  refine wc_seq ?_
  refine wc_plain ?_
  refine wf_rd _ rfl rfl (RD.assign rfl) rfl ?_
  refine wf_nil ?_
  refine at_thn ?_
  refine wc_seq ?_
  refine wc_seq ?_
  refine wc_plain ?_
  refine wf_rd _ rfl rfl (RD.move rfl) rfl ?_
  refine wf_rd _ rfl rfl (RD.nilCheck rfl) rfl ?_
  refine wf_rd _ rfl rfl (RD.field rfl Try.underlying63 rfl Try.sizeOf59) rfl ?_
  refine wf_rd _ rfl rfl (RD.load rfl (LD.one Try.isAgg59 hq0 rfl)) rfl ?_
  refine wf_call rfl en27 rfl rfl (items27 H B.l B.bm B.v S0.is h.pile hlim) ?_
  rintro r11 H1 ⟨js', hpm, hil, hI, hx0⟩
  obtain rfl : js = js' := inl_unique (hA.line.perm.trans hpm.symm) hA.line.sorted hil hA.line.nod
  have hyg : ∀ g, r11.ownBlock = some g → H.size ≤ g := hI.young
  obtain ⟨p, c, rfl, hrow⟩ := hI.row
  have hyg : ∀ g, p = some ⟨g, 0, none⟩ → H.size ≤ g := fun g e => hyg g (by rw [e]; rfl)
  have hjl : js.length ≤ 2097152 := by rw [hpm.length_eq]; exact hlim
  refine ⟨trivial, ?_⟩
  refine wf_rd _ rfl rfl (RD.lenSl rfl Try.underlying66) rfl ?_
  refine wf_rd _ rfl rfl (RD.move rfl) rfl ?_
  refine wf_nil ?_
  refine at_thn ?_
  refine wc_block ?_
  refine wc_loop (fun i : Nat × Value => [(0, (.pointer (some ⟨B.q, 0, none⟩))), (1, .func (.func g) #[] caps.toArray), (4, i.2), (11, .slice p js.length c), (12, .int .i64 js.length), (13, .int .i64 (i.1 : Int))]) (fun i H2 => i.1 ≤ js.length ∧ ∃ v S ds es, TakeI f H1 B S0 Z js P i.1 H2 i.2 v S ds es) (fun i => js.length - i.1) (0, .slice none 0 0) ⟨rfl, rfl, rfl, rfl, rfl, rfl, trivial⟩ ⟨Nat.zero_le _, _, _, _, _, TakeI.start (h.ext hx0) hA (Ext.refl _) (fun k b hb => Nat.lt_of_lt_of_le (h.z k b hb).1 hx0.size) hlim⟩ ?_
  rintro ⟨j, vo⟩ H2 ⟨hj, v, S, ds, es, hT⟩
  dsimp only at hj hT
  show WC _ _ _ _ [(0, (.pointer (some ⟨B.q, 0, none⟩))), (1, .func (.func g) #[] caps.toArray), (4, vo), (11, .slice p js.length c), (12, .int .i64 js.length), (13, .int .i64 (j : Int))] H2
  refine wc_seq ?_
  refine wc_plain ?_
  refine wf_rd _ rfl rfl (RD.cmp _ rfl rfl rfl) rfl ?_
  refine wf_nil ?_
  refine at_thn ?_
  refine wc_seq ?_
  refine wc_cond rfl (fun hc14 => ?_) (fun hc14 => ?_)
  ·
    have hlt : j < js.length := by simpa using hc14
    obtain ⟨a, haj⟩ : ∃ a, js[j]? = some a := ⟨_, List.getElem?_eq_getElem hlt⟩
    obtain ⟨g0, cs, hpg, hg0, hr⟩ := hrow j a haj
    subst hpg
    have hg := hT.frm.keep hg0 (fun hm => by have := h.lt hm; have := hyg g0 rfl; omega)
    obtain ⟨d, hd0, hds, hd⟩ := hT.here haj hA
    refine wc_skip ?_
    refine at_thn ?_
    refine wc_seq ?_
    refine wc_block ?_
    refine wc_seq ?_
    refine wc_plain ?_
    refine wf_rd _ rfl rfl (RD.indexN rfl rfl Try.underlying66 Try.sizeOf69 hlt) rfl ?_
    refine wf_rd _ rfl rfl (RD.load rfl (LD.el Try.isAgg69 Try.sizeOf69 hg (hr.at haj))) rfl ?_
    refine wf_alloc Try.zeroValue69 rfl rfl rfl (fun b6 H12 e6 z12 hb6 hk12 => ⟨trivial, ?_⟩)
    refine wf_storeA rfl rfl Try.sizeOf69 rfl hb6 a.ones rfl (fun H13 z13 hx13 hk13 => ⟨trivial, ?_⟩)
    replace hb6 := hx13
    have hlt2 : ∀ b, ({ B with v := v } : QB).mut b → b < H2.size := fun b hb => hT.inv.lt hb
    have hx13 : Ext H2 H13 := (Ext.new z12 hk12).wrote z13 hk13 (by omega)
    replace hT := hT.ext hx13
    obtain ⟨ec, cc, hcp, hcM, hcC⟩ := hT.inv.cp
    obtain ⟨csd, hck, hcr⟩ := hcC.get hd
    refine wf_nil ?_
    refine at_thn ?_
    refine wc_seq ?_
    refine wc_drawn [(0, 0), (1, 0), (2, 0), (3, 0), (4, 0), (5, 0), (6, 0), (7, 0), (8, 3)] (fun _ => True) (by kernel_rfl) (by kernel_rfl) trivial ?_
    refine wf_rd _ rfl rfl (RD.move rfl) rfl ?_
    refine wf_rd _ rfl rfl (RD.move rfl) rfl ?_
    refine wf_rd _ rfl rfl (RD.nilCheck rfl) rfl ?_
    refine wf_rd _ rfl rfl (RD.field rfl Try.underlying63 rfl Try.sizeOf58) rfl ?_
    refine wf_rd _ rfl rfl (RD.load rfl (LD.one Try.isAgg58 hT.inv.q rfl)) rfl ?_
    refine wf_rd _ rfl rfl (RD.field rfl Try.underlying69 rfl Try.sizeOf3) rfl ?_
    refine wf_rd _ rfl rfl (RD.load rfl (LD.one Try.isAgg3 hb6 rfl)) rfl ?_
    refine wf_rd _ rfl rfl (RD.lkY (k := a.s) rfl rfl Try.underlying58 Try.underlying3 hcp hcM hck) rfl ?_
    refine wf_callv (caps := caps) rfl rfl hent rfl rfl (hcan H13 (Z a.s) _ d hcr (hK H13 ((hx0.frm _).trans hT.frm))) ?_
    rintro _ H5 ⟨rfl, hx5⟩
    replace hT := hT.ext hx5
    replace hb6 := hx5.keep hb6
    refine ⟨trivial, ?_⟩
    refine wf_nil ?_
    refine at_thn ?_
    refine wc_cond rfl (fun hc25 => ?_) (fun hc25 => ?_)
    ·
      have hpd : P d = true := hc25
      refine wc_seq ?_
      refine wc_drawn [(0, 0), (1, 0), (2, 0), (3, 0), (4, 0), (5, 0), (6, 3)] (fun _ => True) (by kernel_rfl) (by kernel_rfl) trivial ?_
      refine wf_rd _ rfl rfl (RD.move rfl) rfl ?_
      refine wf_rd _ rfl rfl (RD.nilCheck rfl) rfl ?_
      refine wf_rd _ rfl rfl (RD.field rfl Try.underlying63 rfl Try.sizeOf59) rfl ?_
      refine wf_rd _ rfl rfl (RD.load rfl (LD.one Try.isAgg59 hT.inv.q rfl)) rfl ?_
      refine wf_rd _ rfl rfl (RD.field rfl Try.underlying69 rfl Try.sizeOf3) rfl ?_
      refine wf_rd _ rfl rfl (RD.load rfl (LD.one Try.isAgg3 hb6 rfl)) rfl ?_
      obtain ⟨i, hai⟩ := List.getElem?_of_mem (hT.qa.mem.2 (hT.mem haj))
      refine wf_call rfl en51 rfl rfl (take51 H5 B.l B.bm v S.is i a hT.inv.pile hT.inv.heap hai (by have := hT.small; omega)) ?_
      rintro _ H6 ⟨js', v', rfl, hv', hp6, hg6, hf6⟩
      have hB6 := hT.inv.pileTo hv' hp6 hg6.heap hf6
      replace hb6 := hf6.keep hb6 (fun hm => by have := hlt2 _ (pm_mut (B := { B with v := v }) _ hm); omega)
      refine ⟨trivial, ?_⟩
      refine wf_nil ?_
      refine at_thn ?_
      refine wc_plain ?_
      refine wf_rd _ rfl rfl (RD.move rfl) rfl ?_
      refine wf_rd _ rfl rfl (RD.move rfl) rfl ?_
      refine wf_rd _ rfl rfl (RD.field rfl Try.underlying69 rfl Try.sizeOf3) rfl ?_
      refine wf_rd _ rfl rfl (RD.load rfl (LD.one Try.isAgg3 hb6 rfl)) rfl ?_
      refine wf_call rfl en33 rfl rfl (leave33 f H6 { B with v := v' } _ Z a.s d hB6 hd) ?_
      rintro _ H7 ⟨csd7, rfl, hrc7, hB7, hf7⟩
      refine ⟨trivial, ?_⟩
      have hT7 := hT.took hjl haj hpd hd0 hv' hg6 hf6 hB7 hf7
      refine wf_mkSlice1 el24 rfl rfl hrc7.len rfl rfl rfl (fun b38 H8 e8 z8 hb38 hk8 => ⟨trivial, ?_⟩)
      refine wf_append (news := csd7) el24 rfl rfl (hT7.own.keep (fun g hg => hk8 g (hT7.own.lt hg))) hb38 (by rw [List.drop_zero, List.take_of_length_le (by simp [hrc7.len])]) (by simp [hrc7.len]) hrc7.one (by have := hT7.few; omega) (by have := hT7.few; omega) rfl rfl (fun vo9 H9 ho9 hg9 hw9 => ⟨trivial, ?_⟩)
      have hT9 := hT7.put haj hpd hd0 hds (Ext.new z8 hk8) hrc7 ho9 hg9 hw9
      refine wf_rd _ rfl rfl (RD.assign rfl) rfl ?_
      refine wf_nil ?_
      refine at_inB ?_
      refine at_thn ?_
      refine wc_plain ?_
      refine wf_rd _ rfl rfl (RD.add64 rfl rfl (by omega)) rfl ?_
      refine wf_rd _ rfl rfl (RD.move rfl) rfl ?_
      refine wf_nil ?_
      first
        | exact at_lp (j + 1, vo9) (by dsimp only; omega) ⟨rfl, rfl, rfl, rfl, rfl, rfl, trivial⟩ ⟨by dsimp only; omega, _, _, _, _, hT9⟩
        | exact at_lp (j + 1, vo) (by dsimp only; omega) ⟨rfl, rfl, rfl, rfl, rfl, rfl, trivial⟩ ⟨by dsimp only; omega, _, _, _, _, hT9⟩
    ·
      have hpd : P d = false := hc25
      have hT9 := hT.skip haj hpd hd0
      refine wc_skip ?_
      refine at_inB ?_
      refine at_thn ?_
      refine wc_plain ?_
      refine wf_rd _ rfl rfl (RD.add64 rfl rfl (by omega)) rfl ?_
      refine wf_rd _ rfl rfl (RD.move rfl) rfl ?_
      refine wf_nil ?_
      first
        | exact at_lp (j + 1, vo9) (by dsimp only; omega) ⟨rfl, rfl, rfl, rfl, rfl, rfl, trivial⟩ ⟨by dsimp only; omega, _, _, _, _, hT9⟩
        | exact at_lp (j + 1, vo) (by dsimp only; omega) ⟨rfl, rfl, rfl, rfl, rfl, rfl, trivial⟩ ⟨by dsimp only; omega, _, _, _, _, hT9⟩
  ·
    have : j = js.length := by
      have : ¬ j < js.length := by simpa using hc14
      omega
    subst this
    refine wc_exit ?_
    refine at_thn_exit ?_
    refine at_lp_exit ?_
    refine at_inB_out ?_
    refine at_thn ?_
    refine wc_seq ?_
    refine wc_plain ?_
    refine wf_rd _ rfl rfl (RD.move rfl) rfl ?_
    refine wf_rd _ rfl rfl (RD.assign rfl) rfl ?_
    refine wf_nil ?_
    refine at_thn ?_
    refine wc_ret ?_
    refine at_ret1 rfl rfl ?_
    exact ⟨_, _, _, _, hT.base hx0 (fun k b hb => (h.z k b hb).1)⟩
end Go.Proofs.Ytfomnjippakjpaa
