/-
  Contracts of functions of the given program, at the blocks of memory that they read and write.
-/
import Derived.Test.YtfomnjippakjpaaTake
import Derived.Test.YtfomnjippakjpaaQu
import Derived.Test.YtfomnjippakjpaaRows
namespace Go.Proofs.Ytfomnjippakjpaa
open Go.S

def exP (now : Int) (d : CD) : Bool := decide (d.expiry ≥ 0) && decide (d.expiry ≤ now)
set_option maxRecDepth 100000 in
theorem closure35 (f : Nat) (H : Heap) (Z : Nat → Prop) (bn : Nat) (cs : List Value) (d : CD) (now : Int) (hc : RC f H Z cs d) (hn : H[bn]? = some (.cells [.int .i64 now].toArray 3 (0, 0))) :
    FN Try.prog 35 ([.agg cs.toArray] ++ [.pointer (some ⟨bn, 0, none⟩)]) H (fun r H' => r = .bool (exP now d) ∧ Ext H H') := by
  obtain ⟨hh, ht, rfl, _⟩ := hc
  show FN Try.prog 35 [.agg (d.cells hh ht).toArray, .pointer (some ⟨bn, 0, none⟩)] H _
  by_cases h0 : d.expiry ≥ 0
  · rw [show exP now d = decide (d.expiry ≤ now) by unfold exP; rw [decide_eq_true h0, Bool.true_and]]
    refine fn_intro 15 Try.func35 rfl Try.ntmps35 rfl ?_
    refine wc_seq ?_
    refine wc_plain ?_
    refine wf_box rfl rfl rfl rfl (fun b2 H1 e2 z1 hb2 hk1 => ⟨trivial, ?_⟩)
    have n2_hn := ne_new hn e2
    replace hn := (hk1 _ (lt_of hn)).trans hn
    refine wf_rd _ rfl rfl (RD.assign rfl) rfl ?_
    refine wf_nil ?_
    refine at_thn ?_
    refine wc_seq ?_
    refine wc_plain ?_
    refine wf_rd _ rfl rfl (RD.field rfl Try.underlying35 rfl Try.sizeOf33) rfl ?_
    refine wf_rd _ rfl rfl (RD.field rfl Try.underlying33 rfl Try.sizeOf3) rfl ?_
    refine wf_rd _ rfl rfl (RD.load rfl (LD.one Try.isAgg3 hb2 rfl)) rfl ?_
    refine wf_rd _ rfl rfl (RD.cmp true rfl rfl (congrArg some (decide_eq_true h0))) rfl ?_
    refine wf_rd _ rfl rfl (RD.move rfl) rfl ?_
    refine wf_rd _ rfl rfl (RD.field rfl Try.underlying35 rfl Try.sizeOf33) rfl ?_
    refine wf_rd _ rfl rfl (RD.field rfl Try.underlying33 rfl Try.sizeOf3) rfl ?_
    refine wf_rd _ rfl rfl (RD.load rfl (LD.one Try.isAgg3 hb2 rfl)) rfl ?_
    refine wf_rd _ rfl rfl (RD.load rfl (LD.one Try.isAgg3 hn rfl)) rfl ?_
    refine wf_rd _ rfl rfl (RD.cmp _ rfl rfl rfl) rfl ?_
    refine wf_rd _ rfl rfl (RD.pickT rfl rfl) rfl ?_
    refine wf_rd _ rfl rfl (RD.assign rfl) rfl ?_
    refine wf_nil ?_
    refine at_thn ?_
    refine wc_ret ?_
    refine at_ret1 rfl rfl ?_
    exact ⟨rfl, Ext.new z1 hk1⟩
  · rw [show exP now d = false by unfold exP; rw [decide_eq_false h0, Bool.false_and]]
    refine fn_intro 15 Try.func35 rfl Try.ntmps35 rfl ?_
    refine wc_seq ?_
    refine wc_plain ?_
    refine wf_box rfl rfl rfl rfl (fun b2 H1 e2 z1 hb2 hk1 => ⟨trivial, ?_⟩)
    have n2_hn := ne_new hn e2
    replace hn := (hk1 _ (lt_of hn)).trans hn
    refine wf_rd _ rfl rfl (RD.assign rfl) rfl ?_
    refine wf_nil ?_
    refine at_thn ?_
    refine wc_seq ?_
    refine wc_plain ?_
    refine wf_rd _ rfl rfl (RD.field rfl Try.underlying35 rfl Try.sizeOf33) rfl ?_
    refine wf_rd _ rfl rfl (RD.field rfl Try.underlying33 rfl Try.sizeOf3) rfl ?_
    refine wf_rd _ rfl rfl (RD.load rfl (LD.one Try.isAgg3 hb2 rfl)) rfl ?_
    refine wf_rd _ rfl rfl (RD.cmp false rfl rfl (congrArg some (decide_eq_false h0))) rfl ?_
    refine wf_rd _ rfl rfl (RD.move rfl) rfl ?_
    refine wf_not rfl rfl rfl ?_
    refine wf_not rfl rfl rfl ?_
    refine wf_not rfl rfl rfl ?_
    refine wf_not rfl rfl rfl ?_
    refine wf_not rfl rfl rfl ?_
    refine wf_rd _ rfl rfl (RD.pickF rfl rfl) rfl ?_
    refine wf_rd _ rfl rfl (RD.assign rfl) rfl ?_
    refine wf_nil ?_
    refine at_thn ?_
    refine wc_ret ?_
    refine at_ret1 rfl rfl ?_
    exact ⟨rfl, Ext.new z1 hk1⟩
set_option maxRecDepth 100000 in
theorem expire17 (f : Nat) (H : Heap) (B : QB) (S : QS) (Z : Int → Nat → Prop) (L : List It) (now : Int) (h : QInv f H B S Z) (hA : QA S L) (hlim : S.is.length ≤ 2097152) :
    FN Try.prog 17 [(.pointer (some ⟨B.q, 0, none⟩)), .int .i64 now] H (fun r H' => ∃ v S' ds es, TakeI f H B S Z L (exP now) L.length H' r v S' ds es) := by
  refine fn_intro 8 Try.func17 rfl Try.ntmps17 rfl ?_
  refine wc_seq ?_
  refine wc_plain ?_
  refine wf_box rfl rfl rfl rfl (fun b3 H1 e3 z1 hb3 hk1 => ⟨trivial, ?_⟩)
  refine wf_rd _ rfl rfl (RD.assign rfl) rfl ?_
  refine wf_nil ?_
  refine at_thn ?_
  refine wc_seq ?_
  refine wc_plain ?_
  refine wf_rd _ rfl rfl (RD.move rfl) rfl ?_
  refine wf_rd _ rfl rfl (RD.mkFunc rfl) rfl ?_
  have hx1 := Ext.new z1 hk1
  refine wf_call rfl en34 rfl rfl (take34 f H1 B S Z L 35 [.pointer (some ⟨b3, 0, none⟩)] (exP now) (fun H' => H'[b3]? = some (.cells [.int .i64 now].toArray 3 (0, 0))) (h.ext hx1) hA hlim en35 (fun H' hf => hf.keep hb3 (fun hm => by have := h.lt hm; omega)) (fun H' Z cs d hrc hk => closure35 f H' Z b3 cs d now hrc hk)) ?_
  rintro r H2 ⟨v, S', ds, es, hT⟩
  refine ⟨trivial, ?_⟩
  refine wf_rd _ rfl rfl (RD.assign rfl) rfl ?_
  refine wf_nil ?_
  refine at_thn ?_
  refine wc_ret ?_
  refine at_ret1 rfl rfl ?_
  exact ⟨v, S', ds, es, hT.base hx1 (fun k b hb => (h.z k b hb).1)⟩

/-! ### in the words of states -/
section
variable {f : Nat} {D : Nat → Obj → Prop} {H : Heap} {q : Nat} {A : AS}
/-- Copies that went, and where they lie now. -/
def handed (D : Nat → Obj → Prop) (H' : Heap) (Y : Nat → Prop) : Nat → Obj → Prop := fun b o => D b o ∨ (Y b ∧ H'[b]? = some o)
theorem quHand {B' : QB} {S' : QS} {Z : Int → Nat → Prop} {H' : Heap} {A' : AS} (ks : Int → Prop) (hinv : QInv f H' B' S' Z) (hqa : QA S' A'.L) (h1 : S'.cf = A'.cf) (h2 : S'.cp = A'.cp) (h3 : S'.ou = A'.ou) (h4 : S'.last = A'.last) (h5 : S'.tn = A'.tn)
    (hgone : ∀ k, ks k → S'.cp k = none) (hd : ∀ b o, D b o → H'[b]? = some o ∧ ¬ B'.mut b ∧ ¬ zn Z b) : Qu f (handed D H' (fun b => ∃ k, ks k ∧ Z k b)) H' B'.q A' := by
  refine ⟨B', S', fun k b => ¬ ks k ∧ Z k b, rfl, ⟨hinv.shrink (fun k b hk hz => ⟨fun e => hk (hgone k e), hz⟩) (fun k b h => h.2), hqa, h1, h2, h3, h4, h5, ?_⟩⟩
  rintro b o (hb | ⟨⟨k, hk, hz⟩, ho⟩)
  · obtain ⟨e1, e2, e3⟩ := hd b o hb
    exact ⟨e1, e2, fun ⟨k, _, hz⟩ => e3 ⟨k, hz⟩⟩
  · exact ⟨ho, (hinv.z k b hz).2, fun ⟨k', hk', hz'⟩ => hk' ((hinv.zd k k' b hz hz') ▸ hk)⟩
theorem u9_none (h : Qu f D H q A) (hL : A.L = []) : FN Try.prog 9 [.pointer (some ⟨q, 0, none⟩)] H (fun r H' => r = .tuple [.agg zcells.toArray, .bool false].toArray ∧ Ext H H') := by
  obtain ⟨B, S, Y, rfl, h⟩ := h
  refine pop9_none f H B S Y h.inv ?_
  have := h.qa.line.perm.length_eq
  rw [hL] at this
  exact List.eq_nil_of_length_eq_zero this.symm
theorem u12_none (h : Qu f D H q A) {k : Int} (hk : k ∉ A.ou) : FN Try.prog 12 [.pointer (some ⟨q, 0, none⟩), .int .i64 k] H (fun r H' => r = .bool false ∧ Ext H H') := by
  obtain ⟨B, S, Y, rfl, h⟩ := h
  exact return12_none f H B S Y k h.inv (h.ou ▸ hk)
theorem u16_none (h : Qu f D H q A) {k : Int} (hk : k ∉ A.ou) : FN Try.prog 16 [.pointer (some ⟨q, 0, none⟩), .int .i64 k] H (fun r H' => r = .tuple [.agg zcells.toArray, .bool false].toArray ∧ Ext H H') := by
  obtain ⟨B, S, Y, rfl, h⟩ := h
  exact settle16_none f H B S Y k h.inv (h.ou ▸ hk)
theorem u16 (h : Qu f D H q A) {k : Int} (hk : k ∈ A.ou) : FN Try.prog 16 [.pointer (some ⟨q, 0, none⟩), .int .i64 k] H (fun r H' => ∃ (cs : List Value) (d : CD) (Zk : Nat → Prop), r = .tuple [.agg cs.toArray, .bool true].toArray ∧ A.cp k = some d ∧ d.seq = k ∧ RC f H' Zk cs d ∧
    Qu f (handed D H' Zk) H' q { A with ou := A.ou.erase k, cp := putF A.cp k none } ∧ H.size ≤ H'.size ∧ (∀ b, Zk b → b < H.size)) := by
  obtain ⟨B, S, Y, rfl, h⟩ := h
  have hk' : k ∈ S.ou := h.ou ▸ hk
  obtain ⟨d, hd, hds⟩ := h.qa.covo k hk'
  obtain ⟨_, _, _, _, ho⟩ := h.inv.ou
  refine (settle16 f H B S Y k d h.inv hd hk').mono ?_
  rintro r H' ⟨cs, rfl, hrc, hi, hf⟩
  have hQ := quHand (D := D) (A' := { A with ou := A.ou.erase k, cp := putF A.cp k none }) (fun k' => k' = k) hi (h.qa.settle hk' ho.2.2) h.cf (by show putF S.cp k none = _; rw [h.cp]) (by show S.ou.erase k = _; rw [h.ou]) h.last h.tn (fun k' e => by subst e; simp [putF]) (dstep h.d hf (fun _ _ h => h) (fun _ _ h => .inl h))
  exact ⟨cs, d, Y k, rfl, h.cp ▸ hd, hds, hrc, hQ.weak (fun b o hb => hb.imp id (fun ⟨hz, ho⟩ => ⟨⟨k, rfl, hz⟩, ho⟩)), hf.size, fun b hb => (h.inv.z k b hb).1⟩
/-- Too many are ready: the head goes. -/
theorem u15 (h : Qu f D H q A) {a : It} {L : List It} (hL : A.L = a :: L) (hpos : 0 ≤ A.cf.maxlen) (hmany : A.cf.maxlen < (A.L.length : Int)) (hlt : A.L.length ≤ 4194304) :
    FN Try.prog 15 [.pointer (some ⟨q, 0, none⟩)] H (fun r H' => ∃ (cs : List Value) (d : CD) (Zk : Nat → Prop), r = .tuple [.agg cs.toArray, .bool true].toArray ∧ A.cp a.s = some d ∧ d.seq = a.s ∧ RC f H' Zk cs d ∧
    Qu f (handed D H' Zk) H' q { A with L := L, cp := putF A.cp a.s none } ∧ H.size ≤ H'.size ∧ (∀ b, Zk b → b < H.size)) := by
  obtain ⟨B, S, Y, rfl, h⟩ := h
  have hqa := h.qa
  rw [hL] at hqa
  have hll : S.is.length = A.L.length := h.qa.line.perm.length_eq.symm
  obtain ⟨b, hb⟩ : ∃ b, S.is[0]? = some b := ⟨_, List.getElem?_eq_getElem (by rw [hll, hL]; simp)⟩
  have hba : b = a := by
    have hfirst := h.inv.heap.head (Nat.le_refl _) hb
    have hbm := hqa.mem.1 (List.mem_of_getElem? hb)
    have ham := hqa.mem.2 (List.mem_cons_self ..)
    obtain ⟨k, hk⟩ := List.getElem?_of_mem ham
    have h1 := hfirst k a (List.getElem?_eq_some_iff.1 hk).1 hk
    rcases List.mem_cons.1 hbm with e | hbm
    · exact e
    · have h3 := (List.pairwise_cons.1 hqa.line.sorted).1 b hbm
      have hs : a.s ≠ b.s := fun e => (List.nodup_cons.1 hqa.line.nod).1 (e ▸ List.mem_map_of_mem hbm)
      rcases ahd_total hs with h4 | h4
      · rw [h1] at h4; cases h4
      · rw [h3] at h4; cases h4
  subst hba
  obtain ⟨d, hd, hds, _⟩ := hqa.cov b (List.mem_cons_self ..)
  refine (over15 f H B S Y b d h.inv (h.cf ▸ hpos) (by rw [hll, h.cf]; exact hmany) hb hd (by omega)).mono ?_
  rintro r H' ⟨cs, js, v', rfl, hrc, hg, hi, hm, hf⟩
  have hqa' := hqa.gone (List.mem_cons_self ..) hg hi.pile.nodup
  have efl : (b :: L).filter (fun x => x.s != b.s) = L := filter_ne (X := []) (a := b) (Y := L) hqa.line.nod
  rw [efl] at hqa'
  have hQ := quHand (D := D) (A' := { A with L := L, cp := putF A.cp b.s none }) (fun k' => k' = b.s) hi hqa' h.cf (by show putF S.cp b.s none = _; rw [h.cp]) h.ou h.last h.tn (fun k' e => by subst e; simp [putF]) (dstep h.d hf (mut_mov hm) (fun _ _ h => .inl h))
  exact ⟨cs, d, Y b.s, rfl, h.cp ▸ hd, hds, hrc, hQ.weak (fun b' o hb' => hb'.imp id (fun ⟨hz, ho⟩ => ⟨⟨b.s, rfl, hz⟩, ho⟩)), hf.size, fun b' hb' => (h.inv.z _ b' hb').1⟩
theorem u15_none (h : Qu f D H q A) (hno : A.cf.maxlen < 0 ∨ (A.L.length : Int) ≤ A.cf.maxlen) : FN Try.prog 15 [.pointer (some ⟨q, 0, none⟩)] H (fun r H' => r = .tuple [.agg zcells.toArray, .bool false].toArray ∧ Ext H H') := by
  obtain ⟨B, S, Y, rfl, h⟩ := h
  have hll : S.is.length = A.L.length := h.qa.line.perm.length_eq.symm
  by_cases h0 : A.cf.maxlen < 0
  · exact over15_neg f H B S Y h.inv (h.cf ▸ h0)
  · exact over15_few f H B S Y h.inv (by rw [h.cf]; omega) (by rw [hll, h.cf]; exact hno.resolve_left h0)
/-- Is the item's copy one that is wanted? -/
def pcA (cp : Int → Option CD) (P : CD → Bool) (a : It) : Bool := match cp a.s with | some d => P d | none => false
/-- What is wanted is taken. -/
theorem uTake {B : QB} {S : QS} {Y : Int → Nat → Prop} (h : QuB f D H A B S Y) {P : CD → Bool} {H' : Heap} {r v : Value} {S' : QS} {ds : List CD} {es : List (List Value)} (hT : TakeI f H B S Y A.L P A.L.length H' r v S' ds es) :
    ds.map some = (A.L.filter (pcA A.cp P)).map (fun a => A.cp a.s) ∧ es.length = ds.length ∧ Own H' 35 25 r ds.length es.flatten ∧ (∀ x ∈ es, x.length = 25) ∧ (∀ g, r.ownBlock = some g → H.size ≤ g) ∧ H.size ≤ H'.size ∧
    ∃ Zs : Int → Nat → Prop, (∀ (i : Nat) (x : List Value) (d : CD), es[i]? = some x → ds[i]? = some d → RC f H' (Zs d.seq) x d) ∧ (∀ k b, Zs k b → b < H.size) ∧
      Qu f (handed D H' (fun b => (∃ k, k ∈ (A.L.filter (pcA A.cp P)).map It.s ∧ Zs k b) ∨ r.ownBlock = some b)) H' B.q { A with L := A.L.filter (fun a => !pcA A.cp P a), cp := delAll A.cp ((A.L.filter (pcA A.cp P)).map It.s) } := by
  have hpc : Pc S P = pcA A.cp P := by funext a; unfold Pc pcA; rw [h.cp]; cases A.cp a.s <;> rfl
  have hdsl := hT.dsl
  have hqa := hT.qa
  have hcp := hT.cp
  rw [List.take_length, hpc] at hdsl hcp
  rw [List.take_length, List.drop_length, List.append_nil, hpc] at hqa
  refine ⟨by rw [hdsl, h.cp], hT.num, hT.own, hT.len, fun g hg => (hT.young g hg).1, hT.frm.size, Y, hT.rel, hT.zl, ?_⟩
  have hQ := quHand (D := fun b o => D b o ∨ (r.ownBlock = some b ∧ H'[b]? = some o)) (A' := { A with L := A.L.filter (fun a => !pcA A.cp P a), cp := delAll A.cp ((A.L.filter (pcA A.cp P)).map It.s) }) (fun k => k ∈ (A.L.filter (pcA A.cp P)).map It.s) hT.inv hqa (hT.cf.trans h.cf) (by rw [hcp, h.cp]) (hT.ou.trans h.ou) (hT.last.trans h.last) (hT.tn.trans h.tn)
    (fun k hk => by rw [hcp]; unfold delAll; rw [if_pos hk]) (by
      rintro b o (hb | ⟨hb, ho⟩)
      · exact dstep h.d hT.frm (mut_mov hT.mv) (fun _ _ h => .inl h) b o hb
      · exact ⟨ho, (hT.young b hb).2, fun ⟨k, hz⟩ => absurd (hT.zl k b hz) (Nat.not_lt.2 (hT.young b hb).1)⟩)
  refine hQ.weak (fun b o hb => ?_)
  rcases hb with hb | ⟨⟨k, hk, hz⟩ | hb, ho⟩
  · exact .inl (.inl hb)
  · exact .inr ⟨⟨k, hk, hz⟩, ho⟩
  · exact .inl (.inr ⟨hb, ho⟩)
end

end Go.Proofs.Ytfomnjippakjpaa
