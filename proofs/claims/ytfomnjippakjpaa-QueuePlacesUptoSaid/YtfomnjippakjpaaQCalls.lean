/-
  The queue's functions, at a queue in order.
-/
import Derived.Test.YtfomnjippakjpaaReady
import Derived.Test.YtfomnjippakjpaaNew
import Derived.Test.YtfomnjippakjpaaOutQ
import Derived.Test.YtfomnjippakjpaaTurn2
import Derived.Test.YtfomnjippakjpaaRank
import Derived.Test.YtfomnjippakjpaaQAbs
namespace Go.Proofs.Ytfomnjippakjpaa
open Go.S

theorem qpush (f : Nat) (H : Heap) (Z : Nat → Prop) (Y : Int → Nat → Prop) (B : QB) (S : QS) (L : List It) (cs : List Value) (c : CD) (h : QInv f H B S Y) (hA : QA S L) (hc : RC f H Z cs c) (hZ : ∀ b, Z b → b < H.size) (hlt : L.length < 4194304) (hlast : S.last < 4611686018427387904) :
    FN Try.prog 7 [.pointer (some ⟨B.q, 0, none⟩), .agg cs.toArray] H (fun r H' => r = .int .i64 (S.last + 1) ∧ ∃ S' v' Y', QInv f H' { B with v := v' } S' Y' ∧ (∀ k b, Y' k b → Y k b ∨ H.size ≤ b) ∧
      QA S' (ins ⟨rankOf S.cf.maxprio c.prio, S.last + 1, 0⟩ L) ∧ S'.cf = S.cf ∧ S'.cp = putF S.cp (S.last + 1) (some { c with seq := S.last + 1 }) ∧ S'.ou = S.ou ∧ S'.last = S.last + 1 ∧ S'.tn = S.tn ∧ mov H B.v v' ∧ Frm B.mut H H') := by
  have hfr : ∀ a ∈ L, a.s ≠ S.last + 1 := fun a ha => by have := hA.rng a ha; omega
  have hll : S.is.length = L.length := hA.line.perm.length_eq.symm
  refine (push7 f H Z Y B S cs c h hc hZ (Classical.byContradiction fun hne => by rcases hA.dom _ hne with ⟨a, ha, e⟩ | ho; exact hfr a ha e; have := hA.rngo _ ho; omega) (fun b hb => hfr b (hA.mem.1 hb)) (by omega) ⟨hA.last, hlast⟩).mono ?_
  rintro r H' ⟨rfl, S', v', Y', h1, h2, h3, h4, h5⟩
  have h0 := hA.last
  exact ⟨rfl, S', v', Y', h1, h2, hA.come h3 h1.pile.nodup hfr (fun hm => by have := hA.rngo _ hm; simp at this; omega) (by simp; omega), h3.cf, h3.cp, h3.ou, by rw [h3.last]; simp; omega, h3.tn, h4, h5⟩

theorem qpop (f : Nat) (H : Heap) (B : QB) (S : QS) (Z : Int → Nat → Prop) (a : It) (L : List It) (h : QInv f H B S Z) (hA : QA S (a :: L)) (hlt : L.length < 4194304) :
    FN Try.prog 9 [.pointer (some ⟨B.q, 0, none⟩)] H (fun r H' => ∃ (cs : List Value) (d : CD) (js : List It) (v' : Value), r = .tuple [.agg cs.toArray, .bool true].toArray ∧ S.cp a.s = some d ∧ d.seq = a.s ∧ RC f H' (fun b => H.size ≤ b ∧ b < H'.size) cs d ∧
      QInv f H' { B with v := v' } { S with is := js, ou := S.ou ++ [a.s] } Z ∧ QA { S with is := js, ou := S.ou ++ [a.s] } L ∧ mov H B.v v' ∧ Frm B.mut H H') := by
  have hll : S.is.length = L.length + 1 := hA.line.perm.length_eq.symm
  obtain ⟨b, hb⟩ : ∃ b, S.is[0]? = some b := ⟨_, List.getElem?_eq_getElem (by omega)⟩
  have hba : b = a := by
    have hfirst := h.heap.head (Nat.le_refl _) hb
    have hbm := hA.mem.1 (List.mem_of_getElem? hb)
    have ham := hA.mem.2 (List.mem_cons_self ..)
    obtain ⟨k, hk⟩ := List.getElem?_of_mem ham
    have h1 := hfirst k a (List.getElem?_eq_some_iff.1 hk).1 hk
    rcases List.mem_cons.1 hbm with e | hbm
    · exact e
    · have h3 := (List.pairwise_cons.1 hA.line.sorted).1 b hbm
      have hs : a.s ≠ b.s := fun e => (List.nodup_cons.1 hA.line.nod).1 (e ▸ List.mem_map_of_mem hbm)
      rcases ahd_total hs with h4 | h4
      · rw [h1] at h4; cases h4
      · rw [h3] at h4; cases h4
  subst hba
  obtain ⟨d, hd, hds, _⟩ := hA.cov b (List.mem_cons_self ..)
  refine (pop9 f H B S Z b d h hb hd (hA.dis b (List.mem_cons_self ..)) (by omega)).mono ?_
  rintro r H' ⟨cs, js, v', rfl, h1, h2, h3, h4, h5⟩
  obtain ⟨L', e, hA'⟩ := hA.pop h.heap hb h2 h3.pile.nodup
  cases e
  exact ⟨cs, d, js, v', rfl, hd, hds, h1, h3, hA', h4, h5⟩

theorem qready (f : Nat) (H : Heap) (B : QB) (S : QS) (Z : Int → Nat → Prop) (L : List It) (h : QInv f H B S Z) (hA : QA S L) (hlim : L.length ≤ 2097152) :
    FN Try.prog 8 [.pointer (some ⟨B.q, 0, none⟩)] H (fun r H' => ∃ (ds : List CD), ds.length = L.length ∧ (∀ (j : Nat) (a : It) (d : CD), L[j]? = some a → ds[j]? = some d → S.cp a.s = some d) ∧ (∃ es, Accum H H' 35 25 (RC f) r ds es) ∧ Ext H H') := by
  refine (ready8 f H B S Z h (fun a ha => by obtain ⟨d, h1, _⟩ := hA.cov a (hA.mem.1 ha); exact ⟨d, h1⟩) (by rw [← hA.line.perm.length_eq]; exact hlim)).mono ?_
  rintro r H' ⟨js, ds, h1, h2, h3, h4, h5⟩
  have hp : L.Perm js := hA.line.perm.trans h1.symm
  have e : L = js := inl_unique hp hA.line.sorted h2 hA.line.nod
  subst e
  exact ⟨ds, h3, h4, h5⟩

theorem qreturn (f : Nat) (H : Heap) (B : QB) (S : QS) (Z : Int → Nat → Prop) (L : List It) (k : Int) (h : QInv f H B S Z) (hA : QA S L) (hk : k ∈ S.ou) (hlt : L.length < 4194304) :
    FN Try.prog 12 [.pointer (some ⟨B.q, 0, none⟩), .int .i64 k] H (fun r H' => r = .bool true ∧ ∃ S' v' d, S.cp k = some d ∧ QInv f H' { B with v := v' } S' Z ∧ QA S' (ins ⟨rankOf S.cf.maxprio d.prio, k, 0⟩ L) ∧
      S'.cf = S.cf ∧ S'.cp = putF (putF S.cp k none) k (some { d with red := true }) ∧ S'.ou = S.ou.erase k ∧ S'.last = S.last ∧ S'.tn = S.tn ∧ mov H B.v v' ∧ Frm B.mut H H') := by
  obtain ⟨d, hd, hds⟩ := hA.covo k hk
  have hll : S.is.length = L.length := hA.line.perm.length_eq.symm
  have hne : ∀ a ∈ L, a.s ≠ k := fun a ha e => hA.dis a ha (e ▸ hk)
  obtain ⟨eo, co, hou, hoM, hoO⟩ := h.ou
  have hnd := hoO.2.2
  have hr := hA.rngo k hk
  refine (return12 f H B S Z k d h hd hk hds (fun b hb => hne b (hA.mem.1 hb)) (by omega)).mono ?_
  rintro r H' ⟨rfl, S', v', h1, h2, h3, h4⟩
  have hA' := (hA.settle hk hnd).come h2 h1.pile.nodup (fun a ha => by simp [hds]; exact hne a ha) (by simp [hds, hnd.mem_erase_iff]) (by simp [hds]; exact hr.1)
  simp only [hds] at hA'
  refine ⟨rfl, S', v', d, hd, h1, hA', h2.cf, by rw [h2.cp]; simp [hds], h2.ou, ?_, h2.tn, h3, h4⟩
  rw [h2.last]
  simp [hds]
  omega
end Go.Proofs.Ytfomnjippakjpaa
