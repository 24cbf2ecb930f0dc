/-
  A queue that is in order: its line sorted, each copy in one place.
-/
import Derived.Test.YtfomnjippakjpaaAbs
namespace Go.S

structure QA (S : QS) (L : List It) : Prop where
  line : LineIs S.is L
  cov : ∀ a ∈ L, ∃ d, S.cp a.s = some d ∧ d.seq = a.s ∧ a.p = rankOf S.cf.maxprio d.prio ∧ a.d = 0
  covo : ∀ k ∈ S.ou, ∃ d, S.cp k = some d ∧ d.seq = k
  dis : ∀ a ∈ L, a.s ∉ S.ou
  rng : ∀ a ∈ L, 1 ≤ a.s ∧ a.s ≤ S.last
  rngo : ∀ k ∈ S.ou, 1 ≤ k ∧ k ≤ S.last
  last : 0 ≤ S.last
theorem QA.empty (cf : CF) (tn : List Int) : QA ⟨cf, [], fun _ => none, [], 0, tn⟩ [] :=
  ⟨⟨.nil, .nil, by simp⟩, by simp, by simp, by simp, by simp, by simp, by simp⟩
theorem QA.mem {S : QS} {L : List It} (h : QA S L) {a : It} : a ∈ S.is ↔ a ∈ L := h.line.perm.mem_iff.symm
theorem QA.come {S S' : QS} {L : List It} {c : CD} (h : QA S L) (hc : Came S c S') (hn : (S'.is.map It.s).Nodup) (hf : ∀ a ∈ L, a.s ≠ c.seq) (ho : c.seq ∉ S.ou) (h1 : 1 ≤ c.seq) : QA S' (ins ⟨rankOf S.cf.maxprio c.prio, c.seq, 0⟩ L) := by
  have hm : ∀ a, a ∈ ins ⟨rankOf S.cf.maxprio c.prio, c.seq, 0⟩ L ↔ a = ⟨rankOf S.cf.maxprio c.prio, c.seq, 0⟩ ∨ a ∈ L := fun a => by rw [(ins_perm _ L).mem_iff, List.mem_cons]
  refine ⟨h.line.come hc.is hn (fun b hb => hf b (h.mem.1 hb)), ?_, ?_, ?_, ?_, ?_, ?_⟩
  · intro a ha
    rw [hc.cp, hc.cf]
    rcases (hm a).1 ha with rfl | ha
    · exact ⟨c, by simp [putF], rfl, rfl, rfl⟩
    · obtain ⟨d, h2, h3⟩ := h.cov a ha
      exact ⟨d, by unfold putF; rw [if_neg (hf a ha)]; exact h2, h3⟩
  · intro k hk
    rw [hc.ou] at hk
    rw [hc.cp]
    obtain ⟨d, h2, h3⟩ := h.covo k hk
    exact ⟨d, by unfold putF; rw [if_neg (fun e : k = c.seq => ho (e ▸ hk))]; exact h2, h3⟩
  · intro a ha
    rw [hc.ou]
    rcases (hm a).1 ha with rfl | ha
    · exact ho
    · exact h.dis a ha
  · intro a ha
    rw [hc.last]
    rcases (hm a).1 ha with rfl | ha
    · exact ⟨h1, Int.le_max_right _ _⟩
    · have := h.rng a ha; exact ⟨this.1, Int.le_trans this.2 (Int.le_max_left _ _)⟩
  · intro k hk
    rw [hc.ou] at hk
    rw [hc.last]
    have := h.rngo k hk; exact ⟨this.1, Int.le_trans this.2 (Int.le_max_left _ _)⟩
  · rw [hc.last]; exact Int.le_trans h.last (Int.le_max_left _ _)
/-- The head goes out. -/
theorem QA.pop {S : QS} {L js : List It} {a : It} (h : QA S L) (hh : HeapN S.is.length S.is) (ha : S.is[0]? = some a) (hg : Gone S.is a js) (hn : (js.map It.s).Nodup) : ∃ L', L = a :: L' ∧ QA { S with is := js, ou := S.ou ++ [a.s] } L' := by
  obtain ⟨L', rfl, hl⟩ := h.line.gone ha hh hg hn
  have hne := (List.nodup_cons.1 h.line.nod).1
  refine ⟨L', rfl, hl, fun b hb => h.cov b (List.mem_cons_of_mem _ hb), ?_, ?_, fun b hb => h.rng b (List.mem_cons_of_mem _ hb), ?_, h.last⟩
  · intro k hk
    rcases List.mem_append.1 hk with hk | hk
    · exact h.covo k hk
    · simp at hk; subst hk
      obtain ⟨d, h1, h2, _⟩ := h.cov a (List.mem_cons_self ..)
      exact ⟨d, h1, h2⟩
  · intro b hb hm
    rcases List.mem_append.1 hm with hm | hm
    · exact h.dis b (List.mem_cons_of_mem _ hb) hm
    · simp at hm; exact hne (hm ▸ List.mem_map_of_mem hb)
  · intro k hk
    rcases List.mem_append.1 hk with hk | hk
    · exact h.rngo k hk
    · simp at hk; subst hk; exact h.rng a (List.mem_cons_self ..)
/-- One that is out is settled. -/
theorem QA.settle {S : QS} {L : List It} (h : QA S L) {k : Int} (hk : k ∈ S.ou) (hn : S.ou.Nodup) : QA { S with ou := S.ou.erase k, cp := putF S.cp k none } L := by
  have hne : ∀ a ∈ L, a.s ≠ k := fun a ha e => h.dis a ha (e ▸ hk)
  refine ⟨h.line, ?_, ?_, fun a ha hm => h.dis a ha (List.mem_of_mem_erase hm), h.rng, fun j hj => h.rngo j (List.mem_of_mem_erase hj), h.last⟩
  · intro a ha
    obtain ⟨d, h1, h2⟩ := h.cov a ha
    exact ⟨d, by show putF S.cp k none a.s = _; unfold putF; rw [if_neg (hne a ha)]; exact h1, h2⟩
  · intro j hj
    have hj' := (hn.mem_erase_iff).1 hj
    obtain ⟨d, h1, h2⟩ := h.covo j hj'.2
    exact ⟨d, by show putF S.cp k none j = _; unfold putF; rw [if_neg hj'.1]; exact h1, h2⟩
end Go.S
