/-
  A queue that is in order: its line sorted, each copy in one place.
-/
import Derived.Test.YtfomnjippakjpaaAbs
namespace Go.S

structure QA (S : QS) (L : List It) : Prop where
  line : LineIs S.is L
  cov : ∀ a ∈ L, ∃ d, S.cp a.s = some d ∧ d.seq = a.s ∧ a.p = rankOf S.cf.maxprio d.prio ∧ a.d = 0
  covo : ∀ k ∈ S.ou, ∃ d, S.cp k = some d ∧ d.seq = k
  dis : ∀ a ∈ L, a.s ∉ S.ou
  rng : ∀ a ∈ L, 1 ≤ a.s ∧ a.s ≤ S.last
  rngo : ∀ k ∈ S.ou, 1 ≤ k ∧ k ≤ S.last
  last : 0 ≤ S.last
  dom : ∀ k, S.cp k ≠ none → (∃ a ∈ L, a.s = k) ∨ k ∈ S.ou
theorem QA.empty (cf : CF) (tn : List Int) : QA ⟨cf, [], fun _ => none, [], 0, tn⟩ [] :=
  ⟨⟨.nil, .nil, by simp⟩, by simp, by simp, by simp, by simp, by simp, by simp, fun _ h => absurd rfl h⟩
theorem QA.mem {S : QS} {L : List It} (h : QA S L) {a : It} : a ∈ S.is ↔ a ∈ L := h.line.perm.mem_iff.symm
theorem QA.come {S S' : QS} {L : List It} {c : CD} (h : QA S L) (hc : Came S c S') (hn : (S'.is.map It.s).Nodup) (hf : ∀ a ∈ L, a.s ≠ c.seq) (ho : c.seq ∉ S.ou) (h1 : 1 ≤ c.seq) : QA S' (ins ⟨rankOf S.cf.maxprio c.prio, c.seq, 0⟩ L) := by
  have hm : ∀ a, a ∈ ins ⟨rankOf S.cf.maxprio c.prio, c.seq, 0⟩ L ↔ a = ⟨rankOf S.cf.maxprio c.prio, c.seq, 0⟩ ∨ a ∈ L := fun a => by rw [(ins_perm _ L).mem_iff, List.mem_cons]
  refine ⟨h.line.come hc.is hn (fun b hb => hf b (h.mem.1 hb)), ?_, ?_, ?_, ?_, ?_, ?_, ?_⟩
  · intro a ha
    rw [hc.cp, hc.cf]
    rcases (hm a).1 ha with rfl | ha
    · exact ⟨c, by simp [putF], rfl, rfl, rfl⟩
    · obtain ⟨d, h2, h3⟩ := h.cov a ha
      exact ⟨d, by unfold putF; rw [if_neg (hf a ha)]; exact h2, h3⟩
  · intro k hk
    rw [hc.ou] at hk
    rw [hc.cp]
    obtain ⟨d, h2, h3⟩ := h.covo k hk
    exact ⟨d, by unfold putF; rw [if_neg (fun e : k = c.seq => ho (e ▸ hk))]; exact h2, h3⟩
  · intro a ha
    rw [hc.ou]
    rcases (hm a).1 ha with rfl | ha
    · exact ho
    · exact h.dis a ha
  · intro a ha
    rw [hc.last]
    rcases (hm a).1 ha with rfl | ha
    · exact ⟨h1, Int.le_max_right _ _⟩
    · have := h.rng a ha; exact ⟨this.1, Int.le_trans this.2 (Int.le_max_left _ _)⟩
  · intro k hk
    rw [hc.ou] at hk
    rw [hc.last]
    have := h.rngo k hk; exact ⟨this.1, Int.le_trans this.2 (Int.le_max_left _ _)⟩
  · rw [hc.last]; exact Int.le_trans h.last (Int.le_max_left _ _)
  · intro k hk
    rw [hc.cp] at hk
    rw [hc.ou]
    by_cases e : k = c.seq
    · exact .inl ⟨_, (hm _).2 (.inl rfl), e.symm⟩
    · unfold putF at hk
      rw [if_neg e] at hk
      rcases h.dom k hk with ⟨a, ha, e⟩ | ho
      · exact .inl ⟨a, (hm a).2 (.inr ha), e⟩
      · exact .inr ho
/-- The head goes out. -/
theorem QA.pop {S : QS} {L js : List It} {a : It} (h : QA S L) (hh : HeapN S.is.length S.is) (ha : S.is[0]? = some a) (hg : Gone S.is a js) (hn : (js.map It.s).Nodup) : ∃ L', L = a :: L' ∧ QA { S with is := js, ou := S.ou ++ [a.s] } L' := by
  obtain ⟨L', rfl, hl⟩ := h.line.gone ha hh hg hn
  have hne := (List.nodup_cons.1 h.line.nod).1
  refine ⟨L', rfl, hl, fun b hb => h.cov b (List.mem_cons_of_mem _ hb), ?_, ?_, fun b hb => h.rng b (List.mem_cons_of_mem _ hb), ?_, h.last, ?_⟩
  · intro k hk
    rcases List.mem_append.1 hk with hk | hk
    · exact h.covo k hk
    · simp at hk; subst hk
      obtain ⟨d, h1, h2, _⟩ := h.cov a (List.mem_cons_self ..)
      exact ⟨d, h1, h2⟩
  · intro b hb hm
    rcases List.mem_append.1 hm with hm | hm
    · exact h.dis b (List.mem_cons_of_mem _ hb) hm
    · simp at hm; exact hne (hm ▸ List.mem_map_of_mem hb)
  · intro k hk
    rcases List.mem_append.1 hk with hk | hk
    · exact h.rngo k hk
    · simp at hk; subst hk; exact h.rng a (List.mem_cons_self ..)
  · intro k hk
    rcases h.dom k hk with ⟨b, hb, e⟩ | ho
    · rcases List.mem_cons.1 hb with rfl | hb
      · exact .inr (List.mem_append_right _ (by simp [e]))
      · exact .inl ⟨b, hb, e⟩
    · exact .inr (List.mem_append_left _ ho)
/-- One that is out is settled. -/
theorem QA.settle {S : QS} {L : List It} (h : QA S L) {k : Int} (hk : k ∈ S.ou) (hn : S.ou.Nodup) : QA { S with ou := S.ou.erase k, cp := putF S.cp k none } L := by
  have hne : ∀ a ∈ L, a.s ≠ k := fun a ha e => h.dis a ha (e ▸ hk)
  refine ⟨h.line, ?_, ?_, fun a ha hm => h.dis a ha (List.mem_of_mem_erase hm), h.rng, fun j hj => h.rngo j (List.mem_of_mem_erase hj), h.last, ?_⟩
  · intro a ha
    obtain ⟨d, h1, h2⟩ := h.cov a ha
    exact ⟨d, by show putF S.cp k none a.s = _; unfold putF; rw [if_neg (hne a ha)]; exact h1, h2⟩
  · intro j hj
    have hj' := (hn.mem_erase_iff).1 hj
    obtain ⟨d, h1, h2⟩ := h.covo j hj'.2
    exact ⟨d, by show putF S.cp k none j = _; unfold putF; rw [if_neg hj'.1]; exact h1, h2⟩
  · intro j hj
    have hj' : putF S.cp k none j ≠ none := hj
    unfold putF at hj'
    by_cases e : j = k
    · rw [if_pos e] at hj'; exact absurd rfl hj'
    · rw [if_neg e] at hj'
      rcases h.dom j hj' with h1 | h1
      · exact .inl h1
      · exact .inr ((hn.mem_erase_iff).2 ⟨e, h1⟩)
/-- One that stands in line is taken out. -/
theorem QA.gone {S : QS} {L js : List It} {a : It} (h : QA S L) (ha : a ∈ L) (hg : Gone S.is a js) (hn : (js.map It.s).Nodup) : QA { S with is := js, cp := putF S.cp a.s none } (L.filter (fun b => b.s != a.s)) := by
  have hm : ∀ b, b ∈ L.filter (fun b => b.s != a.s) ↔ b ∈ L ∧ b.s ≠ a.s := fun b => by rw [List.mem_filter]; simp
  have key : ∀ b ∈ L, b.s = a.s → b = a := by
    intro b hb e
    have h3 := List.pairwise_map.1 (List.nodup_iff_pairwise_ne.1 h.line.nod)
    obtain ⟨i, hi⟩ := List.getElem?_of_mem hb
    obtain ⟨j, hj⟩ := List.getElem?_of_mem ha
    obtain ⟨hi', ei⟩ := List.getElem?_eq_some_iff.1 hi
    obtain ⟨hj', ej⟩ := List.getElem?_eq_some_iff.1 hj
    rcases Nat.lt_trichotomy i j with h4 | h4 | h4
    · have := List.pairwise_iff_getElem.1 h3 i j hi' hj' h4
      rw [ei, ej] at this; exact absurd e this
    · subst h4; exact ei.symm.trans ej
    · have := List.pairwise_iff_getElem.1 h3 j i hj' hi' h4
      rw [ei, ej] at this; exact absurd e.symm this
  refine ⟨⟨?_, ?_, ?_⟩, ?_, ?_, ?_, ?_, h.rngo, h.last, ?_⟩
  · refine (List.perm_ext_iff_of_nodup ((nod_of_map h.line.nod).sublist List.filter_sublist) (nod_of_map hn)).2 (fun b => ?_)
    rw [hm, hg.mem, h.mem]
    exact ⟨fun ⟨h1, h2⟩ => ⟨h1, fun e => h2 (by rw [e])⟩, fun ⟨h1, h2⟩ => ⟨h1, fun e => h2 (key b h1 e)⟩⟩
  · exact List.Pairwise.sublist List.filter_sublist h.line.sorted
  · exact List.Nodup.sublist (List.Sublist.map _ List.filter_sublist) h.line.nod
  · intro b hb
    obtain ⟨hb, hne⟩ := (hm b).1 hb
    obtain ⟨d, h1, h2⟩ := h.cov b hb
    exact ⟨d, by show putF S.cp a.s none b.s = _; unfold putF; rw [if_neg hne]; exact h1, h2⟩
  · intro k hk
    obtain ⟨d, h1, h2⟩ := h.covo k hk
    exact ⟨d, by show putF S.cp a.s none k = _; unfold putF; rw [if_neg (fun e : k = a.s => h.dis a ha (e ▸ hk))]; exact h1, h2⟩
  · intro b hb; exact h.dis b ((hm b).1 hb).1
  · intro b hb; exact h.rng b ((hm b).1 hb).1
  · intro k hk
    have hk' : putF S.cp a.s none k ≠ none := hk
    unfold putF at hk'
    by_cases e : k = a.s
    · rw [if_pos e] at hk'; exact absurd rfl hk'
    · rw [if_neg e] at hk'
      rcases h.dom k hk' with ⟨b, hb, e2⟩ | ho
      · exact .inl ⟨b, (hm b).2 ⟨hb, fun e3 => e (e2.symm.trans e3)⟩, e2⟩
      · exact .inr ho
end Go.S
