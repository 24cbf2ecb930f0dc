/-
  Contracts of functions of the given program, at the blocks of memory that they read and write.
-/
import Derived.Test.YtfomnjippakjpaaTurn
import Derived.Test.YtfomnjippakjpaaClear
import Derived.Test.YtfomnjippakjpaaRows
namespace Go.Proofs.Ytfomnjippakjpaa
open Go.S

theorem eq54 (H : Heap) (q : Nat) (a x : Int) (T : Nat) (hp : H[q]? = some (.cells [.int .i64 x].toArray T (0, 0))) : FN Try.prog 54 [.int .i64 a, .pointer (some ⟨q, 0, none⟩)] H (fun r H' => r = .bool (a == x) ∧ H = H') := by
  refine fn_intro 7 Try.func54 rfl Try.ntmps54 rfl ?_
  refine wc_seq ?_
  refine wc_plain ?_
  refine wf_rd _ rfl rfl (RD.assign rfl) rfl ?_
  refine wf_nil ?_
  refine at_thn ?_
  refine wc_seq ?_
  refine wc_plain ?_
  refine wf_rd _ rfl rfl (RD.move rfl) rfl ?_
  refine wf_rd _ rfl rfl (RD.load rfl (LD.one Try.isAgg3 hp rfl)) rfl ?_
  refine wf_rd _ rfl rfl (RD.cmp _ rfl rfl rfl) rfl ?_
  refine wf_rd _ rfl rfl (RD.assign rfl) rfl ?_
  refine wf_nil ?_
  refine at_thn ?_
  refine wc_ret ?_
  refine at_ret1 rfl rfl ?_
  exact ⟨rfl, rfl⟩
set_option maxRecDepth 100000 in
theorem index64 (H : Heap) (ks : List Int) (v : Value) (q T : Nat) (x : Int) (hown : Own H 3 1 v ks.length (ks.map ik)) (hp : H[q]? = some (.cells [.int .i64 x].toArray T (0, 0))) (hl : ks.length ≤ 4194304) :
    FN Try.prog 64 [v, .func (.func 54) #[] [.pointer (some ⟨q, 0, none⟩)].toArray] H (fun r H' => ∃ i : Int, r = .int .i64 i ∧ ((∃ j : Nat, i = j ∧ ks[j]? = some x ∧ ∀ k, k < j → ks[k]? ≠ some x) ∨ (i = -1 ∧ x ∉ ks)) ∧ H = H') := by
  obtain ⟨p, c, rfl⟩ := hown.val
  refine fn_intro 19 Try.func64 rfl Try.ntmps64 rfl ?_
  refine wc_seq ?_
  refine wc_plain ?_
  refine wf_rd _ rfl rfl (RD.assign rfl) rfl ?_
  refine wf_nil ?_
  refine at_thn ?_
  refine wc_seq ?_
  refine wc_seq ?_
  refine wc_plain ?_
  refine wf_rd _ rfl rfl (RD.move rfl) rfl ?_
  refine wf_rd _ rfl rfl (RD.lenSl rfl Try.underlying46) rfl ?_
  refine wf_rd _ rfl rfl (RD.move rfl) rfl ?_
  refine wf_nil ?_
  refine at_thn ?_
  refine wc_block ?_
  refine wc_loop (fun i : Nat => [(0, .slice p ks.length c), (1, .func (.func 54) #[] [.pointer (some ⟨q, 0, none⟩)].toArray), (4, .int .i64 0), (7, .int .i64 ks.length), (8, .int .i64 (i : Int))]) (fun i H1 => i ≤ ks.length ∧ H = H1 ∧ ∀ k, k < i → ks[k]? ≠ some x) (fun i => ks.length - i) 0 ⟨rfl, rfl, rfl, rfl, rfl, trivial⟩ ⟨Nat.zero_le _, rfl, fun k hk => absurd hk (by omega)⟩ ?_
  rintro j H1 ⟨hj, rfl, hno⟩
  show WC _ _ _ _ [(0, .slice p ks.length c), (1, .func (.func 54) #[] [.pointer (some ⟨q, 0, none⟩)].toArray), (4, .int .i64 0), (7, .int .i64 ks.length), (8, .int .i64 (j : Int))] H
  refine wc_seq ?_
  refine wc_plain ?_
  refine wf_rd _ rfl rfl (RD.cmp _ rfl rfl rfl) rfl ?_
  refine wf_nil ?_
  refine at_thn ?_
  refine wc_seq ?_
  refine wc_cond rfl (fun hc9 => ?_) (fun hc9 => ?_)
  ·
    have hlt : j < ks.length := by simpa using hc9
    obtain ⟨a, haj⟩ : ∃ a, ks[j]? = some a := ⟨_, List.getElem?_eq_getElem hlt⟩
    obtain ⟨g, cap, cs, e9, hg, hca⟩ := own_int_at hown haj
    cases e9
    refine wc_skip ?_
    refine at_thn ?_
    refine wc_seq ?_
    refine wc_block ?_
    refine wc_seq ?_
    refine wc_plain ?_
    refine wf_rd _ rfl rfl (RD.move rfl) rfl ?_
    refine wf_rd _ rfl rfl (RD.assign rfl) rfl ?_
    refine wf_nil ?_
    refine at_thn ?_
    refine wc_seq ?_
    refine wc_plain ?_
    refine wf_rd _ rfl rfl (RD.move rfl) rfl ?_
    refine wf_rd _ rfl rfl (RD.move rfl) rfl ?_
    refine wf_rd _ rfl rfl (RD.move rfl) rfl ?_
    refine wf_rd _ rfl rfl (RD.indexN rfl rfl Try.underlying46 Try.sizeOf3 hlt) rfl ?_
    refine wf_rd _ rfl rfl (RD.load rfl (LD.one Try.isAgg3 hg hca)) rfl ?_
    refine wf_callv (caps := [.pointer (some ⟨q, 0, none⟩)]) rfl rfl en54 rfl rfl (eq54 H q a x T hp) ?_
    rintro _ _ ⟨rfl, rfl⟩
    refine ⟨trivial, ?_⟩
    refine wf_nil ?_
    refine at_thn ?_
    refine wc_cond rfl (fun hc16 => ?_) (fun hc16 => ?_)
    ·
      refine wc_seq ?_
      refine wc_plain ?_
      refine wf_rd _ rfl rfl (RD.move rfl) rfl ?_
      refine wf_rd _ rfl rfl (RD.assign rfl) rfl ?_
      refine wf_nil ?_
      refine at_thn ?_
      refine wc_ret ?_
      refine at_inB_ret ?_
      refine at_thn_ret ?_
      refine at_lp_ret ?_
      refine at_inB_ret ?_
      refine at_thn_ret ?_
      refine at_ret1 rfl rfl ?_
      have hxa : a = x := by simpa using hc16
      exact ⟨j, rfl, .inl ⟨j, rfl, hxa ▸ haj, hno⟩, rfl⟩
    ·
      refine wc_skip ?_
      refine at_inB ?_
      refine at_thn ?_
      refine wc_plain ?_
      refine wf_rd _ rfl rfl (RD.add64 rfl rfl (by omega)) rfl ?_
      refine wf_rd _ rfl rfl (RD.move rfl) rfl ?_
      refine wf_nil ?_
      refine at_lp (j + 1) (by show ks.length - (j + 1) < ks.length - j; omega) ⟨rfl, rfl, rfl, rfl, rfl, trivial⟩ ⟨by omega, rfl, fun k hk => ?_⟩
      rcases Nat.lt_or_ge k j with h1 | h1
      · exact hno k h1
      · obtain rfl : k = j := by omega
        intro e
        rw [haj] at e
        have := Option.some.inj e
        subst this
        simp at hc16
  ·
    have hjn : j = ks.length := by
      have : ¬ j < ks.length := by simpa using hc9
      omega
    refine wc_exit ?_
    refine at_thn_exit ?_
    refine at_lp_exit ?_
    refine at_inB_out ?_
    refine at_thn ?_
    refine wc_seq ?_
    refine wc_plain ?_
    refine wf_rd _ rfl rfl (RD.assign rfl) rfl ?_
    refine wf_nil ?_
    refine at_thn ?_
    refine wc_ret ?_
    refine at_ret1 rfl rfl ?_
    refine ⟨-1, rfl, .inr ⟨rfl, fun h => ?_⟩, rfl⟩
    obtain ⟨k, hk⟩ := List.getElem?_of_mem h
    have := (List.getElem?_eq_some_iff.1 hk).1
    exact absurd hk (hno k (by omega))
/-- A row out of which a number is taken, half way. -/
structure Del1 (ks : List Int) (x : Int) (n i j : Nat) (cs : List Value) : Prop where
  lt : i < j
  le : j ≤ ks.length
  len : ks.length ≤ n
  size : cs.length = n
  num : i = ((ks.take j).filter (· != x)).length
  done : cs.take i = ((ks.take j).filter (· != x)).map ik
  rest : ∀ k a, j ≤ k → ks[k]? = some a → cs[k]? = some (ik a)
theorem take_succ_some {ks : List Int} {j : Nat} {a : Int} (h : ks[j]? = some a) : ks.take (j + 1) = ks.take j ++ [a] := by
  rw [List.take_add_one, h]; rfl
theorem Del1.skip {ks : List Int} {x : Int} {n i j : Nat} {cs : List Value} (h : Del1 ks x n i j cs) {a : Int} (ha : ks[j]? = some a) (e : a = x) : Del1 ks x n i (j + 1) cs := by
  have hlt := (List.getElem?_eq_some_iff.1 ha).1
  have ht := take_succ_some ha
  have hf : (ks.take (j + 1)).filter (· != x) = (ks.take j).filter (· != x) := by rw [ht, List.filter_append]; simp [e]
  exact ⟨by have := h.lt; omega, hlt, h.len, h.size, by rw [hf]; exact h.num, by rw [hf]; exact h.done, fun k b hk hb => h.rest k b (by omega) hb⟩
theorem Del1.keep {ks : List Int} {x : Int} {n i j : Nat} {cs : List Value} (h : Del1 ks x n i j cs) {a : Int} (ha : ks[j]? = some a) (e : ¬ a = x) : Del1 ks x n (i + 1) (j + 1) (cs.set (0 + i * 1) (ik a)) := by
  have hlt := (List.getElem?_eq_some_iff.1 ha).1
  have ht := take_succ_some ha
  have hf : (ks.take (j + 1)).filter (· != x) = (ks.take j).filter (· != x) ++ [a] := by rw [ht, List.filter_append]; simp [e]
  have hl := h.len
  have hs := h.size
  have hij := h.lt
  rw [Nat.zero_add, Nat.mul_one]
  refine ⟨by omega, hlt, hl, by simp [hs], by rw [hf, List.length_append, ← h.num]; rfl, ?_, fun k b hk hb => ?_⟩
  · rw [hf, List.map_append, ← h.done, List.take_add_one, List.take_set_of_le (Nat.le_refl _)]
    simp [show i < cs.length by omega]
  · rw [List.getElem?_set_ne (by omega)]
    exact h.rest k b (by omega) hb
theorem del1_start {ks : List Int} {x : Int} {cs : List Value} {j0 : Nat} (h7 : cs.take (ks.length * 1) = ks.map ik) (hk : ks[j0]? = some x) (hno : ∀ k, k < j0 → ks[k]? ≠ some x) (hl : ks.length ≤ cs.length) : Del1 ks x cs.length j0 (j0 + 1) cs := by
  have hlt := (List.getElem?_eq_some_iff.1 hk).1
  have h0 : (ks.take j0).filter (· != x) = ks.take j0 := by
    rw [List.filter_eq_self]
    intro a ha
    obtain ⟨k, hk'⟩ := List.getElem?_of_mem ha
    rw [List.getElem?_take] at hk'
    split at hk'
    · rename_i hlt'
      have := hno k hlt'
      simp
      intro e; subst e; exact this hk'
    · cases hk'
  have hf : (ks.take (j0 + 1)).filter (· != x) = ks.take j0 := by rw [take_succ_some hk, List.filter_append, h0]; simp
  refine ⟨by omega, hlt, hl, rfl, by rw [hf]; simp; omega, ?_, fun k a _ ha => ?_⟩
  · rw [hf, List.map_take, ← h7, List.take_take]
    congr 1; omega
  · have hlt' := (List.getElem?_eq_some_iff.1 ha).1
    have h8 : (cs.take (ks.length * 1))[k]? = some (ik a) := by rw [h7, List.getElem?_map, ha]; rfl
    rw [List.getElem?_take, if_pos (by omega)] at h8
    exact h8
set_option maxRecDepth 100000 in
theorem del53 (H : Heap) (ks : List Int) (g cap : Nat) (cs : List Value) (q T : Nat) (x : Int) (hg : H[g]? = some (.cells cs.toArray 3 (0, 0))) (hsize : cs.length = cap) (hcap : ks.length ≤ cap) (hmax : cap ≤ maxLen) (hown7 : cs.take (ks.length * 1) = ks.map ik)
    (hp : H[q]? = some (.cells [.int .i64 x].toArray T (0, 0))) (hqg : q ≠ g) (hmem : x ∈ ks) (hl : ks.length ≤ 4194304) :
    FN Try.prog 53 [.slice (some ⟨g, 0, none⟩) ks.length cap, .func (.func 54) #[] [.pointer (some ⟨q, 0, none⟩)].toArray] H (fun r H' => ∃ m, r = .slice (some ⟨g, 0, none⟩) m cap ∧ Own H' 3 1 r (ks.filter (· != x)).length ((ks.filter (· != x)).map ik) ∧ Frm (fun b => b = g) H H') := by
  have hlen7 : ks.length ≤ cs.length := by omega
  have hown : Own H 3 1 (.slice (some ⟨g, 0, none⟩) ks.length cap) ks.length (ks.map ik) := ⟨by simp, .inr ⟨g, cap, cs.toArray, rfl, Nat.zero_le _, hg, hcap, hmax, by simpa using hsize, hown7⟩⟩
  refine fn_intro 42 Try.func53 rfl Try.ntmps53 rfl ?_
  refine wc_seq ?_
  refine wc_plain ?_
  refine wf_rd _ rfl rfl (RD.assign rfl) rfl ?_
  refine wf_nil ?_
  refine at_thn ?_
  refine wc_seq ?_
  refine wc_plain ?_
  refine wf_rd _ rfl rfl (RD.move rfl) rfl ?_
  refine wf_rd _ rfl rfl (RD.move rfl) rfl ?_
  refine wf_call rfl en64 rfl rfl (index64 H ks _ q T x hown hp hl) ?_
  rintro _ _ ⟨i64, rfl, h64, rfl⟩
  obtain ⟨j0, rfl, hk0, hno0⟩ := h64.resolve_right (fun h => h.2 hmem)
  have hj0 := (List.getElem?_eq_some_iff.1 hk0).1
  refine ⟨trivial, ?_⟩
  refine wf_rd _ rfl rfl (RD.assign rfl) rfl ?_
  refine wf_nil ?_
  refine at_thn ?_
  refine wc_seq ?_
  refine wc_seq ?_
  refine wc_plain ?_
  refine wf_rd _ rfl rfl (RD.move rfl) rfl ?_
  refine wf_rd _ rfl rfl (RD.cmp false rfl rfl (congrArg some (beq_eq_false_iff_ne.2 (by omega)))) rfl ?_
  refine wf_nil ?_
  refine at_thn ?_
  refine wc_no rfl ?_
  refine wc_skip ?_
  refine at_thn ?_
  refine wc_seq ?_
  refine wc_seq ?_
  refine wc_plain ?_
  refine wf_rd _ rfl rfl (RD.move rfl) rfl ?_
  refine wf_rd _ rfl rfl (RD.cast (q := ((j0 + 1 : Nat) : Int)) (RD.add64 rfl rfl (by omega)) (by omega)) rfl ?_
  refine wf_rd _ rfl rfl (RD.assign rfl) rfl ?_
  refine wf_nil ?_
  refine at_thn ?_
  refine wc_block ?_
  refine wc_loop (fun i : Nat × Nat => [(0, .slice (some ⟨g, 0, none⟩) ks.length cap), (1, .func (.func 54) #[] [.pointer (some ⟨q, 0, none⟩)].toArray), (4, .slice none 0 0), (5, .int .i64 (i.1 : Int)), (6, .int .i64 (i.2 : Int))]) (fun i H1 => ∃ cs1 : List Value, H1[g]? = some (.cells cs1.toArray 3 (0, 0)) ∧ H1[q]? = some (.cells [.int .i64 x].toArray T (0, 0)) ∧ Del1 ks x cs.length i.1 i.2 cs1 ∧ Frm (fun b => b = g) H H1) (fun i => ks.length - i.2) (j0, j0 + 1) ⟨rfl, rfl, rfl, rfl, rfl, trivial⟩ ⟨cs, hg, hp, del1_start hown7 hk0 hno0 hlen7, Frm.refl _ _⟩ ?_
  rintro ⟨i, j⟩ H1 ⟨cs1, hg, hp, hD, hf⟩
  show WC _ _ _ _ [(0, .slice (some ⟨g, 0, none⟩) ks.length cap), (1, .func (.func 54) #[] [.pointer (some ⟨q, 0, none⟩)].toArray), (4, .slice none 0 0), (5, .int .i64 (i : Int)), (6, .int .i64 (j : Int))] H1
  have hij := hD.lt
  have hjn := hD.le
  dsimp only at hij hjn hD
  refine wc_seq ?_
  refine wc_seq ?_
  refine wc_plain ?_
  refine wf_rd _ rfl rfl (RD.move rfl) rfl ?_
  refine wf_rd _ rfl rfl (RD.move rfl) rfl ?_
  refine wf_rd _ rfl rfl (RD.lenSl rfl Try.underlying46) rfl ?_
  refine wf_rd _ rfl rfl (RD.cmp _ rfl rfl rfl) rfl ?_
  refine wf_nil ?_
  refine at_thn ?_
  refine wc_cond rfl (fun hc19 => ?_) (fun hc19 => ?_)
  ·
    have hlt : j < ks.length := by simpa using hc19
    obtain ⟨a, haj⟩ : ∃ a, ks[j]? = some a := ⟨_, List.getElem?_eq_getElem hlt⟩
    have hca : cs1[0 + j * 1]? = some (ik a) := by rw [Nat.zero_add, Nat.mul_one]; exact hD.rest j a (Nat.le_refl _) haj
    refine wc_skip ?_
    refine at_thn ?_
    refine wc_seq ?_
    refine wc_block ?_
    refine wc_seq ?_
    refine wc_plain ?_
    refine wf_rd _ rfl rfl (RD.move rfl) rfl ?_
    refine wf_rd _ rfl rfl (RD.move rfl) rfl ?_
    refine wf_rd _ rfl rfl (RD.indexN rfl rfl Try.underlying46 Try.sizeOf3 hlt) rfl ?_
    refine wf_rd _ rfl rfl (RD.load rfl (LD.one Try.isAgg3 hg hca)) rfl ?_
    refine wf_rd _ rfl rfl (RD.assign rfl) rfl ?_
    refine wf_nil ?_
    refine at_thn ?_
    refine wc_seq ?_
    refine wc_plain ?_
    refine wf_rd _ rfl rfl (RD.move rfl) rfl ?_
    refine wf_rd _ rfl rfl (RD.move rfl) rfl ?_
    refine wf_callv (caps := [.pointer (some ⟨q, 0, none⟩)]) rfl rfl en54 rfl rfl (eq54 H1 q a x T hp) ?_
    rintro _ _ ⟨rfl, rfl⟩
    refine ⟨trivial, ?_⟩
    refine wf_rd _ rfl rfl (RD.not rfl) rfl ?_
    refine wf_nil ?_
    refine at_thn ?_
    refine wc_cond rfl (fun hc29 => ?_) (fun hc29 => ?_)
    ·
      refine wc_seq ?_
      refine wc_plain ?_
      refine wf_rd _ rfl rfl (RD.move rfl) rfl ?_
      refine wf_rd _ rfl rfl (RD.move rfl) rfl ?_
      refine wf_rd _ rfl rfl (RD.move rfl) rfl ?_
      refine wf_rd _ rfl rfl (RD.indexN rfl rfl Try.underlying46 Try.sizeOf3 (by omega)) rfl ?_
      refine wf_store1 rfl rfl Try.sizeOf3 rfl hg rfl (by have := hD.len; have := hD.size; omega) (fun H13 z13 hx13 hk13 => ⟨trivial, ?_⟩)
      replace hp := (hk13 _ hqg).trans hp
      replace hg := hx13
      refine wf_nil ?_
      refine at_thn ?_
      refine wc_plain ?_
      refine wf_rd _ rfl rfl (RD.move rfl) rfl ?_
      refine wf_rd _ rfl rfl (RD.cast (q := ((i + 1 : Nat) : Int)) (RD.add64 rfl rfl (by omega)) (by omega)) rfl ?_
      refine wf_rd _ rfl rfl (RD.assign rfl) rfl ?_
      refine wf_nil ?_
      refine at_inB ?_
      refine at_thn ?_
      refine wc_plain ?_
      refine wf_rd _ rfl rfl (RD.move rfl) rfl ?_
      refine wf_rd _ rfl rfl (RD.cast (q := ((j + 1 : Nat) : Int)) (RD.add64 rfl rfl (by omega)) (by omega)) rfl ?_
      refine wf_rd _ rfl rfl (RD.assign rfl) rfl ?_
      refine wf_nil ?_
      first
        | exact at_lp (i + 1, j + 1) (by show ks.length - (j + 1) < ks.length - j; omega) ⟨rfl, rfl, rfl, rfl, rfl, trivial⟩ ⟨_, hg, hp, hD.keep haj (by simpa using hc29), hf.trans (Frm.wrote z13 hk13 (fun _ => rfl))⟩
        | exact at_lp (i, j + 1) (by show ks.length - (j + 1) < ks.length - j; omega) ⟨rfl, rfl, rfl, rfl, rfl, trivial⟩ ⟨_, hg, hp, hD.skip haj (by simpa using hc29), hf⟩
    ·
      refine wc_skip ?_
      refine at_inB ?_
      refine at_thn ?_
      refine wc_plain ?_
      refine wf_rd _ rfl rfl (RD.move rfl) rfl ?_
      refine wf_rd _ rfl rfl (RD.cast (q := ((j + 1 : Nat) : Int)) (RD.add64 rfl rfl (by omega)) (by omega)) rfl ?_
      refine wf_rd _ rfl rfl (RD.assign rfl) rfl ?_
      refine wf_nil ?_
      first
        | exact at_lp (i + 1, j + 1) (by show ks.length - (j + 1) < ks.length - j; omega) ⟨rfl, rfl, rfl, rfl, rfl, trivial⟩ ⟨_, hg, hp, hD.keep haj (by simpa using hc29), hf.trans (Frm.wrote z13 hk13 (fun _ => rfl))⟩
        | exact at_lp (i, j + 1) (by show ks.length - (j + 1) < ks.length - j; omega) ⟨rfl, rfl, rfl, rfl, rfl, trivial⟩ ⟨_, hg, hp, hD.skip haj (by simpa using hc29), hf⟩
  ·
    have hjn2 : j = ks.length := by
      have : ¬ j < ks.length := by simpa using hc19
      omega
    subst hjn2
    refine wc_exit ?_
    refine at_thn_exit ?_
    refine at_lp_exit ?_
    refine at_inB_out ?_
    refine at_thn ?_
    refine wc_seq ?_
    refine wc_plain ?_
    refine wf_rd _ rfl rfl (RD.move rfl) rfl ?_
    refine wf_rd _ rfl rfl (RD.move rfl) rfl ?_
    refine wf_rd _ rfl rfl (RD.slL rfl rfl Try.underlying46 Try.sizeOf3 (by omega) hcap (by omega)) rfl ?_
    have hsz := hD.size
    refine wf_clear rfl Try.underlying46 Try.zeroValue3 rfl rfl hg (by omega) rfl rfl (fun H14 z14 hx14 hk14 => ⟨trivial, ?_⟩)
    replace hg := hx14
    refine wf_nil ?_
    refine at_thn ?_
    refine wc_seq ?_
    refine wc_plain ?_
    refine wf_rd _ rfl rfl (RD.move rfl) rfl ?_
    refine wf_rd _ rfl rfl (RD.move rfl) rfl ?_
    refine wf_rd _ rfl rfl (RD.slN rfl rfl Try.underlying46 Try.sizeOf3 (by omega)) rfl ?_
    refine wf_rd _ rfl rfl (RD.assign rfl) rfl ?_
    refine wf_nil ?_
    refine at_thn ?_
    refine wc_ret ?_
    refine at_ret1 rfl rfl ?_
    have hn := hD.num
    have hdn := hD.done
    rw [List.take_length] at hn hdn
    refine ⟨_, rfl, ?_, hf.trans (Frm.wrote z14 hk14 (fun _ => rfl))⟩
    refine ⟨by simp, .inr ⟨g, cap, _, by rw [hn], Nat.zero_le _, hg, by rw [← hn]; omega, hmax, by simp; omega, ?_⟩⟩
    rw [← hn, Nat.mul_one]
    try simp only [Nat.zero_add, Nat.mul_one]
    rw [← hdn, List.append_assoc, List.take_append_of_le_length (by simp; omega)]
    rw [List.take_take, Nat.min_self]
set_option maxRecDepth 100000 in
theorem leave37 (f : Nat) (H : Heap) (B : QB) (S : QS) (Z : Int → Nat → Prop) (x : Int) (h : QInv f H B S Z) (hx : x ∈ S.tn) (hl : S.tn.length ≤ 4194304) :
    FN Try.prog 37 [(.pointer (some ⟨B.q, 0, none⟩)), .int .i64 x] H (fun r H' => ∃ t' b, r = .bool b ∧ QInv f H' { B with t := t' } { S with tn := S.tn.filter (· != x) } Z ∧ mov H B.t t' ∧ Frm B.mut H H') := by
  have hq := h.q
  have hok := h.ok
  obtain ⟨g, cap, cs, ht, hg, hsize, hcap, hmax, h7⟩ : ∃ g cap cs, B.t = .slice (some ⟨g, 0, none⟩) S.tn.length cap ∧ H[g]? = some (.cells (cs : List Value).toArray 3 (0, 0)) ∧ cs.length = cap ∧ S.tn.length ≤ cap ∧ cap ≤ maxLen ∧ cs.take (S.tn.length * 1) = S.tn.map ik := by
    rcases h.tn.2 with ⟨_, h0⟩ | ⟨g, cap, cur, e, h0, h3, h4, h5, h6, h7⟩
    · rw [List.eq_nil_of_length_eq_zero h0] at hx; cases hx
    · exact ⟨g, cap, cur.toList, e, by simpa using h3, by simpa using h6, h4, h5, h7⟩
  have hgb : B.t.ownBlock = some g := by rw [ht]; rfl
  obtain ⟨q, l, bm, bc, bo, v, t⟩ := B
  dsimp only at ht
  subst ht
  refine fn_intro 27 Try.func37 rfl Try.ntmps37 rfl ?_
  refine wc_seq ?_
  refine wc_plain ?_
  refine wf_box rfl rfl rfl rfl (fun b3 H1 e3 z1 hb3 hk1 => ⟨trivial, ?_⟩)
  have n3_hq := ne_new hq e3
  replace hq := (hk1 _ (lt_of hq)).trans hq
  refine wf_rd _ rfl rfl (RD.assign rfl) rfl ?_
  refine wf_nil ?_
  refine at_thn ?_
  refine wc_seq ?_
  refine wc_plain ?_
  refine wf_rd _ rfl rfl (RD.move rfl) rfl ?_
  refine wf_rd _ rfl rfl (RD.nilCheck rfl) rfl ?_
  refine wf_rd _ rfl rfl (RD.field rfl Try.underlying63 rfl Try.sizeOf46) rfl ?_
  refine wf_rd _ rfl rfl (RD.load rfl (LD.one Try.isAgg46 hq rfl)) rfl ?_
  refine wf_rd _ rfl rfl (RD.lenSl rfl Try.underlying46) rfl ?_
  refine wf_rd _ rfl rfl (RD.assign rfl) rfl ?_
  refine wf_nil ?_
  refine at_thn ?_
  refine wc_seq ?_
  refine wc_plain ?_
  refine wf_rd _ rfl rfl (RD.move rfl) rfl ?_
  refine wf_rd _ rfl rfl (RD.move rfl) rfl ?_
  refine wf_rd _ rfl rfl (RD.nilCheck rfl) rfl ?_
  refine wf_rd _ rfl rfl (RD.field rfl Try.underlying63 rfl Try.sizeOf46) rfl ?_
  refine wf_rd _ rfl rfl (RD.load rfl (LD.one Try.isAgg46 hq rfl)) rfl ?_
  refine wf_rd _ rfl rfl (RD.mkFunc rfl) rfl ?_
  refine wf_call rfl en53 rfl rfl (del53 H1 S.tn g cap cs b3 3 x ((hk1 _ (lt_of hg)).trans hg) hsize hcap hmax h7 hb3 (by have := lt_of hg; omega) hx hl) ?_
  rintro _ H2 ⟨m, rfl, ho2, hf2⟩
  obtain ⟨p9, c9, e9⟩ := ho2.val
  cases e9
  replace hq := hf2.keep hq (fun e => (hok.t g hgb).1 e.symm)
  refine ⟨trivial, ?_⟩
  refine wf_rd _ rfl rfl (RD.nilCheck rfl) rfl ?_
  refine wf_rd _ rfl rfl (RD.field rfl Try.underlying63 rfl Try.sizeOf46) rfl ?_
  refine wf_store1 rfl rfl Try.sizeOf46 rfl hq ho2.one (Nat.le_of_ble_eq_true rfl) (fun H3 z3 hx3 hk3 => ⟨trivial, ?_⟩)
  replace hq := hx3
  refine wf_nil ?_
  refine at_thn ?_
  refine wc_seq ?_
  refine wc_plain ?_
  refine wf_rd _ rfl rfl (RD.move rfl) rfl ?_
  refine wf_rd _ rfl rfl (RD.nilCheck rfl) rfl ?_
  refine wf_rd _ rfl rfl (RD.field rfl Try.underlying63 rfl Try.sizeOf46) rfl ?_
  refine wf_rd _ rfl rfl (RD.load rfl (LD.one Try.isAgg46 hq rfl)) rfl ?_
  refine wf_rd _ rfl rfl (RD.lenSl rfl Try.underlying46) rfl ?_
  refine wf_rd _ rfl rfl (RD.move rfl) rfl ?_
  refine wf_rd _ rfl rfl (RD.cmp _ rfl rfl rfl) rfl ?_
  refine wf_rd _ rfl rfl (RD.assign rfl) rfl ?_
  refine wf_nil ?_
  refine at_thn ?_
  refine wc_ret ?_
  refine at_ret1 rfl rfl ?_
  have hm : mov H (.slice (some ⟨g, 0, none⟩) S.tn.length cap) (.slice (some ⟨g, 0, none⟩) (S.tn.filter (· != x)).length cap) := .inl rfl
  have f3 : Frm (fun j => j = q ∨ (Value.slice (some ⟨g, 0, none⟩) S.tn.length cap).ownBlock = some j) H H3 := ((Ext.frm (Ext.new z1 hk1) _).trans (hf2.mono (fun b _ e => .inr (by rw [e]; rfl)))).trans (Frm.wrote z3 hk3 (fun _ => .inl rfl))
  have ho3 := ho2.keep (H' := H3) (fun g' hg' => hk3 g' (fun e => (hok.t g' hg').1 e))
  exact ⟨_, _, rfl, h.tTo (S' := { S with tn := S.tn.filter (· != x) }) f3 hm hq rfl rfl rfl ho3, hm, f3.mono (fun j _ hj => hj.elim .inl (fun e => .inr (.inr (.inr (.inr (.inr (.inr e)))))))⟩
end Go.Proofs.Ytfomnjippakjpaa
