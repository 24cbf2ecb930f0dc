/-
  Contracts of functions of the given program, at the blocks of memory that they read and write.
-/
import Derived.Test.YtfomnjippakjpaaSort43
import Derived.Shelf.SlSortCmp.NoneTotal
import Derived.Test.YtfomnjippakjpaaRows
namespace Go.Proofs.Ytfomnjippakjpaa
open Go.S Go.Proofs Go.Sort Go.Shelf Go.RowKit Go.Lib

theorem sort43_none (H : Heap) : FN Try.prog 43 [.slice none 0 0, .func (.func 44) #[] #[]] H (fun _ H' => Ext H H') := by
  intro w hw
  have hcon := AnyF.slices_SortFunc_none { sortIt with } none 0 (.func (.func 44) #[] #[]) w
  change Calls Try.prog 43 _ w _ at hcon
  refine hcon.mono ?_
  rintro e w' ⟨rfl, rfl⟩
  exact ⟨Sim.refl _, hw ▸ Ext.refl _⟩
/-- Items in a row. -/
def IList (H H' : Heap) (v : Value) (js : List It) : Prop := (v = .slice none 0 0 ∧ js = []) ∨ ∃ g cap cs, v = .slice (some ⟨g, 0, none⟩) js.length cap ∧ H'[g]? = some (.cells (cs : List Value).toArray 69 (0, 0)) ∧ IRow cs js ∧ H.size ≤ g ∧ g < H'.size
set_option maxRecDepth 100000 in
theorem items27 (H : Heap) (l bm : Nat) (v : Value) (is : List It) (hp : Pile H l v bm is) (hlt : is.length ≤ 2097152) :
    FN Try.prog 27 [.pointer (some ⟨l, 0, none⟩)] H (fun r H' => ∃ js, js.Perm is ∧ InLine js ∧ IList H H' r js ∧ Ext H H') := by
  obtain ⟨⟨T, hl⟩, ho, _⟩ := hp
  rcases ho.2 with ⟨rfl, h0⟩ | ⟨g, cap, cur, rfl, h0, h3, h4, h5, h6, h7⟩
  · have : is = [] := List.eq_nil_of_length_eq_zero h0
    subst this
    refine fn_intro 13 Try.func27 rfl Try.ntmps27 rfl ?_
    refine wc_seq ?_
    refine wc_plain ?_
    refine wf_rd _ rfl rfl (RD.assign rfl) rfl ?_
    refine wf_nil ?_
    refine at_thn ?_
    refine wc_seq ?_
    refine wc_plain ?_
    refine wf_rd _ rfl rfl (RD.move rfl) rfl ?_
    refine wf_rd _ rfl rfl (RD.nilCheck rfl) rfl ?_
    refine wf_rd _ rfl rfl (RD.field rfl Try.underlying85 rfl Try.sizeOf83) rfl ?_
    refine wf_rd _ rfl rfl (RD.field rfl Try.underlying83 rfl Try.sizeOf66) rfl ?_
    refine wf_rd _ rfl rfl (RD.load rfl (LD.one Try.isAgg66 hl rfl)) rfl ?_
    refine wf_call rfl en42 rfl rfl (clone42_nil H) ?_
    rintro _ H1 ⟨rfl, rfl⟩
    refine ⟨trivial, ?_⟩
    refine wf_rd _ rfl rfl (RD.assign rfl) rfl ?_
    refine wf_nil ?_
    refine at_thn ?_
    refine wc_seq ?_
    refine wc_plain ?_
    refine wf_rd _ rfl rfl (RD.move rfl) rfl ?_
    refine wf_call rfl en43 rfl rfl (sort43_none _) ?_
    rintro _ H2 hH2
    refine ⟨trivial, ?_⟩
    refine wf_nil ?_
    refine at_thn ?_
    refine wc_seq ?_
    refine wc_plain ?_
    refine wf_rd _ rfl rfl (RD.move rfl) rfl ?_
    refine wf_rd _ rfl rfl (RD.assign rfl) rfl ?_
    refine wf_nil ?_
    refine at_thn ?_
    refine wc_ret ?_
    refine at_ret1 rfl rfl ?_
    exact ⟨[], .nil, .nil, .inl ⟨rfl, rfl⟩, hH2⟩
  · obtain ⟨cs, rfl⟩ : ∃ cs : List Value, cur = cs.toArray := ⟨cur.toList, by simp⟩
    have hg := h3
    have hr : IRow cs is := h7
    have hlen := hr.len
    clear h0 h3 h4 h5 h6 h7 ho
    refine fn_intro 13 Try.func27 rfl Try.ntmps27 rfl ?_
    refine wc_seq ?_
    refine wc_plain ?_
    refine wf_rd _ rfl rfl (RD.assign rfl) rfl ?_
    refine wf_nil ?_
    refine at_thn ?_
    refine wc_seq ?_
    refine wc_plain ?_
    refine wf_rd _ rfl rfl (RD.move rfl) rfl ?_
    refine wf_rd _ rfl rfl (RD.nilCheck rfl) rfl ?_
    refine wf_rd _ rfl rfl (RD.field rfl Try.underlying85 rfl Try.sizeOf83) rfl ?_
    refine wf_rd _ rfl rfl (RD.field rfl Try.underlying83 rfl Try.sizeOf66) rfl ?_
    refine wf_rd _ rfl rfl (RD.load rfl (LD.one Try.isAgg66 hl rfl)) rfl ?_
    refine wf_call rfl en42 rfl rfl (clone42 H g 0 is.length cap cs 69 (0, 0) hg (by omega) (by rw [List.drop_zero, hr]; exact icells_one_cell) (by omega)) ?_
    rintro v1 H1 ⟨⟨g1, hg1, hgs⟩, ho1, hx1⟩
    rw [List.drop_zero, hr] at ho1
    rcases ho1.2 with ⟨rfl, _⟩ | ⟨g2, cap1, cur, rfl, h0, h3, h4, h5, h6, h7⟩
    · simp [Value.ownBlock] at hg1
    obtain rfl : g2 = g1 := by simpa [Value.ownBlock] using hg1
    refine ⟨trivial, ?_⟩
    refine wf_rd _ rfl rfl (RD.assign rfl) rfl ?_
    refine wf_nil ?_
    refine at_thn ?_
    refine wc_seq ?_
    refine wc_plain ?_
    refine wf_rd _ rfl rfl (RD.move rfl) rfl ?_
    refine wf_call rfl en43 rfl rfl (sort43 H1 g2 cap1 cur.toList is (by simpa using h3) h7 (by omega)) ?_
    rintro _ H2 ⟨cs', js, hg2, hr2, hlen2, hpm, hil, hf2⟩
    refine ⟨trivial, ?_⟩
    refine wf_nil ?_
    refine at_thn ?_
    refine wc_seq ?_
    refine wc_plain ?_
    refine wf_rd _ rfl rfl (RD.move rfl) rfl ?_
    refine wf_rd _ rfl rfl (RD.assign rfl) rfl ?_
    refine wf_nil ?_
    refine at_thn ?_
    refine wc_ret ?_
    refine at_ret1 rfl rfl ?_
    refine ⟨js, hpm, hil, .inr ⟨g2, cap1, cs', by rw [← hpm.length_eq], hg2, hr2, hgs, by have := lt_of h3; have := hf2.size; omega⟩, ⟨Nat.le_trans hx1.size hf2.size, fun j hj => (hf2.old j (by have := hx1.size; omega) (by omega)).trans (hx1.old j hj)⟩⟩
end Go.Proofs.Ytfomnjippakjpaa
