/-
  The sort of items, and Line.Items.
-/
import Derived.Test.YtfomnjippakjpaaSortA
import Derived.Test.YtfomnjippakjpaaCmp44
namespace Go.Proofs.Ytfomnjippakjpaa
open Go.S Go.Proofs Go.Sort Go.Shelf Go.RowKit Go.Lib

theorem lt44 (a b : It) : ltOf cf44 a b = ahd a b := by
  unfold ltOf cf44
  cases ahd a b <;> rfl
theorem swo44 : SWO (ltOf cf44) where
  irrefl x := by rw [lt44]; exact ahd_irrefl x
  trans x y z h1 h2 := by rw [lt44] at *; exact ahd_trans h1 h2
  ntrans x y z h1 h2 := by rw [lt44] at *; simp [ahd] at *; omega
theorem cmp44 (blk off size : Nat) (w : World) : CmpLays Try.prog 44 #[] It.cells 3 cf44 blk off size w := fun _ _ _ _ x y => cmpW x y _
/-- In line: none stands ahead of an earlier one. -/
def InLine (js : List It) : Prop := js.Pairwise (fun a b => ahd b a = false)
theorem sorted_line {js : List It} (h : SortedIn (ltOf cf44) 0 js.length js.toArray) : InLine js := by
  rw [InLine, List.pairwise_iff_getElem]
  intro i j hi hj hlt
  have := h i j (Nat.zero_le _) hlt hj
  rw [lt44] at this
  simpa [hi, hj] using this

theorem sort43 (H : Heap) (g cap : Nat) (cs : List Value) (is : List It) (hg : H[g]? = some (.cells cs.toArray 69 (0, 0))) (hr : IRow cs is) (hl : is.length < 4611686018427387904) :
    FN Try.prog 43 [.slice (some ⟨g, 0, none⟩) is.length cap, .func (.func 44) #[] #[]] H (fun _ H' => ∃ cs' js, H'[g]? = some (.cells (cs' : List Value).toArray 69 (0, 0)) ∧ IRow cs' js ∧ cs'.length = cs.length ∧ js.Perm is ∧ InLine js ∧ Frm (fun j => j = g) H H') := by
  intro w hw
  have eg : ∀ args w, (callFunc 44 args).run Try.prog w = .ok (.enter 44 args) w := fun args w => en44 args w
  have hcon := AnyQ.slices_SortFunc sortIt 3 Try.isAgg69 Try.sizeOf69 It.cells (fun _ => rfl) (fun x v hv => x.ones v hv) cf44 swo44 44 #[] g 0 cap is.toArray w eg (cmp44 g 0 is.toArray.size w) (holdsK_of hw hg hr) (by rw [hw]; exact lt_of hg) (by simpa using hl)
  change Calls Try.prog 43 _ w _ at hcon
  refine hcon.mono ?_
  rintro e w' ⟨rfl, d', n, os, hp, hs, rfl⟩
  have hsz : d'.size = is.length := by have := hp.1; simpa using this
  obtain ⟨hS, cs', h1, h2, h3, h4⟩ := sortK_heap (n := n) (os := os) hw hg hr hsz
  refine ⟨hS, cs', d'.toList, h1, h2, h3, ?_, ?_, h4⟩
  · have := hp.2.2
    have h9 : List.take is.length d'.toList = d'.toList := List.take_of_length_le (by simp [hsz])
    simpa [h9] using this
  · refine sorted_line ?_
    have : is.toArray.size = d'.toList.length := by simp [hsz]
    rw [← this]; simpa using hs
end Go.Proofs.Ytfomnjippakjpaa
