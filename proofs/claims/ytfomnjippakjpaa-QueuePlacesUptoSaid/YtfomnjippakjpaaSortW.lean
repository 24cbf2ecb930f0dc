/-
  The sort's worlds, told of the heap's blocks.
-/
import Derived.Test.YtfomnjippakjpaaHeaps
import Derived.Shelf.GgSortFunc.InsertionK
namespace Go.S
open Go.Proofs Go.Sort Go.Shelf Go.RowKit

theorem cells_get (a : It) (t : Nat) (h : t < 3) : (a.cells : List Value)[t]? = some (a.cells[t]!) := by
  have : t < a.cells.length := h
  rw [List.getElem?_eq_getElem this, List.getElem!_eq_getElem?_getD, List.getElem?_eq_getElem this]; rfl
theorem row_get {cs : List Value} {is : List It} (h : IRow cs is) {j : Nat} (hj : j < is.length * 3) : cs[j]? = some ((is[j / 3]!).cells[j % 3]!) := by
  have h1 : j / 3 < is.length := by omega
  obtain ⟨h2, h3⟩ := h.at (List.getElem?_eq_getElem h1)
  have h4 : ((cs.drop (0 + j / 3 * 3)).take 3)[j % 3]? = some ((is[j / 3]).cells[j % 3]!) := by rw [h2]; exact cells_get _ _ (Nat.mod_lt _ (by omega))
  rw [List.getElem?_take, if_pos (Nat.mod_lt _ (by omega)), List.getElem?_drop] at h4
  rw [show 0 + j / 3 * 3 + j % 3 = j by omega] at h4
  have h5 : is[j / 3]! = is[j / 3] := by simp [h1]
  rw [h4, h5]
theorem row_of_get {cs : List Value} {is : List It} (hl : is.length * 3 ≤ cs.length) (h : ∀ j, j < is.length * 3 → cs[j]? = some ((is[j / 3]!).cells[j % 3]!)) : IRow cs is := by
  apply List.ext_getElem?
  intro j
  rw [List.getElem?_take]
  split
  · rename_i hj
    rw [h j hj]
    have h1 : IRow (icells is) is := by unfold IRow; exact List.take_of_length_le (by rw [icells_len]; exact Nat.le_refl _)
    exact (row_get h1 hj).symm
  · rw [List.getElem?_eq_none]
    rw [icells_len]; omega

theorem holdsK_of {w : World} {H : Heap} {b T : Nat} {cs : List Value} {is : List It} (hw : w.heap = H) (hb : H[b]? = some (.cells cs.toArray T (0, 0))) (h : IRow cs is) : HoldsK It.cells 3 w b 0 is.toArray := by
  intro j hj
  have hj' : j < is.length * 3 := by simpa using hj
  refine ⟨?_, froz_of hw hb⟩
  rw [cell_of hw hb, Nat.zero_add, row_get h hj', id, get_flatK _ _ _ _ (by simpa using hj')]
  simp

theorem sortK_heap {w : World} {H : Heap} {b T n : Nat} {cs : List Value} {is : List It} {d : Array It} {os : Array Obj} (hw : w.heap = H) (hb : H[b]? = some (.cells cs.toArray T (0, 0))) (h : IRow cs is) (hd : d.size = is.length) :
    Sim w (sortWorldK It.cells 3 w b 0 n d os) ∧ ∃ cs', (sortWorldK It.cells 3 w b 0 n d os).heap[b]? = some (.cells (cs' : List Value).toArray T (0, 0)) ∧ IRow cs' d.toList ∧ cs'.length = cs.length ∧
      Frm (fun j => j = b) H (sortWorldK It.cells 3 w b 0 n d os).heap := by
  refine ⟨⟨rfl, rfl, rfl⟩, ?_⟩
  have hlt := lt_of hb
  have hl := h.len
  have hh : (sortWorldK It.cells 3 w b 0 n d os).heap = H.modify b (onCells (putCells id 0 (flatK It.cells 3 d))) ++ os := by
    subst hw; rfl
  have hs : (H.modify b (onCells (putCells id 0 (flatK It.cells 3 d)))).size = H.size := by simp
  have hx : (H.modify b (onCells (putCells id 0 (flatK It.cells 3 d))))[b]? = some (.cells (putCells id 0 (flatK It.cells 3 d) cs.toArray) T (0, 0)) := by
    rw [Array.getElem?_modify, if_pos rfl, hb]; rfl
  refine ⟨(putCells id 0 (flatK It.cells 3 d) cs.toArray).toList, ?_, ?_, ?_, ?_⟩
  · rw [hh, Array.getElem?_append_left (by rw [hs]; exact hlt), hx]
  · refine row_of_get ?_ ?_
    · simp [putCells, hd]; omega
    · intro j hj
      have hj' : j < is.length * 3 := by rw [← hd]; simpa using hj
      have hjl : j < cs.length := by omega
      have hjd : j < d.size * 3 := by rw [hd]; exact hj'
      simp only [putCells, Array.toList_mapIdx, List.getElem?_mapIdx, Nat.zero_le, true_and, Nat.zero_add, Nat.sub_zero, id]
      rw [List.getElem?_eq_getElem hjl]
      simp only [Option.map_some, size_flatK, hjd, if_true, get_flatK _ _ _ _ hjd]
      have h9 : j / 3 < d.size := by omega
      have h8 : d.toList[j / 3]! = d[j / 3]! := by simp [h9]
      rw [h8]
  · simp [putCells]
  · rw [hh]
    refine ⟨by simp, fun j hj hne => ?_⟩
    rw [Array.getElem?_append_left (by rw [hs]; exact hj), Array.getElem?_modify, if_neg (Ne.symm hne)]
end Go.S
