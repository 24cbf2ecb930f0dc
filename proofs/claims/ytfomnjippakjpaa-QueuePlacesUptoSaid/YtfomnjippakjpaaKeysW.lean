/-
  slices.Sorted(maps.Keys(m)) at int keys, told of the heap's blocks.
-/
import Derived.Test.YtfomnjippakjpaaQData
import Derived.Test.YtfomnjippakjpaaFacts
import Derived.Shelf.SlIterI.Nil
import Derived.Shelf.SortM.Plain
import Derived.Shelf.SortM.SortNone
import Derived.Shelf.Lay
import Derived.Ground.GgzProg
import Derived.Ground.SlgmProg
namespace Go.Proofs.Ytfomnjippakjpaa
open Go.S Go.Proofs Go.RowKit Go.Maps Go.Sort Go.Shelf

def keysA_ren : Go.Shelf.Ren := ⟨fun | 7 => 31 | 10 => 49 | n => n, fun | 23 => 61 | 26 => 3 | 3 => 3 | 28 => 75 | 0 => 0 | 27 => 74 | 33 => 42 | 4 => 4 | n => n, fun | n => n⟩
theorem keysA : Go.Proofs.SlLaysZI.n7 Try.prog keysA_ren := {
  mixed := by kernel_rfl,
  f7 := ⟨Try.f31.name, by decide, Try.func31.trans (congrArg some (by kernel_rfl))⟩,
  f10 := ⟨Try.f49.name, by decide, Try.func49.trans (congrArg some (by kernel_rfl))⟩,
  t0 := Try.underlying0,
  a0 := Try.isAgg0,
  z0 := Try.sizeOf0,
  v0 := Try.zeroValue0,
  t4 := Try.underlying4,
  a4 := Try.isAgg4,
  z4 := Try.sizeOf4,
  v4 := Try.zeroValue4,
  t23 := Try.underlying61,
  a23 := Try.isAgg61,
  z23 := Try.sizeOf61,
  v23 := Try.zeroValue61,
  t26 := Try.underlying3,
  a26 := Try.isAgg3,
  z26 := Try.sizeOf3,
  v26 := Try.zeroValue3,
  t27 := Try.underlying74,
  a27 := Try.isAgg74,
  z27 := Try.sizeOf74,
  v27 := Try.zeroValue74,
  t28 := Try.underlying75,
  a28 := Try.isAgg75,
  z28 := Try.sizeOf75,
  v28 := Try.zeroValue75,
  t33 := Try.underlying42,
  a33 := Try.isAgg42,
  z33 := Try.sizeOf42,
  v33 := Try.zeroValue42 }
def sortedA_ren : Go.Shelf.Ren := ⟨fun | 6 => 30 | 8 => 47 | 9 => 48 | 11 => 60 | 13 => 58 | 12 => 61 | 23 => 75 | 24 => 76 | 14 => 77 | 15 => 78 | 16 => 79 | 17 => 80 | 18 => 81 | 19 => 82 | 20 => 83 | 21 => 84 | 22 => 85 | 25 => 93 | 26 => 89 | 27 => 90 | 28 => 94 | 29 => 95 | 30 => 96 | 31 => 99 | n => n, fun | 26 => 3 | 28 => 75 | 24 => 46 | 0 => 0 | 3 => 3 | 37 => 104 | 48 => 131 | 50 => 133 | 4 => 4 | 40 => 125 | 39 => 124 | 45 => 54 | 5 => 5 | 9 => 9 | 51 => 143 | 55 => 147 | 57 => 153 | 58 => 40 | 33 => 42 | n => n, fun | n => n⟩
theorem sortedA : Go.Proofs.SlLaysZI.n6 Try.prog sortedA_ren := {
  mixed := by kernel_rfl,
  f6 := ⟨Try.f30.name, by decide, Try.func30.trans (congrArg some (by kernel_rfl))⟩,
  f8 := ⟨Try.f47.name, by decide, Try.func47.trans (congrArg some (by kernel_rfl))⟩,
  f11 := ⟨Try.f60.name, by decide, Try.func60.trans (congrArg some (by kernel_rfl))⟩,
  t0 := Try.underlying0,
  a0 := Try.isAgg0,
  z0 := Try.sizeOf0,
  v0 := Try.zeroValue0,
  t24 := Try.underlying46,
  a24 := Try.isAgg46,
  z24 := Try.sizeOf46,
  v24 := Try.zeroValue46,
  t26 := Try.underlying3,
  a26 := Try.isAgg3,
  z26 := Try.sizeOf3,
  v26 := Try.zeroValue3,
  t28 := Try.underlying75,
  a28 := Try.isAgg75,
  z28 := Try.sizeOf75,
  v28 := Try.zeroValue75,
  i26 := by kernel_rfl }
def sortA_ren : Go.Shelf.Ren := ⟨fun | 5 => 48 | 8 => 58 | 7 => 61 | 19 => 75 | 20 => 76 | 10 => 77 | 11 => 78 | 12 => 79 | 13 => 80 | 14 => 81 | 15 => 82 | 16 => 83 | 17 => 84 | 18 => 85 | 30 => 93 | 31 => 89 | 32 => 90 | 33 => 94 | 34 => 95 | 35 => 96 | 40 => 99 | n => n, fun | 23 => 46 | 25 => 3 | 3 => 3 | 32 => 104 | 22 => 46 | 0 => 0 | 44 => 131 | 46 => 133 | 4 => 4 | 36 => 125 | 35 => 124 | 41 => 54 | 5 => 5 | 9 => 9 | 53 => 143 | 57 => 147 | 63 => 153 | 64 => 40 | n => n, fun | n => n⟩
theorem sortA : Go.Proofs.SlLaysM.n5 Try.prog sortA_ren := {
  mixed := by kernel_rfl,
  f5 := ⟨Try.f48.name, by decide, Try.func48.trans (congrArg some (by kernel_rfl))⟩,
  f7 := ⟨Try.f61.name, by decide, Try.func61.trans (congrArg some (by kernel_rfl))⟩,
  f8 := Try.func58.trans (congrArg some (by kernel_rfl)),
  f10 := ⟨Try.f77.name, by decide, Try.func77.trans (congrArg some (by kernel_rfl))⟩,
  f11 := ⟨Try.f78.name, by decide, Try.func78.trans (congrArg some (by kernel_rfl))⟩,
  f12 := ⟨Try.f79.name, by decide, Try.func79.trans (congrArg some (by kernel_rfl))⟩,
  f13 := ⟨Try.f80.name, by decide, Try.func80.trans (congrArg some (by kernel_rfl))⟩,
  f14 := ⟨Try.f81.name, by decide, Try.func81.trans (congrArg some (by kernel_rfl))⟩,
  f15 := ⟨Try.f82.name, by decide, Try.func82.trans (congrArg some (by kernel_rfl))⟩,
  f16 := ⟨Try.f83.name, by decide, Try.func83.trans (congrArg some (by kernel_rfl))⟩,
  f17 := ⟨Try.f84.name, by decide, Try.func84.trans (congrArg some (by kernel_rfl))⟩,
  f18 := ⟨Try.f85.name, by decide, Try.func85.trans (congrArg some (by kernel_rfl))⟩,
  f19 := Try.func75.trans (congrArg some (by kernel_rfl)),
  f20 := Try.func76.trans (congrArg some (by kernel_rfl)),
  f30 := ⟨Try.f93.name, by decide, Try.func93.trans (congrArg some (by kernel_rfl))⟩,
  f31 := Try.func89.trans (congrArg some (by kernel_rfl)),
  f32 := Try.func90.trans (congrArg some (by kernel_rfl)),
  f33 := ⟨Try.f94.name, by decide, Try.func94.trans (congrArg some (by kernel_rfl))⟩,
  f34 := ⟨Try.f95.name, by decide, Try.func95.trans (congrArg some (by kernel_rfl))⟩,
  f35 := ⟨Try.f96.name, by decide, Try.func96.trans (congrArg some (by kernel_rfl))⟩,
  f40 := ⟨Try.f99.name, by decide, Try.func99.trans (congrArg some (by kernel_rfl))⟩,
  t0 := Try.underlying0,
  a0 := Try.isAgg0,
  z0 := Try.sizeOf0,
  v0 := Try.zeroValue0,
  t3 := Try.underlying3,
  a3 := Try.isAgg3,
  z3 := Try.sizeOf3,
  v3 := Try.zeroValue3,
  t4 := Try.underlying4,
  a4 := Try.isAgg4,
  z4 := Try.sizeOf4,
  v4 := Try.zeroValue4,
  t5 := Try.underlying5,
  a5 := Try.isAgg5,
  z5 := Try.sizeOf5,
  v5 := Try.zeroValue5,
  t9 := Try.underlying9,
  a9 := Try.isAgg9,
  z9 := Try.sizeOf9,
  v9 := Try.zeroValue9,
  t22 := Try.underlying46,
  a22 := Try.isAgg46,
  z22 := Try.sizeOf46,
  v22 := Try.zeroValue46,
  t23 := Try.underlying46,
  a23 := Try.isAgg46,
  z23 := Try.sizeOf46,
  v23 := Try.zeroValue46,
  t25 := Try.underlying3,
  a25 := Try.isAgg3,
  z25 := Try.sizeOf3,
  v25 := Try.zeroValue3,
  t32 := Try.underlying104,
  a32 := Try.isAgg104,
  z32 := Try.sizeOf104,
  v32 := Try.zeroValue104,
  t35 := Try.underlying124,
  a35 := Try.isAgg124,
  z35 := Try.sizeOf124,
  v35 := Try.zeroValue124,
  t36 := Try.underlying125,
  a36 := Try.isAgg125,
  z36 := Try.sizeOf125,
  v36 := Try.zeroValue125,
  t41 := Try.underlying54,
  a41 := Try.isAgg54,
  z41 := Try.sizeOf54,
  v41 := Try.zeroValue54,
  t44 := Try.underlying131,
  a44 := Try.isAgg131,
  z44 := Try.sizeOf131,
  v44 := Try.zeroValue131,
  t46 := Try.underlying133,
  a46 := Try.isAgg133,
  z46 := Try.sizeOf133,
  v46 := Try.zeroValue133,
  t53 := Try.underlying143,
  a53 := Try.isAgg143,
  z53 := Try.sizeOf143,
  v53 := Try.zeroValue143,
  t57 := Try.underlying147,
  a57 := Try.isAgg147,
  z57 := Try.sizeOf147,
  v57 := Try.zeroValue147,
  t63 := Try.underlying153,
  a63 := Try.isAgg153,
  z63 := Try.sizeOf153,
  v63 := Try.zeroValue153,
  t64 := Try.underlying40,
  a64 := Try.isAgg40,
  z64 := Try.sizeOf40,
  v64 := Try.zeroValue40 }

theorem sortsA (m : Nat) : AnyZI.SortsIn Try.prog sortedA_ren Fence.wide m :=
  ⟨fun blk off cap ss W hH hblk hsz => callsIn_wide.2 (AnyM.slices_Sort_int sortA blk off cap ss W hH hblk hsz),
   fun p cap W => callsIn_wide.2 (AnyM.slices_Sort_int_none sortA p cap W)⟩

/-- How an element reads: as nothing. -/
def rNil : Value → Option (DataW Unit × List MemPlace) := fun _ => some (.nil, [])
def kOf (e : MapEntry) : Int := match e.key with | .int _ k => k | _ => 0
theorem rd_of {e : MapEntry} {k : Int} (he : e.key = ik k) (hk : -9223372036854775808 ≤ k ∧ k ≤ 9223372036854775807) : Go.WideElems.rd Try.prog 3 rNil e = some (.int .i64 k, .nil) := by
  have : keyOf Try.prog 3 (.int .i64 k) = some (.int .i64 k) := keyOf_int_mk Try.underlying3 (by simp [Lit.wf, IntKind.min, IntKind.max, IntKind.signed, IntKind.bits]; omega)
  simp [Go.WideElems.rd, he, ik, this, rNil]
theorem owns_of {w : World} {H : Heap} {b c : Nat} {es : List MapEntry} (hw : w.heap = H) (hb : H[b]? = some (.map es.toArray c)) (hM : MI es c) (hs : es.length ≤ maxLen)
    (hk : ∀ e ∈ es, ∃ k, e.key = ik k ∧ -9223372036854775808 ≤ k ∧ k ≤ 9223372036854775807) :
    ∃ D : DataW Unit, w.ownsMap Try.prog 3 rNil b es.length D ∧ (intKeys D).Perm (es.map kOf) ∧ Maps.size D = es.length := by
  refine ⟨_, ⟨es.toArray, c, by rw [hw]; exact hb, ⟨by simpa using hs, ⟨by simpa using hM.lt, by simpa using hM.nod, by simpa using hM.k.nod⟩, ?_⟩, by simp, rfl⟩, ?_, ?_⟩
  · intro e he
    obtain ⟨k, h1, h2⟩ := hk e (by simpa using he)
    exact ⟨_, rd_of h1 h2⟩
  · have hp := Go.WideShapes.sorted_perm (es.map (Go.WideElems.rg Try.prog 3 rNil))
    show (List.map _ _).Perm _
    refine (hp.map _).trans ?_
    rw [List.map_map]
    refine List.Perm.of_eq (List.map_congr_left (fun e he => ?_))
    obtain ⟨k, h1, h2⟩ := hk e he
    simp [Function.comp, Go.WideElems.rg, rd_of h1 h2, Go.intOf, kOf, h1, ik]
  · have hp := Go.WideShapes.sorted_perm (es.map (Go.WideElems.rg Try.prog 3 rNil))
    have := hp.length_eq
    simpa [Maps.size] using this

/-- maps.Keys: the closure over the map. -/
theorem keys31 (H : Heap) (m : Option Nat) : FN Try.prog 31 [.map m] H (fun r H' => ∃ b, r = .func (.func 49) #[] [.pointer (some ⟨b, 0, none⟩)].toArray ∧ H'[b]? = some (.cells [.map m].toArray 61 (0, 0)) ∧ H.size ≤ b ∧ Ext H H') := by
  refine fn_intro 4 Try.func31 rfl Try.ntmps31 rfl ?_
  refine wc_seq ?_
  refine wc_plain ?_
  refine wf_box rfl rfl rfl rfl (fun b1 H1 e1 z1 hb1 hk1 => ⟨trivial, ?_⟩)
  refine wf_rd _ rfl rfl (RD.assign rfl) rfl ?_
  refine wf_nil ?_
  refine at_thn ?_
  refine wc_seq ?_
  refine wc_plain ?_
  refine wf_rd _ rfl rfl (RD.mkFunc rfl) rfl ?_
  refine wf_rd _ rfl rfl (RD.assign rfl) rfl ?_
  refine wf_nil ?_
  refine at_thn ?_
  refine wc_ret ?_
  refine at_ret1 rfl rfl ?_
  exact ⟨b1, rfl, hb1, by omega, Ext.new z1 hk1⟩
/-- slices.Sorted over it: the keys, sorted. -/
theorem sorted30 (H : Heap) (p b c : Nat) (es : List MapEntry) (hp : H[p]? = some (.cells [.map (some b)].toArray 61 (0, 0))) (hb : H[b]? = some (.map es.toArray c)) (hM : MI es c) (hs : es.length ≤ 4194304)
    (hk : ∀ e ∈ es, ∃ k, e.key = ik k ∧ -9223372036854775808 ≤ k ∧ k ≤ 9223372036854775807) :
    FN Try.prog 30 [.func (.func 49) #[] [.pointer (some ⟨p, 0, none⟩)].toArray] H (fun v H' => ∃ ss : List Int, ss.Perm (es.map kOf) ∧ ss.Pairwise (fun x y => x ≤ y) ∧ Own H' 3 1 v ss.length (ss.map ik) ∧ (∀ g, v.ownBlock = some g → H.size ≤ g) ∧ Ext H H') := by
  intro w hw
  obtain ⟨D, hown, hperm, hsize⟩ := owns_of hw hb hM (Nat.le_trans hs (by simp [maxLen])) hk
  have hseq : SeqGives Fence.wide 2 Try.prog 49 #[.pointer (some ⟨p, 0, none⟩)] encZ (fun ss => ss.Perm (intKeys D)) (Maps.size D) w :=
    AnyZI.keys_gives (ρ := keysA_ren) { keysA with } Fence.wide _ trivial rfl (by omega) p b es.length D w (by rw [hw]; exact lt_of hp) (by rw [cell_of hw hp]; rfl) hown
  have cS := AnyZI.sorted_in sortedA Fence.wide 5 trivial trivial trivial trivial rfl (by omega) (sortsA _) (enters_of Try.func48 (by kernel_rfl) rfl) 49 #[.pointer (some ⟨p, 0, none⟩)] trivial (enters_of Try.func49 (by kernel_rfl) rfl) _ _ (by rw [hsize]; exact Nat.le_trans hs (by simp [maxLen])) (by rw [hsize]; omega) _ hseq
  change CallsIn _ _ Try.prog 30 _ _ _ at cS
  refine ((callsIn_wide (n := 5)).1 cS).mono ?_
  rintro e w' ⟨v, ss, rfl, hS, hrow, hnil, hbl⟩
  have hpm := List.mergeSort_perm ss (fun x y => decide (x ≤ y))
  refine ⟨⟨hbl.os, hbl.tape, hbl.output⟩, ss.mergeSort (fun x y => decide (x ≤ y)), (hpm.trans hS).trans hperm, ?_, ?_, ?_, ?_⟩
  · have := List.pairwise_mergeSort (le := fun x y : Int => decide (x ≤ y)) (fun a b c h1 h2 => by simp at *; omega) (fun a b => by simp; omega) ss
    exact this.imp (fun h => by simpa using h)
  · rw [hpm.length_eq]
    refine ⟨hrow.1, ?_⟩
    rcases hrow.2 with h | ⟨g, cap, cur, h1, h2, h3⟩
    · exact .inl h
    · exact .inr ⟨g, cap, cur, h1, Nat.zero_le _, h3⟩
  · intro g hg
    rcases hrow.2 with ⟨rfl, _⟩ | ⟨g', cap, cur, rfl, h2, h3⟩
    · simp [Value.ownBlock] at hg
    · simp only [Value.ownBlock, Option.some.injEq] at hg
      subst hg; rw [← hw]; exact h2
  · exact ⟨by rw [← hw]; exact hbl.size, fun j hj => by rw [← hw] at hj ⊢; exact hbl.block j hj⟩
end Go.Proofs.Ytfomnjippakjpaa
