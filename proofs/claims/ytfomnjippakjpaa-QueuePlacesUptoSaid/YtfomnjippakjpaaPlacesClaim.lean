/-
  QueuePlaces: over arguments of bulk at most 1048576 the call answers true and each argument reads afterwards as it read before. Conditions: those of the given row, and its bound.
-/
import Derived.Test.YtfomnjippakjpaaLaw4
import Derived.Test.YtfomnjippakjpaaBridge2
import Derived.WalkKit
namespace Go.Proofs.Ytfomnjippakjpaa.places
open Go.S Go.ChangeShapes Go.WideShapes Go.ChangeAt Go.RowKit

theorem own : ownKnob Try.prog.godebug = none := by kernel_rfl
theorem laid : laidOutB Try.prog = true := by kernel_rfl
theorem maps : mapsRowed Try.prog = true := by kernel_rfl
theorem full : ((List.range Try.prog.types.size).all fun t => match Try.prog.underlying t with | some (.slice e) => decide (0 < Try.prog.cellsOf e) | _ => true) = true := by kernel_rfl

set_option maxRecDepth 100000 in
theorem contract (H : Type) (enc : TypeId × Value → H) (W : World) (base : Nat) (args : Array Value) (ds gs : List (DataW H)) (before : List MemPlace)
    (hval : ∀ (j : Nat) t v, Try.f4.params[j]? = some t → args[j]? = some v → Value.okWide Try.prog W .any base t v)
    (hW : DataW.Whole enc Try.prog Try.f4.params.toList Rows.queuePlacesSpec.vars false W args.toList ds gs before) (hk : Rows.uptoSmall H (ds ++ gs) = true) :
    Calls Try.prog 4 args W fun e W' => ∃ v, e = .returned v ∧ Rows.queuePlacesSpec.post enc Try.prog Try.f4 false true false false W args v W' := by
  have hW' := hW
  obtain ⟨p, q, hA0, hV, rfl, hfz, hnd⟩ := hW
  have hA : DataW.TrodAll enc Try.prog W 0 (fun _ => true) true Try.f4.params.toList args.toList ds p := hA0
  rw [Try.params4] at hA hval
  obtain ⟨v0, vs0, d0, ds0, p0, q0, hargs, rfl, rfl, h0, r0⟩ := trodAll_cons hA
  obtain ⟨v1, vs1, d1, ds1, p1, q1, hargs1, rfl, rfl, h1, r1⟩ := trodAll_cons r0
  obtain ⟨rfl, rfl, rfl⟩ := trodAll_nil r1
  subst hargs1
  obtain rfl : args = #[v0, v1] := by cases args; simp_all
  obtain ⟨rfl, rfl⟩ := trodVars_none hV
  have hbulk : Rows.uptoBulkAll ([d0, d1] ++ []) ≤ 1048576 := of_decide_eq_true hk
  simp only [List.append_nil, Rows.uptoBulkAll] at hbulk
  obtain ⟨n0, h0⟩ := h0
  obtain ⟨n1, h1⟩ := h1
  have k0 := hval 0 23 v0 rfl rfl
  have k1 := hval 1 45 v1 rfl rfl
  simp only [Value.okWide, Try.underlying23, Try.underlying45] at k0 k1
  obtain ⟨cs0, rfl, _, _⟩ := k0
  obtain ⟨cf, hcf⟩ := read_conf h0
  obtain ⟨w1, hw1⟩ : ∃ w, v1.cells.toList = [w] := by
    rcases DataW.trod_slice Try.underlying45 h1 with ⟨e, _⟩ | ⟨a, len, cap, _, _, _, _, e, _⟩
    · exact ⟨_, e⟩
    · exact ⟨_, e⟩
  have hv1 : v1 = w1 := by
    cases v1 <;> first | (simp [Value.cells] at hw1; exact hw1) | skip
    simp [Cell.okWide, Try.underlying45, Cell.ok] at k1
  subst hv1
  rw [hw1] at h1
  obtain ⟨cs, hv, hl⟩ := read_ops h1 (by show Rows.uptoBulk d1 ≤ _; omega)
  have hc : (Value.agg cs0) = .agg cf.cells.toArray := by
    have : cs0.toList = cf.cells := hcf
    rw [← this]
  rw [hc] at hW' ⊢
  have hcall := law4 n1 W.heap (ZW W) cf v1 cs hv (fun b hb => hb) hl
  refine (hcall W rfl).mono fun e W' ⟨hs, he⟩ => ?_
  cases e with
  | returned r =>
    obtain ⟨rfl, hx⟩ := he
    exact ⟨_, rfl, law_post laid maps full (by kernel_rfl) rfl (by kernel_rfl) Try.underlying4 (fun gs' => by cases gs' with | nil => exact .inl ⟨rfl, rfl⟩ | cons g gs' => exact .inr (by simp)) (fun gs' => by cases gs' <;> rfl) hW' hs.os hs.output hx.old⟩
  | panicked c => exact he.elim
  | outgrown => exact he.elim

set_option maxRecDepth 100000 in
theorem lifted (os : Os) (started : os.Started) (H : Type) (enc : TypeId × Value → H) (F : Stop.Interp) :
    ReturnsInHanded {} Try.checked os 4 .any ((Rows.OpenSpec.upto Rows.queuePlacesSpec).pre6 enc Try.prog Try.f4 Rows.queuePlacesUptoRow.domain false) (((Rows.OpenSpec.upto Rows.queuePlacesSpec).at F).post enc Try.prog Try.f4 false true false false) := by
  refine returnsInHanded_of_cond (C := Try.checked) (s := Rows.OpenSpec.upto Rows.queuePlacesSpec) (k := Rows.uptoSmall) rfl own started (by kernel_rfl) Try.func4
    (OpenSpec.witness (enc := enc) (C := Try.checked) (s := Rows.OpenSpec.upto Rows.queuePlacesSpec) (k := Rows.uptoSmall) rfl false ⟨#[], #[.agg #[.int .i64 0, .int .i64 0, .int .i64 0, .int .i64 0, .string .empty, .string .empty, .string .empty, .bool false, .bool false, .bool false], .slice none 0 0], []⟩ 8 (by kernel_rfl) (by kernel_rfl) (by kernel_rfl)
      (x := ([.agg [.lit (.int .i64 0), .lit (.int .i64 0), .lit (.int .i64 0), .lit (.int .i64 0), .lit (.string []), .lit (.string []), .lit (.string []), .lit (.bool false), .lit (.bool false), .lit (.bool false)], .nil], [], [])) (by kernel_rfl) rfl (by kernel_rfl)) ?_
  intro W base args ds gs before hval hW _ hk _
  exact contract H enc W base args ds gs before hval hW hk

theorem proved : Rows.QueuePlacesUptoSaid :=
  OpenClaim.holds_of_cond 4 Try.f4 rfl rfl rfl rfl rfl rfl rfl ⟨rfl, rfl, rfl, rfl, rfl⟩ rfl rfl rfl rfl rfl (by kernel_rfl) Try.func4 (by kernel_rfl)
    (of_decide_eq_true (by kernel_rfl)) (by unfold Func.isWrapper; first | (rw [if_pos (by decide +kernel)]; kernel_rfl) | (rw [if_neg (by decide +kernel)]; exact ⟨rfl, rfl⟩))
    (fun os started H enc _ F => lifted os started H enc F)
end Go.Proofs.Ytfomnjippakjpaa.places
