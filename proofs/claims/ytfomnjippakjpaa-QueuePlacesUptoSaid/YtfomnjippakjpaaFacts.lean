/-
  Closed facts of the program's tables.
-/
import Derived.Test.YtfomnjippakjpaaData
import Derived.Test.YtfomnjippakjpaaRows
namespace Go.Proofs.Ytfomnjippakjpaa
open Go.S
theorem el28 : ElTy Try.prog 28 119 6 (Go.Value.agg #[Go.Value.string { data := #[] }, Go.Value.int Go.IntKind.i64 0, Go.Value.int Go.IntKind.i64 0, Go.Value.string { data := #[] }, Go.Value.slice none 0 0, Go.Value.slice none 0 0]) 96 := by
  obtain ⟨i, h1, h2, h3, h4⟩ := Go.info_parts (show (Try.prog.info? 119).map (fun i => (i.zero, i.size, i.bytes)) = some (some (Go.Value.agg #[Go.Value.string { data := #[] }, Go.Value.int Go.IntKind.i64 0, Go.Value.int Go.IntKind.i64 0, Go.Value.string { data := #[] }, Go.Value.slice none 0 0, Go.Value.slice none 0 0]), 6, 96) by kernel_rfl)
  exact ⟨Try.underlying28, ⟨i, h1, h2, h3, h4⟩, rfl, by decide⟩
theorem el115 : ElTy Try.prog 115 117 5 (Go.Value.agg #[Go.Value.int Go.IntKind.i64 0, Go.Value.int Go.IntKind.i64 0, Go.Value.string { data := #[] }, Go.Value.slice none 0 0, Go.Value.slice none 0 0]) 80 := by
  obtain ⟨i, h1, h2, h3, h4⟩ := Go.info_parts (show (Try.prog.info? 117).map (fun i => (i.zero, i.size, i.bytes)) = some (some (Go.Value.agg #[Go.Value.int Go.IntKind.i64 0, Go.Value.int Go.IntKind.i64 0, Go.Value.string { data := #[] }, Go.Value.slice none 0 0, Go.Value.slice none 0 0]), 5, 80) by kernel_rfl)
  exact ⟨Try.underlying115, ⟨i, h1, h2, h3, h4⟩, rfl, by decide⟩
theorem el66 : ElTy Try.prog 66 69 3 (Go.Value.agg #[Go.Value.int Go.IntKind.i64 0, Go.Value.int Go.IntKind.i64 0, Go.Value.int Go.IntKind.i64 0]) 24 := by
  obtain ⟨i, h1, h2, h3, h4⟩ := Go.info_parts (show (Try.prog.info? 69).map (fun i => (i.zero, i.size, i.bytes)) = some (some (Go.Value.agg #[Go.Value.int Go.IntKind.i64 0, Go.Value.int Go.IntKind.i64 0, Go.Value.int Go.IntKind.i64 0]), 3, 24) by kernel_rfl)
  exact ⟨Try.underlying66, ⟨i, h1, h2, h3, h4⟩, rfl, by decide⟩
theorem el24 : ElTy Try.prog 24 35 25 (Go.Value.agg #[Go.Value.int Go.IntKind.i64 0, Go.Value.int Go.IntKind.i64 0, Go.Value.int Go.IntKind.i64 0, Go.Value.int Go.IntKind.i64 0, Go.Value.string { data := #[] }, Go.Value.string { data := #[] }, Go.Value.int Go.IntKind.i64 0, Go.Value.string { data := #[] }, Go.Value.string { data := #[] }, Go.Value.slice none 0 0, Go.Value.int Go.IntKind.i64 0, Go.Value.int Go.IntKind.i64 0, Go.Value.string { data := #[] }, Go.Value.string { data := #[] }, Go.Value.string { data := #[] }, Go.Value.string { data := #[] }, Go.Value.int Go.IntKind.i64 0, Go.Value.string { data := #[] }, Go.Value.string { data := #[] }, Go.Value.string { data := #[] }, Go.Value.int Go.IntKind.i64 0, Go.Value.int Go.IntKind.i64 0, Go.Value.slice none 0 0, Go.Value.bool false, Go.Value.bool false]) 320 := by
  obtain ⟨i, h1, h2, h3, h4⟩ := Go.info_parts (show (Try.prog.info? 35).map (fun i => (i.zero, i.size, i.bytes)) = some (some (Go.Value.agg #[Go.Value.int Go.IntKind.i64 0, Go.Value.int Go.IntKind.i64 0, Go.Value.int Go.IntKind.i64 0, Go.Value.int Go.IntKind.i64 0, Go.Value.string { data := #[] }, Go.Value.string { data := #[] }, Go.Value.int Go.IntKind.i64 0, Go.Value.string { data := #[] }, Go.Value.string { data := #[] }, Go.Value.slice none 0 0, Go.Value.int Go.IntKind.i64 0, Go.Value.int Go.IntKind.i64 0, Go.Value.string { data := #[] }, Go.Value.string { data := #[] }, Go.Value.string { data := #[] }, Go.Value.string { data := #[] }, Go.Value.int Go.IntKind.i64 0, Go.Value.string { data := #[] }, Go.Value.string { data := #[] }, Go.Value.string { data := #[] }, Go.Value.int Go.IntKind.i64 0, Go.Value.int Go.IntKind.i64 0, Go.Value.slice none 0 0, Go.Value.bool false, Go.Value.bool false]), 25, 320) by kernel_rfl)
  exact ⟨Try.underlying24, ⟨i, h1, h2, h3, h4⟩, rfl, by decide⟩
theorem el46 : ElTy Try.prog 46 3 1 (Go.Value.int Go.IntKind.i64 0) 8 := by
  obtain ⟨i, h1, h2, h3, h4⟩ := Go.info_parts (show (Try.prog.info? 3).map (fun i => (i.zero, i.size, i.bytes)) = some (some (Go.Value.int Go.IntKind.i64 0), 1, 8) by kernel_rfl)
  exact ⟨Try.underlying46, ⟨i, h1, h2, h3, h4⟩, rfl, by decide⟩
theorem el31 : ElTy Try.prog 31 9 1 (Go.Value.string { data := #[] }) 16 := by
  obtain ⟨i, h1, h2, h3, h4⟩ := Go.info_parts (show (Try.prog.info? 9).map (fun i => (i.zero, i.size, i.bytes)) = some (some (Go.Value.string { data := #[] }), 1, 16) by kernel_rfl)
  exact ⟨Try.underlying31, ⟨i, h1, h2, h3, h4⟩, rfl, by decide⟩
theorem en3 (A : Array Value) (w : World) : (callFunc 3 A).run Try.prog w = .ok (.enter 3 A) w := run_enter Try.func3 (by kernel_rfl) rfl A w
theorem en4 (A : Array Value) (w : World) : (callFunc 4 A).run Try.prog w = .ok (.enter 4 A) w := run_enter Try.func4 (by kernel_rfl) rfl A w
theorem en5 (A : Array Value) (w : World) : (callFunc 5 A).run Try.prog w = .ok (.enter 5 A) w := run_enter Try.func5 (by kernel_rfl) rfl A w
theorem en6 (A : Array Value) (w : World) : (callFunc 6 A).run Try.prog w = .ok (.enter 6 A) w := run_enter Try.func6 (by kernel_rfl) rfl A w
theorem en7 (A : Array Value) (w : World) : (callFunc 7 A).run Try.prog w = .ok (.enter 7 A) w := run_enter Try.func7 (by kernel_rfl) rfl A w
theorem en8 (A : Array Value) (w : World) : (callFunc 8 A).run Try.prog w = .ok (.enter 8 A) w := run_enter Try.func8 (by kernel_rfl) rfl A w
theorem en9 (A : Array Value) (w : World) : (callFunc 9 A).run Try.prog w = .ok (.enter 9 A) w := run_enter Try.func9 (by kernel_rfl) rfl A w
theorem en10 (A : Array Value) (w : World) : (callFunc 10 A).run Try.prog w = .ok (.enter 10 A) w := run_enter Try.func10 (by kernel_rfl) rfl A w
theorem en11 (A : Array Value) (w : World) : (callFunc 11 A).run Try.prog w = .ok (.enter 11 A) w := run_enter Try.func11 (by kernel_rfl) rfl A w
theorem en12 (A : Array Value) (w : World) : (callFunc 12 A).run Try.prog w = .ok (.enter 12 A) w := run_enter Try.func12 (by kernel_rfl) rfl A w
theorem en13 (A : Array Value) (w : World) : (callFunc 13 A).run Try.prog w = .ok (.enter 13 A) w := run_enter Try.func13 (by kernel_rfl) rfl A w
theorem en14 (A : Array Value) (w : World) : (callFunc 14 A).run Try.prog w = .ok (.enter 14 A) w := run_enter Try.func14 (by kernel_rfl) rfl A w
theorem en15 (A : Array Value) (w : World) : (callFunc 15 A).run Try.prog w = .ok (.enter 15 A) w := run_enter Try.func15 (by kernel_rfl) rfl A w
theorem en16 (A : Array Value) (w : World) : (callFunc 16 A).run Try.prog w = .ok (.enter 16 A) w := run_enter Try.func16 (by kernel_rfl) rfl A w
theorem en17 (A : Array Value) (w : World) : (callFunc 17 A).run Try.prog w = .ok (.enter 17 A) w := run_enter Try.func17 (by kernel_rfl) rfl A w
theorem en18 (A : Array Value) (w : World) : (callFunc 18 A).run Try.prog w = .ok (.enter 18 A) w := run_enter Try.func18 (by kernel_rfl) rfl A w
theorem en19 (A : Array Value) (w : World) : (callFunc 19 A).run Try.prog w = .ok (.enter 19 A) w := run_enter Try.func19 (by kernel_rfl) rfl A w
theorem en20 (A : Array Value) (w : World) : (callFunc 20 A).run Try.prog w = .ok (.enter 20 A) w := run_enter Try.func20 (by kernel_rfl) rfl A w
theorem en21 (A : Array Value) (w : World) : (callFunc 21 A).run Try.prog w = .ok (.enter 21 A) w := run_enter Try.func21 (by kernel_rfl) rfl A w
theorem en22 (A : Array Value) (w : World) : (callFunc 22 A).run Try.prog w = .ok (.enter 22 A) w := run_enter Try.func22 (by kernel_rfl) rfl A w
theorem en23 (A : Array Value) (w : World) : (callFunc 23 A).run Try.prog w = .ok (.enter 23 A) w := run_enter Try.func23 (by kernel_rfl) rfl A w
theorem en24 (A : Array Value) (w : World) : (callFunc 24 A).run Try.prog w = .ok (.enter 24 A) w := run_enter Try.func24 (by kernel_rfl) rfl A w
theorem en25 (A : Array Value) (w : World) : (callFunc 25 A).run Try.prog w = .ok (.enter 25 A) w := run_enter Try.func25 (by kernel_rfl) rfl A w
theorem en26 (A : Array Value) (w : World) : (callFunc 26 A).run Try.prog w = .ok (.enter 26 A) w := run_enter Try.func26 (by kernel_rfl) rfl A w
theorem en27 (A : Array Value) (w : World) : (callFunc 27 A).run Try.prog w = .ok (.enter 27 A) w := run_enter Try.func27 (by kernel_rfl) rfl A w
theorem en28 (A : Array Value) (w : World) : (callFunc 28 A).run Try.prog w = .ok (.enter 28 A) w := run_enter Try.func28 (by kernel_rfl) rfl A w
theorem en29 (A : Array Value) (w : World) : (callFunc 29 A).run Try.prog w = .ok (.enter 29 A) w := run_enter Try.func29 (by kernel_rfl) rfl A w
theorem en30 (A : Array Value) (w : World) : (callFunc 30 A).run Try.prog w = .ok (.enter 30 A) w := run_enter Try.func30 (by kernel_rfl) rfl A w
theorem en31 (A : Array Value) (w : World) : (callFunc 31 A).run Try.prog w = .ok (.enter 31 A) w := run_enter Try.func31 (by kernel_rfl) rfl A w
theorem en32 (A : Array Value) (w : World) : (callFunc 32 A).run Try.prog w = .ok (.enter 32 A) w := run_enter Try.func32 (by kernel_rfl) rfl A w
theorem en33 (A : Array Value) (w : World) : (callFunc 33 A).run Try.prog w = .ok (.enter 33 A) w := run_enter Try.func33 (by kernel_rfl) rfl A w
theorem en34 (A : Array Value) (w : World) : (callFunc 34 A).run Try.prog w = .ok (.enter 34 A) w := run_enter Try.func34 (by kernel_rfl) rfl A w
theorem en35 (A : Array Value) (w : World) : (callFunc 35 A).run Try.prog w = .ok (.enter 35 A) w := run_enter Try.func35 (by kernel_rfl) rfl A w
theorem en36 (A : Array Value) (w : World) : (callFunc 36 A).run Try.prog w = .ok (.enter 36 A) w := run_enter Try.func36 (by kernel_rfl) rfl A w
theorem en37 (A : Array Value) (w : World) : (callFunc 37 A).run Try.prog w = .ok (.enter 37 A) w := run_enter Try.func37 (by kernel_rfl) rfl A w
theorem en38 (A : Array Value) (w : World) : (callFunc 38 A).run Try.prog w = .ok (.enter 38 A) w := run_enter Try.func38 (by kernel_rfl) rfl A w
theorem en39 (A : Array Value) (w : World) : (callFunc 39 A).run Try.prog w = .ok (.enter 39 A) w := run_enter Try.func39 (by kernel_rfl) rfl A w
theorem en40 (A : Array Value) (w : World) : (callFunc 40 A).run Try.prog w = .ok (.enter 40 A) w := run_enter Try.func40 (by kernel_rfl) rfl A w
theorem en41 (A : Array Value) (w : World) : (callFunc 41 A).run Try.prog w = .ok (.enter 41 A) w := run_enter Try.func41 (by kernel_rfl) rfl A w
theorem en42 (A : Array Value) (w : World) : (callFunc 42 A).run Try.prog w = .ok (.enter 42 A) w := run_enter Try.func42 (by kernel_rfl) rfl A w
theorem en43 (A : Array Value) (w : World) : (callFunc 43 A).run Try.prog w = .ok (.enter 43 A) w := run_enter Try.func43 (by kernel_rfl) rfl A w
theorem en44 (A : Array Value) (w : World) : (callFunc 44 A).run Try.prog w = .ok (.enter 44 A) w := run_enter Try.func44 (by kernel_rfl) rfl A w
theorem en45 (A : Array Value) (w : World) : (callFunc 45 A).run Try.prog w = .ok (.enter 45 A) w := run_enter Try.func45 (by kernel_rfl) rfl A w
theorem en46 (A : Array Value) (w : World) : (callFunc 46 A).run Try.prog w = .ok (.enter 46 A) w := run_enter Try.func46 (by kernel_rfl) rfl A w
theorem en47 (A : Array Value) (w : World) : (callFunc 47 A).run Try.prog w = .ok (.enter 47 A) w := run_enter Try.func47 (by kernel_rfl) rfl A w
theorem en48 (A : Array Value) (w : World) : (callFunc 48 A).run Try.prog w = .ok (.enter 48 A) w := run_enter Try.func48 (by kernel_rfl) rfl A w
theorem en49 (A : Array Value) (w : World) : (callFunc 49 A).run Try.prog w = .ok (.enter 49 A) w := run_enter Try.func49 (by kernel_rfl) rfl A w
theorem en50 (A : Array Value) (w : World) : (callFunc 50 A).run Try.prog w = .ok (.enter 50 A) w := run_enter Try.func50 (by kernel_rfl) rfl A w
theorem en51 (A : Array Value) (w : World) : (callFunc 51 A).run Try.prog w = .ok (.enter 51 A) w := run_enter Try.func51 (by kernel_rfl) rfl A w
theorem en52 (A : Array Value) (w : World) : (callFunc 52 A).run Try.prog w = .ok (.enter 52 A) w := run_enter Try.func52 (by kernel_rfl) rfl A w
theorem en53 (A : Array Value) (w : World) : (callFunc 53 A).run Try.prog w = .ok (.enter 53 A) w := run_enter Try.func53 (by kernel_rfl) rfl A w
theorem en54 (A : Array Value) (w : World) : (callFunc 54 A).run Try.prog w = .ok (.enter 54 A) w := run_enter Try.func54 (by kernel_rfl) rfl A w
theorem en55 (A : Array Value) (w : World) : (callFunc 55 A).run Try.prog w = .ok (.enter 55 A) w := run_enter Try.func55 (by kernel_rfl) rfl A w
theorem en56 (A : Array Value) (w : World) : (callFunc 56 A).run Try.prog w = .ok (.enter 56 A) w := run_enter Try.func56 (by kernel_rfl) rfl A w
theorem en57 (A : Array Value) (w : World) : (callFunc 57 A).run Try.prog w = .ok (.enter 57 A) w := run_enter Try.func57 (by kernel_rfl) rfl A w
theorem en58 (A : Array Value) (w : World) : (callFunc 58 A).run Try.prog w = .ok (.enter 58 A) w := run_enter Try.func58 (by kernel_rfl) rfl A w
theorem en59 (A : Array Value) (w : World) : (callFunc 59 A).run Try.prog w = .ok (.enter 59 A) w := run_enter Try.func59 (by kernel_rfl) rfl A w
theorem en60 (A : Array Value) (w : World) : (callFunc 60 A).run Try.prog w = .ok (.enter 60 A) w := run_enter Try.func60 (by kernel_rfl) rfl A w
theorem en61 (A : Array Value) (w : World) : (callFunc 61 A).run Try.prog w = .ok (.enter 61 A) w := run_enter Try.func61 (by kernel_rfl) rfl A w
theorem en62 (A : Array Value) (w : World) : (callFunc 62 A).run Try.prog w = .ok (.enter 62 A) w := run_enter Try.func62 (by kernel_rfl) rfl A w
theorem en63 (A : Array Value) (w : World) : (callFunc 63 A).run Try.prog w = .ok (.enter 63 A) w := run_enter Try.func63 (by kernel_rfl) rfl A w
theorem en64 (A : Array Value) (w : World) : (callFunc 64 A).run Try.prog w = .ok (.enter 64 A) w := run_enter Try.func64 (by kernel_rfl) rfl A w
theorem en65 (A : Array Value) (w : World) : (callFunc 65 A).run Try.prog w = .ok (.enter 65 A) w := run_enter Try.func65 (by kernel_rfl) rfl A w
theorem en66 (A : Array Value) (w : World) : (callFunc 66 A).run Try.prog w = .ok (.enter 66 A) w := run_enter Try.func66 (by kernel_rfl) rfl A w
theorem en67 (A : Array Value) (w : World) : (callFunc 67 A).run Try.prog w = .ok (.enter 67 A) w := run_enter Try.func67 (by kernel_rfl) rfl A w
theorem en68 (A : Array Value) (w : World) : (callFunc 68 A).run Try.prog w = .ok (.enter 68 A) w := run_enter Try.func68 (by kernel_rfl) rfl A w
theorem en69 (A : Array Value) (w : World) : (callFunc 69 A).run Try.prog w = .ok (.enter 69 A) w := run_enter Try.func69 (by kernel_rfl) rfl A w
theorem en70 (A : Array Value) (w : World) : (callFunc 70 A).run Try.prog w = .ok (.enter 70 A) w := run_enter Try.func70 (by kernel_rfl) rfl A w
theorem en71 (A : Array Value) (w : World) : (callFunc 71 A).run Try.prog w = .ok (.enter 71 A) w := run_enter Try.func71 (by kernel_rfl) rfl A w
theorem en72 (A : Array Value) (w : World) : (callFunc 72 A).run Try.prog w = .ok (.enter 72 A) w := run_enter Try.func72 (by kernel_rfl) rfl A w
theorem en73 (A : Array Value) (w : World) : (callFunc 73 A).run Try.prog w = .ok (.enter 73 A) w := run_enter Try.func73 (by kernel_rfl) rfl A w
theorem en74 (A : Array Value) (w : World) : (callFunc 74 A).run Try.prog w = .ok (.enter 74 A) w := run_enter Try.func74 (by kernel_rfl) rfl A w
theorem en75 (A : Array Value) (w : World) : (callFunc 75 A).run Try.prog w = .ok (.enter 75 A) w := run_enter Try.func75 (by kernel_rfl) rfl A w
theorem en76 (A : Array Value) (w : World) : (callFunc 76 A).run Try.prog w = .ok (.enter 76 A) w := run_enter Try.func76 (by kernel_rfl) rfl A w
theorem en77 (A : Array Value) (w : World) : (callFunc 77 A).run Try.prog w = .ok (.enter 77 A) w := run_enter Try.func77 (by kernel_rfl) rfl A w
theorem en78 (A : Array Value) (w : World) : (callFunc 78 A).run Try.prog w = .ok (.enter 78 A) w := run_enter Try.func78 (by kernel_rfl) rfl A w
theorem en79 (A : Array Value) (w : World) : (callFunc 79 A).run Try.prog w = .ok (.enter 79 A) w := run_enter Try.func79 (by kernel_rfl) rfl A w
theorem en80 (A : Array Value) (w : World) : (callFunc 80 A).run Try.prog w = .ok (.enter 80 A) w := run_enter Try.func80 (by kernel_rfl) rfl A w
theorem en81 (A : Array Value) (w : World) : (callFunc 81 A).run Try.prog w = .ok (.enter 81 A) w := run_enter Try.func81 (by kernel_rfl) rfl A w
theorem en82 (A : Array Value) (w : World) : (callFunc 82 A).run Try.prog w = .ok (.enter 82 A) w := run_enter Try.func82 (by kernel_rfl) rfl A w
theorem en83 (A : Array Value) (w : World) : (callFunc 83 A).run Try.prog w = .ok (.enter 83 A) w := run_enter Try.func83 (by kernel_rfl) rfl A w
theorem en84 (A : Array Value) (w : World) : (callFunc 84 A).run Try.prog w = .ok (.enter 84 A) w := run_enter Try.func84 (by kernel_rfl) rfl A w
theorem en85 (A : Array Value) (w : World) : (callFunc 85 A).run Try.prog w = .ok (.enter 85 A) w := run_enter Try.func85 (by kernel_rfl) rfl A w
theorem en86 (A : Array Value) (w : World) : (callFunc 86 A).run Try.prog w = .ok (.enter 86 A) w := run_enter Try.func86 (by kernel_rfl) rfl A w
theorem en87 (A : Array Value) (w : World) : (callFunc 87 A).run Try.prog w = .ok (.enter 87 A) w := run_enter Try.func87 (by kernel_rfl) rfl A w
theorem en88 (A : Array Value) (w : World) : (callFunc 88 A).run Try.prog w = .ok (.enter 88 A) w := run_enter Try.func88 (by kernel_rfl) rfl A w
theorem en89 (A : Array Value) (w : World) : (callFunc 89 A).run Try.prog w = .ok (.enter 89 A) w := run_enter Try.func89 (by kernel_rfl) rfl A w
theorem en90 (A : Array Value) (w : World) : (callFunc 90 A).run Try.prog w = .ok (.enter 90 A) w := run_enter Try.func90 (by kernel_rfl) rfl A w
theorem en91 (A : Array Value) (w : World) : (callFunc 91 A).run Try.prog w = .ok (.enter 91 A) w := run_enter Try.func91 (by kernel_rfl) rfl A w
theorem en92 (A : Array Value) (w : World) : (callFunc 92 A).run Try.prog w = .ok (.enter 92 A) w := run_enter Try.func92 (by kernel_rfl) rfl A w
theorem en93 (A : Array Value) (w : World) : (callFunc 93 A).run Try.prog w = .ok (.enter 93 A) w := run_enter Try.func93 (by kernel_rfl) rfl A w
theorem en94 (A : Array Value) (w : World) : (callFunc 94 A).run Try.prog w = .ok (.enter 94 A) w := run_enter Try.func94 (by kernel_rfl) rfl A w
theorem en95 (A : Array Value) (w : World) : (callFunc 95 A).run Try.prog w = .ok (.enter 95 A) w := run_enter Try.func95 (by kernel_rfl) rfl A w
theorem en96 (A : Array Value) (w : World) : (callFunc 96 A).run Try.prog w = .ok (.enter 96 A) w := run_enter Try.func96 (by kernel_rfl) rfl A w
theorem en97 (A : Array Value) (w : World) : (callFunc 97 A).run Try.prog w = .ok (.enter 97 A) w := run_enter Try.func97 (by kernel_rfl) rfl A w
theorem en98 (A : Array Value) (w : World) : (callFunc 98 A).run Try.prog w = .ok (.enter 98 A) w := run_enter Try.func98 (by kernel_rfl) rfl A w
theorem en99 (A : Array Value) (w : World) : (callFunc 99 A).run Try.prog w = .ok (.enter 99 A) w := run_enter Try.func99 (by kernel_rfl) rfl A w
theorem en116 (A : Array Value) (w : World) : (callFunc 116 A).run Try.prog w = .ok (.enter 116 A) w := run_enter Try.func116 (by kernel_rfl) rfl A w
theorem en117 (A : Array Value) (w : World) : (callFunc 117 A).run Try.prog w = .ok (.enter 117 A) w := run_enter Try.func117 (by kernel_rfl) rfl A w
theorem en118 (A : Array Value) (w : World) : (callFunc 118 A).run Try.prog w = .ok (.enter 118 A) w := run_enter Try.func118 (by kernel_rfl) rfl A w
theorem en119 (A : Array Value) (w : World) : (callFunc 119 A).run Try.prog w = .ok (.enter 119 A) w := run_enter Try.func119 (by kernel_rfl) rfl A w
theorem en120 (A : Array Value) (w : World) : (callFunc 120 A).run Try.prog w = .ok (.enter 120 A) w := run_enter Try.func120 (by kernel_rfl) rfl A w
theorem built69  : Try.prog.built 69 [] = some [Go.Value.int Go.IntKind.i64 0, Go.Value.int Go.IntKind.i64 0, Go.Value.int Go.IntKind.i64 0].toArray := by kernel_rfl
theorem built69_0_1 (a0 : Int) (a1 : Int) : Try.prog.built 69 [(0, .int .i64 a0), (1, .int .i64 a1)] = some [.int .i64 a0, .int .i64 a1, Go.Value.int Go.IntKind.i64 0].toArray := by kernel_rfl
theorem built35  : Try.prog.built 35 [] = some [Go.Value.int Go.IntKind.i64 0, Go.Value.int Go.IntKind.i64 0, Go.Value.int Go.IntKind.i64 0, Go.Value.int Go.IntKind.i64 0, Go.Value.string { data := #[] }, Go.Value.string { data := #[] }, Go.Value.int Go.IntKind.i64 0, Go.Value.string { data := #[] }, Go.Value.string { data := #[] }, Go.Value.slice none 0 0, Go.Value.int Go.IntKind.i64 0, Go.Value.int Go.IntKind.i64 0, Go.Value.string { data := #[] }, Go.Value.string { data := #[] }, Go.Value.string { data := #[] }, Go.Value.string { data := #[] }, Go.Value.int Go.IntKind.i64 0, Go.Value.string { data := #[] }, Go.Value.string { data := #[] }, Go.Value.string { data := #[] }, Go.Value.int Go.IntKind.i64 0, Go.Value.int Go.IntKind.i64 0, Go.Value.slice none 0 0, Go.Value.bool false, Go.Value.bool false].toArray := by kernel_rfl
theorem built119_0_1 (a0 : ByteArray) (a1 : Int) (a2 : Int) (a3 : ByteArray) (a4p : Option Addr) (a4n a4c : Nat) (a5p : Option Addr) (a5n a5c : Nat) : Try.prog.built 119 [(0, .string a0), (1, .agg #[.int .i64 a1, .int .i64 a2, .string a3, .slice a4p a4n a4c, .slice a5p a5n a5c])] = some [.string a0, .int .i64 a1, .int .i64 a2, .string a3, .slice a4p a4n a4c, .slice a5p a5n a5c].toArray := by kernel_rfl
end Go.Proofs.Ytfomnjippakjpaa
