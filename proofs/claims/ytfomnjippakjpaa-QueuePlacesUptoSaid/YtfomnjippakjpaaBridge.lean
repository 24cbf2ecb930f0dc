/-
  Copies, tables and a Conf, read out of what comes in.
-/
import Derived.Test.YtfomnjippakjpaaLawPost
import Derived.Test.YtfomnjippakjpaaQData
import Derived.Test.YtfomnjippakjpaaRows
namespace Go.Proofs.Ytfomnjippakjpaa
open Go.S
theorem cons_len {α : Type} {l : List α} {n : Nat} (h : l.length = n + 1) : ∃ a r, l = a :: r ∧ r.length = n := by
  cases l with
  | nil => simp at h
  | cons a r => exact ⟨a, r, rfl, by simpa using h⟩
theorem cells2 : Try.prog.cellsOf 2 = 1 := by kernel_rfl
theorem cells3 : Try.prog.cellsOf 3 = 1 := by kernel_rfl
theorem cells4 : Try.prog.cellsOf 4 = 1 := by kernel_rfl
theorem cells9 : Try.prog.cellsOf 9 = 1 := by kernel_rfl
theorem cells23 : Try.prog.cellsOf 23 = 10 := by kernel_rfl
theorem cells24 : Try.prog.cellsOf 24 = 1 := by kernel_rfl
theorem cells28 : Try.prog.cellsOf 28 = 1 := by kernel_rfl
theorem cells30 : Try.prog.cellsOf 30 = 14 := by kernel_rfl
theorem cells31 : Try.prog.cellsOf 31 = 1 := by kernel_rfl
theorem cells33 : Try.prog.cellsOf 33 = 20 := by kernel_rfl
theorem cells35 : Try.prog.cellsOf 35 = 25 := by kernel_rfl
theorem cells115 : Try.prog.cellsOf 115 = 1 := by kernel_rfl
theorem cells117 : Try.prog.cellsOf 117 = 5 := by kernel_rfl
theorem cells119 : Try.prog.cellsOf 119 = 6 := by kernel_rfl

section
variable {H : Type} {enc : TypeId × Value → H} {W : World}
theorem fld {P : Program} {w : World} {base : Nat} {spare : Nat → Bool} {held : Bool} {fs : Array Field} {n : Nat} {cs : List Value} {xs : List (DataW H × List MemPlace)} (hf : ∀ (i : Nat) (f : Field), fs[i]? = some f → DataW.trod enc P w base spare held n f.type ((cs.drop f.offset).take (P.cellsOf f.type)) = xs[i]?)
    (i : Nat) {f : Field} (hi : fs[i]? = some f) {k : Nat} (hc : P.cellsOf f.type = k) {c' : List Value} (hcs : (cs.drop f.offset).take k = c') (hl : i < xs.length) : ∃ y, DataW.trod enc P w base spare held n f.type c' = some y ∧ y.1 ∈ xs.map (·.1) := by
  have h := hf i f hi
  rw [hc, hcs, List.getElem?_eq_getElem hl] at h
  exact ⟨_, h, List.mem_map_of_mem (List.getElem_mem hl)⟩
theorem rd117 {n : Nat} {cs : List Value} {x : DataW H × List MemPlace} (h : DataW.trod enc Try.prog W 0 (fun _ => true) true n 117 cs = some x) :
    ∃ (m : Nat) (parts : List (DataW H)) (a0 : Int) (a1 : Int) (a2 : ByteArray) (c3 : Value) (c4 : Value), n = m + 1 ∧ x.1 = .agg parts ∧ cs = [.int .i64 a0, .int .i64 a1, .string a2, c3, c4] ∧ (∃ y, DataW.trod enc Try.prog W 0 (fun _ => true) true m 115 [c3] = some y ∧ y.1 ∈ parts) ∧ (∃ y, DataW.trod enc Try.prog W 0 (fun _ => true) true m 28 [c4] = some y ∧ y.1 ∈ parts) := by
  obtain ⟨xs, m, rfl, rfl, hl, hxl, hf⟩ := DataW.trod_struct Try.underlying117 h
  have hxl : xs.length = 5 := hxl
  rw [cells117] at hl
  obtain ⟨c0, r0, rfl, g0⟩ := cons_len hl
  obtain ⟨c1, r1, rfl, g1⟩ := cons_len g0
  obtain ⟨c2, r2, rfl, g2⟩ := cons_len g1
  obtain ⟨c3, r3, rfl, g3⟩ := cons_len g2
  obtain ⟨c4, r4, rfl, g4⟩ := cons_len g3
  obtain rfl := List.eq_nil_of_length_eq_zero g4
  obtain ⟨y0, h0, m0⟩ := fld hf 0 rfl cells3 rfl (by omega)
  obtain ⟨a0, e0, _⟩ := DataW.trod_int Try.underlying3 h0
  obtain rfl := (List.cons.inj e0).1
  obtain ⟨y1, h1, m1⟩ := fld hf 1 rfl cells2 rfl (by omega)
  obtain ⟨a1, e1, _⟩ := DataW.trod_int Try.underlying2 h1
  obtain rfl := (List.cons.inj e1).1
  obtain ⟨y2, h2, m2⟩ := fld hf 2 rfl cells9 rfl (by omega)
  obtain ⟨a2, e2, _⟩ := DataW.trod_string Try.underlying9 h2
  obtain rfl := (List.cons.inj e2).1
  obtain ⟨y3, h3, m3⟩ := fld hf 3 rfl cells115 rfl (by omega)
  obtain ⟨y4, h4, m4⟩ := fld hf 4 rfl cells28 rfl (by omega)
  exact ⟨m, xs.map (·.1), a0, a1, a2, c3, c4, rfl, rfl, rfl, ⟨y3, h3, m3⟩, ⟨y4, h4, m4⟩⟩
theorem rd119 {n : Nat} {cs : List Value} {x : DataW H × List MemPlace} (h : DataW.trod enc Try.prog W 0 (fun _ => true) true n 119 cs = some x) :
    ∃ (m : Nat) (parts : List (DataW H)) (a0 : ByteArray) (c1 : Value) (c2 : Value) (c3 : Value) (c4 : Value) (c5 : Value), n = m + 1 ∧ x.1 = .agg parts ∧ cs = [.string a0, c1, c2, c3, c4, c5] ∧ (∃ y, DataW.trod enc Try.prog W 0 (fun _ => true) true m 117 [c1, c2, c3, c4, c5] = some y ∧ y.1 ∈ parts) := by
  obtain ⟨xs, m, rfl, rfl, hl, hxl, hf⟩ := DataW.trod_struct Try.underlying119 h
  have hxl : xs.length = 2 := hxl
  rw [cells119] at hl
  obtain ⟨c0, r0, rfl, g0⟩ := cons_len hl
  obtain ⟨c1, r1, rfl, g1⟩ := cons_len g0
  obtain ⟨c2, r2, rfl, g2⟩ := cons_len g1
  obtain ⟨c3, r3, rfl, g3⟩ := cons_len g2
  obtain ⟨c4, r4, rfl, g4⟩ := cons_len g3
  obtain ⟨c5, r5, rfl, g5⟩ := cons_len g4
  obtain rfl := List.eq_nil_of_length_eq_zero g5
  obtain ⟨y0, h0, m0⟩ := fld hf 0 rfl cells9 rfl (by omega)
  obtain ⟨a0, e0, _⟩ := DataW.trod_string Try.underlying9 h0
  obtain rfl := (List.cons.inj e0).1
  obtain ⟨y1, h1, m1⟩ := fld hf 1 rfl cells117 rfl (by omega)
  exact ⟨m, xs.map (·.1), a0, c1, c2, c3, c4, c5, rfl, rfl, rfl, ⟨y1, h1, m1⟩⟩
theorem rd30 {n : Nat} {cs : List Value} {x : DataW H × List MemPlace} (h : DataW.trod enc Try.prog W 0 (fun _ => true) true n 30 cs = some x) :
    ∃ (m : Nat) (parts : List (DataW H)) (a0 : Int) (a1 : ByteArray) (a2 : ByteArray) (c3 : Value) (a4 : Int) (a5 : Int) (a6 : ByteArray) (a7 : ByteArray) (a8 : ByteArray) (a9 : ByteArray) (a10 : Int) (a11 : ByteArray) (a12 : ByteArray) (a13 : ByteArray), n = m + 1 ∧ x.1 = .agg parts ∧ cs = [.int .i64 a0, .string a1, .string a2, c3, .int .i64 a4, .int .i64 a5, .string a6, .string a7, .string a8, .string a9, .int .i64 a10, .string a11, .string a12, .string a13] ∧ (∃ y, DataW.trod enc Try.prog W 0 (fun _ => true) true m 28 [c3] = some y ∧ y.1 ∈ parts) := by
  obtain ⟨xs, m, rfl, rfl, hl, hxl, hf⟩ := DataW.trod_struct Try.underlying30 h
  have hxl : xs.length = 14 := hxl
  rw [cells30] at hl
  obtain ⟨c0, r0, rfl, g0⟩ := cons_len hl
  obtain ⟨c1, r1, rfl, g1⟩ := cons_len g0
  obtain ⟨c2, r2, rfl, g2⟩ := cons_len g1
  obtain ⟨c3, r3, rfl, g3⟩ := cons_len g2
  obtain ⟨c4, r4, rfl, g4⟩ := cons_len g3
  obtain ⟨c5, r5, rfl, g5⟩ := cons_len g4
  obtain ⟨c6, r6, rfl, g6⟩ := cons_len g5
  obtain ⟨c7, r7, rfl, g7⟩ := cons_len g6
  obtain ⟨c8, r8, rfl, g8⟩ := cons_len g7
  obtain ⟨c9, r9, rfl, g9⟩ := cons_len g8
  obtain ⟨c10, r10, rfl, g10⟩ := cons_len g9
  obtain ⟨c11, r11, rfl, g11⟩ := cons_len g10
  obtain ⟨c12, r12, rfl, g12⟩ := cons_len g11
  obtain ⟨c13, r13, rfl, g13⟩ := cons_len g12
  obtain rfl := List.eq_nil_of_length_eq_zero g13
  obtain ⟨y0, h0, m0⟩ := fld hf 0 rfl cells3 rfl (by omega)
  obtain ⟨a0, e0, _⟩ := DataW.trod_int Try.underlying3 h0
  obtain rfl := (List.cons.inj e0).1
  obtain ⟨y1, h1, m1⟩ := fld hf 1 rfl cells9 rfl (by omega)
  obtain ⟨a1, e1, _⟩ := DataW.trod_string Try.underlying9 h1
  obtain rfl := (List.cons.inj e1).1
  obtain ⟨y2, h2, m2⟩ := fld hf 2 rfl cells9 rfl (by omega)
  obtain ⟨a2, e2, _⟩ := DataW.trod_string Try.underlying9 h2
  obtain rfl := (List.cons.inj e2).1
  obtain ⟨y3, h3, m3⟩ := fld hf 3 rfl cells28 rfl (by omega)
  obtain ⟨y4, h4, m4⟩ := fld hf 4 rfl cells3 rfl (by omega)
  obtain ⟨a4, e4, _⟩ := DataW.trod_int Try.underlying3 h4
  obtain rfl := (List.cons.inj e4).1
  obtain ⟨y5, h5, m5⟩ := fld hf 5 rfl cells3 rfl (by omega)
  obtain ⟨a5, e5, _⟩ := DataW.trod_int Try.underlying3 h5
  obtain rfl := (List.cons.inj e5).1
  obtain ⟨y6, h6, m6⟩ := fld hf 6 rfl cells9 rfl (by omega)
  obtain ⟨a6, e6, _⟩ := DataW.trod_string Try.underlying9 h6
  obtain rfl := (List.cons.inj e6).1
  obtain ⟨y7, h7, m7⟩ := fld hf 7 rfl cells9 rfl (by omega)
  obtain ⟨a7, e7, _⟩ := DataW.trod_string Try.underlying9 h7
  obtain rfl := (List.cons.inj e7).1
  obtain ⟨y8, h8, m8⟩ := fld hf 8 rfl cells9 rfl (by omega)
  obtain ⟨a8, e8, _⟩ := DataW.trod_string Try.underlying9 h8
  obtain rfl := (List.cons.inj e8).1
  obtain ⟨y9, h9, m9⟩ := fld hf 9 rfl cells9 rfl (by omega)
  obtain ⟨a9, e9, _⟩ := DataW.trod_string Try.underlying9 h9
  obtain rfl := (List.cons.inj e9).1
  obtain ⟨y10, h10, m10⟩ := fld hf 10 rfl cells2 rfl (by omega)
  obtain ⟨a10, e10, _⟩ := DataW.trod_int Try.underlying2 h10
  obtain rfl := (List.cons.inj e10).1
  obtain ⟨y11, h11, m11⟩ := fld hf 11 rfl cells9 rfl (by omega)
  obtain ⟨a11, e11, _⟩ := DataW.trod_string Try.underlying9 h11
  obtain rfl := (List.cons.inj e11).1
  obtain ⟨y12, h12, m12⟩ := fld hf 12 rfl cells9 rfl (by omega)
  obtain ⟨a12, e12, _⟩ := DataW.trod_string Try.underlying9 h12
  obtain rfl := (List.cons.inj e12).1
  obtain ⟨y13, h13, m13⟩ := fld hf 13 rfl cells9 rfl (by omega)
  obtain ⟨a13, e13, _⟩ := DataW.trod_string Try.underlying9 h13
  obtain rfl := (List.cons.inj e13).1
  exact ⟨m, xs.map (·.1), a0, a1, a2, c3, a4, a5, a6, a7, a8, a9, a10, a11, a12, a13, rfl, rfl, rfl, ⟨y3, h3, m3⟩⟩
theorem rd33 {n : Nat} {cs : List Value} {x : DataW H × List MemPlace} (h : DataW.trod enc Try.prog W 0 (fun _ => true) true n 33 cs = some x) :
    ∃ (m : Nat) (parts : List (DataW H)) (a0 : ByteArray) (a1 : ByteArray) (c2 : Value) (c3 : Value) (c4 : Value) (c5 : Value) (c6 : Value) (c7 : Value) (c8 : Value) (c9 : Value) (c10 : Value) (c11 : Value) (c12 : Value) (c13 : Value) (c14 : Value) (c15 : Value) (a16 : Int) (a17 : Int) (c18 : Value) (a19 : Bool), n = m + 1 ∧ x.1 = .agg parts ∧ cs = [.string a0, .string a1, c2, c3, c4, c5, c6, c7, c8, c9, c10, c11, c12, c13, c14, c15, .int .i64 a16, .int .i64 a17, c18, .bool a19] ∧ (∃ y, DataW.trod enc Try.prog W 0 (fun _ => true) true m 30 [c2, c3, c4, c5, c6, c7, c8, c9, c10, c11, c12, c13, c14, c15] = some y ∧ y.1 ∈ parts) ∧ (∃ y, DataW.trod enc Try.prog W 0 (fun _ => true) true m 31 [c18] = some y ∧ y.1 ∈ parts) := by
  obtain ⟨xs, m, rfl, rfl, hl, hxl, hf⟩ := DataW.trod_struct Try.underlying33 h
  have hxl : xs.length = 7 := hxl
  rw [cells33] at hl
  obtain ⟨c0, r0, rfl, g0⟩ := cons_len hl
  obtain ⟨c1, r1, rfl, g1⟩ := cons_len g0
  obtain ⟨c2, r2, rfl, g2⟩ := cons_len g1
  obtain ⟨c3, r3, rfl, g3⟩ := cons_len g2
  obtain ⟨c4, r4, rfl, g4⟩ := cons_len g3
  obtain ⟨c5, r5, rfl, g5⟩ := cons_len g4
  obtain ⟨c6, r6, rfl, g6⟩ := cons_len g5
  obtain ⟨c7, r7, rfl, g7⟩ := cons_len g6
  obtain ⟨c8, r8, rfl, g8⟩ := cons_len g7
  obtain ⟨c9, r9, rfl, g9⟩ := cons_len g8
  obtain ⟨c10, r10, rfl, g10⟩ := cons_len g9
  obtain ⟨c11, r11, rfl, g11⟩ := cons_len g10
  obtain ⟨c12, r12, rfl, g12⟩ := cons_len g11
  obtain ⟨c13, r13, rfl, g13⟩ := cons_len g12
  obtain ⟨c14, r14, rfl, g14⟩ := cons_len g13
  obtain ⟨c15, r15, rfl, g15⟩ := cons_len g14
  obtain ⟨c16, r16, rfl, g16⟩ := cons_len g15
  obtain ⟨c17, r17, rfl, g17⟩ := cons_len g16
  obtain ⟨c18, r18, rfl, g18⟩ := cons_len g17
  obtain ⟨c19, r19, rfl, g19⟩ := cons_len g18
  obtain rfl := List.eq_nil_of_length_eq_zero g19
  obtain ⟨y0, h0, m0⟩ := fld hf 0 rfl cells9 rfl (by omega)
  obtain ⟨a0, e0, _⟩ := DataW.trod_string Try.underlying9 h0
  obtain rfl := (List.cons.inj e0).1
  obtain ⟨y1, h1, m1⟩ := fld hf 1 rfl cells9 rfl (by omega)
  obtain ⟨a1, e1, _⟩ := DataW.trod_string Try.underlying9 h1
  obtain rfl := (List.cons.inj e1).1
  obtain ⟨y2, h2, m2⟩ := fld hf 2 rfl cells30 rfl (by omega)
  obtain ⟨y3, h3, m3⟩ := fld hf 3 rfl cells3 rfl (by omega)
  obtain ⟨a16, e3, _⟩ := DataW.trod_int Try.underlying3 h3
  obtain rfl := (List.cons.inj e3).1
  obtain ⟨y4, h4, m4⟩ := fld hf 4 rfl cells3 rfl (by omega)
  obtain ⟨a17, e4, _⟩ := DataW.trod_int Try.underlying3 h4
  obtain rfl := (List.cons.inj e4).1
  obtain ⟨y5, h5, m5⟩ := fld hf 5 rfl cells31 rfl (by omega)
  obtain ⟨y6, h6, m6⟩ := fld hf 6 rfl cells4 rfl (by omega)
  obtain ⟨a19, e6, _⟩ := DataW.trod_bool Try.underlying4 h6
  obtain rfl := (List.cons.inj e6).1
  exact ⟨m, xs.map (·.1), a0, a1, c2, c3, c4, c5, c6, c7, c8, c9, c10, c11, c12, c13, c14, c15, a16, a17, c18, a19, rfl, rfl, rfl, ⟨y2, h2, m2⟩, ⟨y5, h5, m5⟩⟩
theorem rd35 {n : Nat} {cs : List Value} {x : DataW H × List MemPlace} (h : DataW.trod enc Try.prog W 0 (fun _ => true) true n 35 cs = some x) :
    ∃ (m : Nat) (parts : List (DataW H)) (a0 : Int) (a1 : Int) (a2 : Int) (a3 : Int) (c4 : Value) (c5 : Value) (c6 : Value) (c7 : Value) (c8 : Value) (c9 : Value) (c10 : Value) (c11 : Value) (c12 : Value) (c13 : Value) (c14 : Value) (c15 : Value) (c16 : Value) (c17 : Value) (c18 : Value) (c19 : Value) (c20 : Value) (c21 : Value) (c22 : Value) (c23 : Value) (a24 : Bool), n = m + 1 ∧ x.1 = .agg parts ∧ cs = [.int .i64 a0, .int .i64 a1, .int .i64 a2, .int .i64 a3, c4, c5, c6, c7, c8, c9, c10, c11, c12, c13, c14, c15, c16, c17, c18, c19, c20, c21, c22, c23, .bool a24] ∧ (∃ y, DataW.trod enc Try.prog W 0 (fun _ => true) true m 33 [c4, c5, c6, c7, c8, c9, c10, c11, c12, c13, c14, c15, c16, c17, c18, c19, c20, c21, c22, c23] = some y ∧ y.1 ∈ parts) := by
  obtain ⟨xs, m, rfl, rfl, hl, hxl, hf⟩ := DataW.trod_struct Try.underlying35 h
  have hxl : xs.length = 6 := hxl
  rw [cells35] at hl
  obtain ⟨c0, r0, rfl, g0⟩ := cons_len hl
  obtain ⟨c1, r1, rfl, g1⟩ := cons_len g0
  obtain ⟨c2, r2, rfl, g2⟩ := cons_len g1
  obtain ⟨c3, r3, rfl, g3⟩ := cons_len g2
  obtain ⟨c4, r4, rfl, g4⟩ := cons_len g3
  obtain ⟨c5, r5, rfl, g5⟩ := cons_len g4
  obtain ⟨c6, r6, rfl, g6⟩ := cons_len g5
  obtain ⟨c7, r7, rfl, g7⟩ := cons_len g6
  obtain ⟨c8, r8, rfl, g8⟩ := cons_len g7
  obtain ⟨c9, r9, rfl, g9⟩ := cons_len g8
  obtain ⟨c10, r10, rfl, g10⟩ := cons_len g9
  obtain ⟨c11, r11, rfl, g11⟩ := cons_len g10
  obtain ⟨c12, r12, rfl, g12⟩ := cons_len g11
  obtain ⟨c13, r13, rfl, g13⟩ := cons_len g12
  obtain ⟨c14, r14, rfl, g14⟩ := cons_len g13
  obtain ⟨c15, r15, rfl, g15⟩ := cons_len g14
  obtain ⟨c16, r16, rfl, g16⟩ := cons_len g15
  obtain ⟨c17, r17, rfl, g17⟩ := cons_len g16
  obtain ⟨c18, r18, rfl, g18⟩ := cons_len g17
  obtain ⟨c19, r19, rfl, g19⟩ := cons_len g18
  obtain ⟨c20, r20, rfl, g20⟩ := cons_len g19
  obtain ⟨c21, r21, rfl, g21⟩ := cons_len g20
  obtain ⟨c22, r22, rfl, g22⟩ := cons_len g21
  obtain ⟨c23, r23, rfl, g23⟩ := cons_len g22
  obtain ⟨c24, r24, rfl, g24⟩ := cons_len g23
  obtain rfl := List.eq_nil_of_length_eq_zero g24
  obtain ⟨y0, h0, m0⟩ := fld hf 0 rfl cells3 rfl (by omega)
  obtain ⟨a0, e0, _⟩ := DataW.trod_int Try.underlying3 h0
  obtain rfl := (List.cons.inj e0).1
  obtain ⟨y1, h1, m1⟩ := fld hf 1 rfl cells3 rfl (by omega)
  obtain ⟨a1, e1, _⟩ := DataW.trod_int Try.underlying3 h1
  obtain rfl := (List.cons.inj e1).1
  obtain ⟨y2, h2, m2⟩ := fld hf 2 rfl cells3 rfl (by omega)
  obtain ⟨a2, e2, _⟩ := DataW.trod_int Try.underlying3 h2
  obtain rfl := (List.cons.inj e2).1
  obtain ⟨y3, h3, m3⟩ := fld hf 3 rfl cells3 rfl (by omega)
  obtain ⟨a3, e3, _⟩ := DataW.trod_int Try.underlying3 h3
  obtain rfl := (List.cons.inj e3).1
  obtain ⟨y4, h4, m4⟩ := fld hf 4 rfl cells33 rfl (by omega)
  obtain ⟨y5, h5, m5⟩ := fld hf 5 rfl cells4 rfl (by omega)
  obtain ⟨a24, e5, _⟩ := DataW.trod_bool Try.underlying4 h5
  obtain rfl := (List.cons.inj e5).1
  exact ⟨m, xs.map (·.1), a0, a1, a2, a3, c4, c5, c6, c7, c8, c9, c10, c11, c12, c13, c14, c15, c16, c17, c18, c19, c20, c21, c22, c23, a24, rfl, rfl, rfl, ⟨y4, h4, m4⟩⟩
theorem rd23 {n : Nat} {cs : List Value} {x : DataW H × List MemPlace} (h : DataW.trod enc Try.prog W 0 (fun _ => true) true n 23 cs = some x) :
    ∃ (m : Nat) (parts : List (DataW H)) (a0 : Int) (a1 : Int) (a2 : Int) (a3 : Int) (a4 : ByteArray) (a5 : ByteArray) (a6 : ByteArray) (a7 : Bool) (a8 : Bool) (a9 : Bool), n = m + 1 ∧ x.1 = .agg parts ∧ cs = [.int .i64 a0, .int .i64 a1, .int .i64 a2, .int .i64 a3, .string a4, .string a5, .string a6, .bool a7, .bool a8, .bool a9] := by
  obtain ⟨xs, m, rfl, rfl, hl, hxl, hf⟩ := DataW.trod_struct Try.underlying23 h
  have hxl : xs.length = 10 := hxl
  rw [cells23] at hl
  obtain ⟨c0, r0, rfl, g0⟩ := cons_len hl
  obtain ⟨c1, r1, rfl, g1⟩ := cons_len g0
  obtain ⟨c2, r2, rfl, g2⟩ := cons_len g1
  obtain ⟨c3, r3, rfl, g3⟩ := cons_len g2
  obtain ⟨c4, r4, rfl, g4⟩ := cons_len g3
  obtain ⟨c5, r5, rfl, g5⟩ := cons_len g4
  obtain ⟨c6, r6, rfl, g6⟩ := cons_len g5
  obtain ⟨c7, r7, rfl, g7⟩ := cons_len g6
  obtain ⟨c8, r8, rfl, g8⟩ := cons_len g7
  obtain ⟨c9, r9, rfl, g9⟩ := cons_len g8
  obtain rfl := List.eq_nil_of_length_eq_zero g9
  obtain ⟨y0, h0, m0⟩ := fld hf 0 rfl cells3 rfl (by omega)
  obtain ⟨a0, e0, _⟩ := DataW.trod_int Try.underlying3 h0
  obtain rfl := (List.cons.inj e0).1
  obtain ⟨y1, h1, m1⟩ := fld hf 1 rfl cells3 rfl (by omega)
  obtain ⟨a1, e1, _⟩ := DataW.trod_int Try.underlying3 h1
  obtain rfl := (List.cons.inj e1).1
  obtain ⟨y2, h2, m2⟩ := fld hf 2 rfl cells3 rfl (by omega)
  obtain ⟨a2, e2, _⟩ := DataW.trod_int Try.underlying3 h2
  obtain rfl := (List.cons.inj e2).1
  obtain ⟨y3, h3, m3⟩ := fld hf 3 rfl cells3 rfl (by omega)
  obtain ⟨a3, e3, _⟩ := DataW.trod_int Try.underlying3 h3
  obtain rfl := (List.cons.inj e3).1
  obtain ⟨y4, h4, m4⟩ := fld hf 4 rfl cells9 rfl (by omega)
  obtain ⟨a4, e4, _⟩ := DataW.trod_string Try.underlying9 h4
  obtain rfl := (List.cons.inj e4).1
  obtain ⟨y5, h5, m5⟩ := fld hf 5 rfl cells9 rfl (by omega)
  obtain ⟨a5, e5, _⟩ := DataW.trod_string Try.underlying9 h5
  obtain rfl := (List.cons.inj e5).1
  obtain ⟨y6, h6, m6⟩ := fld hf 6 rfl cells9 rfl (by omega)
  obtain ⟨a6, e6, _⟩ := DataW.trod_string Try.underlying9 h6
  obtain rfl := (List.cons.inj e6).1
  obtain ⟨y7, h7, m7⟩ := fld hf 7 rfl cells4 rfl (by omega)
  obtain ⟨a7, e7, _⟩ := DataW.trod_bool Try.underlying4 h7
  obtain rfl := (List.cons.inj e7).1
  obtain ⟨y8, h8, m8⟩ := fld hf 8 rfl cells4 rfl (by omega)
  obtain ⟨a8, e8, _⟩ := DataW.trod_bool Try.underlying4 h8
  obtain rfl := (List.cons.inj e8).1
  obtain ⟨y9, h9, m9⟩ := fld hf 9 rfl cells4 rfl (by omega)
  obtain ⟨a9, e9, _⟩ := DataW.trod_bool Try.underlying4 h9
  obtain rfl := (List.cons.inj e9).1
  exact ⟨m, xs.map (·.1), a0, a1, a2, a3, a4, a5, a6, a7, a8, a9, rfl, rfl, rfl⟩

/-! ### bulk -/
theorem bulk_part {d : DataW H} {l : List (DataW H)} (h : d ∈ l) : Rows.uptoBulk d ≤ Rows.uptoBulkAll l := by
  induction l with
  | nil => cases h
  | cons x r ih =>
    simp only [Rows.uptoBulkAll]
    rcases List.mem_cons.1 h with rfl | h
    · omega
    · have := ih h; omega
theorem bulk_pos (d : DataW H) : 1 ≤ Rows.uptoBulk d := by
  cases d with
  | lit l => cases l <;> simp [Rows.uptoBulk]
  | _ => simp [Rows.uptoBulk]
theorem bulk_len (l : List (DataW H)) : l.length ≤ Rows.uptoBulkAll l := by
  induction l with
  | nil => simp
  | cons x r ih => have := bulk_pos x; simp only [Rows.uptoBulkAll, List.length_cons]; omega
theorem bulk_agg {d : DataW H} {parts : List (DataW H)} (h : d ∈ parts) : Rows.uptoBulk d + 1 ≤ Rows.uptoBulk (.agg parts) := by
  have := bulk_part h; simp only [Rows.uptoBulk]; omega
theorem bulk_slice {d : DataW H} {els sp : List (DataW H)} (h : d ∈ els) : Rows.uptoBulk d + 1 ≤ Rows.uptoBulk (.slice els sp) := by
  have := bulk_part h; simp only [Rows.uptoBulk]; omega
theorem bulk_slice_len {els sp : List (DataW H)} : els.length + 1 ≤ Rows.uptoBulk (.slice els sp) := by
  have := bulk_len els; simp only [Rows.uptoBulk]; omega
theorem bulk_all_len {els sp : List (DataW H)} : Rows.uptoBulkAll els + 1 ≤ Rows.uptoBulk (.slice els sp) := by
  simp only [Rows.uptoBulk]; omega

/-! ### trees -/
abbrev ZW (W : World) : Nat → Prop := fun b => b < W.heap.size
theorem RV.up {Hp : Heap} {Z : Nat → Prop} : ∀ (f : Nat) (cs : List Value) (d : T), RV Hp Z f cs d → RV Hp Z (f + 1) cs d := by
  intro f
  induction f with
  | zero => intro cs d h; exact h.elim
  | succ f ih =>
    intro cs d h
    obtain ⟨k, m, s, l, t, ls, fs, h1, h2, h3, h4, h5, h6⟩ := h
    exact ⟨k, m, s, l, t, ls, fs, h1, h2, h3, h4, RSl.mono h5 (fun _ _ => rfl) (fun _ h => h) (fun cs d _ h => ih cs d h), RSl.mono h6 (fun _ _ => rfl) (fun _ h => h) (fun cs d _ h => RFd.mono (fun x d h => ih x d h) h)⟩
theorem RV.le {Hp : Heap} {Z : Nat → Prop} {f f' : Nat} (h : f ≤ f') {cs : List Value} {d : T} (hr : RV Hp Z f cs d) : RV Hp Z f' cs d := by
  induction h with
  | refl => exact hr
  | step _ ih => exact RV.up _ _ _ ih
theorem read_tree : ∀ n : Nat, (∀ cs x, DataW.trod enc Try.prog W 0 (fun _ => true) true n 117 cs = some x → Rows.uptoBulk x.1 ≤ 1048576 → ∃ d, RV W.heap (ZW W) n cs d) ∧
    (∀ cs x, DataW.trod enc Try.prog W 0 (fun _ => true) true n 119 cs = some x → Rows.uptoBulk x.1 ≤ 1048576 → ∃ d, RFd (RV W.heap (ZW W) n) cs d) := by
  intro n
  induction n using Nat.strongRecOn with
  | _ n ih =>
    refine ⟨fun cs x h hb => ?_, fun cs x h hb => ?_⟩
    · obtain ⟨m, parts, k, nm, s, l, t, rfl, hx, rfl, ⟨yl, hl, ml⟩, ⟨yt, ht, mt⟩⟩ := rd117 h
      rw [hx] at hb
      have bl := bulk_agg ml
      have bt := bulk_agg mt
      obtain ⟨_, ls, el, hll, hls⟩ := rsl_read (fun n cs d => RV W.heap (ZW W) n cs d) Try.underlying115 cells117 (by decide) hl (fun n cs' y els sp hn hy hm htr => (ih n (by omega)).1 cs' y htr (by have := bulk_slice (sp := sp) hm; rw [hy] at bl; omega))
      obtain rfl := (List.cons.inj el).1
      obtain ⟨_, fs, et, hft, hfs⟩ := rsl_read (fun n cs d => RFd (RV W.heap (ZW W) n) cs d) Try.underlying28 cells119 (by decide) ht (fun n cs' y els sp hn hy hm htr => (ih n (by omega)).2 cs' y htr (by have := bulk_slice (sp := sp) hm; rw [hy] at bt; omega))
      obtain rfl := (List.cons.inj et).1
      obtain ⟨m', rfl⟩ : ∃ m', m = m' + 1 := by
        cases m with
        | zero => simp [DataW.trod] at hl
        | succ m' => exact ⟨m', rfl⟩
      refine ⟨_, k, nm, s, _, _, ls, fs, rfl, rfl, ?_, ?_, RSl.mono (hls m' rfl) (fun _ _ => rfl) (fun _ h => h) (fun cs d _ h => RV.up _ _ _ h), RSl.mono (hfs m' rfl) (fun _ _ => rfl) (fun _ h => h) (fun cs d _ h => RFd.mono (fun x d h => RV.up _ _ _ h) h)⟩
      · rcases hll with rfl | ⟨_, _, els, sp, e1, e2⟩
        · exact Nat.zero_le _
        · have := bulk_slice_len (els := els) (sp := sp); rw [e1] at bl; unfold lim; omega
      · rcases hft with rfl | ⟨_, _, els, sp, e1, e2⟩
        · exact Nat.zero_le _
        · have := bulk_slice_len (els := els) (sp := sp); rw [e1] at bt; unfold lim; omega
    · obtain ⟨m, parts, nm, c1, c2, c3, c4, c5, rfl, hx, rfl, ⟨yv, hv, mv⟩⟩ := rd119 h
      rw [hx] at hb
      have bv := bulk_agg mv
      obtain ⟨d, hd⟩ := (ih m (by omega)).1 _ _ hv (by omega)
      exact ⟨_, nm, _, d, rfl, rfl, RV.up _ _ _ hd⟩
theorem read_table {n : Nat} {v : Value} {x : DataW H × List MemPlace} (h : DataW.trod enc Try.prog W 0 (fun _ => true) true n 28 [v] = some x) (hb : Rows.uptoBulk x.1 ≤ 1048576) : ∃ fs, RT n W.heap (ZW W) v fs ∧ fs.length ≤ lim := by
  obtain ⟨_, fs, et, hft, hfs⟩ := rsl_read (fun n cs d => RFd (RV W.heap (ZW W) n) cs d) Try.underlying28 cells119 (by decide) h (fun n cs' y els sp hn hy hm htr => (read_tree n).2 cs' y htr (by have := bulk_slice (sp := sp) hm; rw [hy] at hb; omega))
  obtain rfl := (List.cons.inj et).1
  obtain ⟨m', rfl⟩ : ∃ m', n = m' + 1 := by
    cases n with
    | zero => simp [DataW.trod] at h
    | succ m' => exact ⟨m', rfl⟩
  refine ⟨fs, RSl.mono (hfs m' rfl) (fun _ _ => rfl) (fun _ h => h) (fun cs d _ h => RFd.mono (fun x d h => RV.up _ _ _ h) h), ?_⟩
  rcases hft with rfl | ⟨_, _, els, sp, e1, e2⟩
  · exact Nat.zero_le _
  · have := bulk_slice_len (els := els) (sp := sp); rw [e1] at hb; unfold lim; omega
theorem RT.le {Hp : Heap} {Z : Nat → Prop} {f f' : Nat} (h : f ≤ f') {v : Value} {fs : List T} (hr : RT f Hp Z v fs) : RT f' Hp Z v fs :=
  RSl.mono hr (fun _ _ => rfl) (fun _ h => h) (fun _ _ _ hd => RFd.mono (fun _ _ hx => RV.le h hx) hd)
theorem read_strs {n : Nat} {v : Value} {x : DataW H × List MemPlace} (h : DataW.trod enc Try.prog W 0 (fun _ => true) true n 31 [v] = some x) (hb : Rows.uptoBulk x.1 ≤ 1048576) : ∃ ss, RStr W.heap (ZW W) v ss ∧ ss.length ≤ lim := by
  obtain ⟨_, ss, es, hls, hss⟩ := rsl_read (α := ByteArray) (fun _ cs s => cs = [.string s]) Try.underlying31 cells9 (by decide) h (fun n cs' y els sp hn hy hm htr => by obtain ⟨s, e, _⟩ := DataW.trod_string Try.underlying9 htr; exact ⟨s, e⟩)
  obtain rfl := (List.cons.inj es).1
  obtain ⟨m', rfl⟩ : ∃ m', n = m' + 1 := by
    cases n with
    | zero => simp [DataW.trod] at h
    | succ m' => exact ⟨m', rfl⟩
  refine ⟨ss, hss m' rfl, ?_⟩
  rcases hls with rfl | ⟨_, _, els, sp, e1, e2⟩
  · exact Nat.zero_le _
  · have := bulk_slice_len (els := els) (sp := sp); rw [e1] at hb; unfold lim; omega
/-- A copy. -/
theorem read_copy {n f : Nat} (hf : n ≤ f) {cs : List Value} {x : DataW H × List MemPlace} (h : DataW.trod enc Try.prog W 0 (fun _ => true) true n 35 cs = some x) (hb : Rows.uptoBulk x.1 ≤ 1048576) : ∃ c, RC f W.heap (ZW W) cs c := by
  obtain ⟨m, parts, seq, ghost, body, size, m0, m1, m2, m3, m4, m5, m6, m7, m8, m9, m10, m11, m12, m13, m14, m15, m16, m17, m18, m19, red, rfl, hx, rfl, ⟨ym, hm, mm⟩⟩ := rd35 h
  rw [hx] at hb
  have b1 := bulk_agg mm
  obtain ⟨m2, parts2, exch, key, p0, p1, p2, p3, p4, p5, p6, p7, p8, p9, p10, p11, p12, p13, expiry, prio, tr, durable, rfl, hx2, e2, ⟨yp, hp, mp⟩, ⟨yt, ht, mt⟩⟩ := rd33 hm
  rw [hx2] at b1
  have b2 := bulk_agg mp
  have b3 := bulk_agg mt
  obtain ⟨m3, parts3, flags, ct, ce, hv, dm, pr, corr, reply, expn, mid, ts, typ, user, app, rfl, hx3, e3, ⟨yh, hh, mh⟩⟩ := rd30 hp
  rw [hx3] at b2
  have b4 := bulk_agg mh
  obtain ⟨hdr, hr, hl⟩ := read_table hh (by omega)
  obtain ⟨trail, hs, hl2⟩ := read_strs ht (by omega)
  simp only [List.cons.injEq, and_true] at e2 e3
  obtain ⟨rfl, rfl, rfl, rfl, rfl, rfl, rfl, rfl, rfl, rfl, rfl, rfl, rfl, rfl⟩ := e3
  obtain ⟨rfl, rfl, rfl, rfl, rfl, rfl, rfl, rfl, rfl, rfl, rfl, rfl, rfl, rfl, rfl, rfl, rfl, rfl, rfl, rfl⟩ := e2
  exact ⟨⟨seq, ghost, body, size, exch, key, flags, ct, ce, dm, pr, corr, reply, expn, mid, ts, typ, user, app, expiry, prio, durable, red, hdr, trail⟩, _, _, rfl, RT.le (by omega) hr, hs, hl, hl2⟩
theorem read_copies {n : Nat} {v : Value} {x : DataW H × List MemPlace} (h : DataW.trod enc Try.prog W 0 (fun _ => true) true n 24 [v] = some x) (hb : Rows.uptoBulk x.1 ≤ 1048576) : ∃ ds, RSl W.heap (ZW W) 25 (RC n W.heap (ZW W)) v ds ∧ ds.length ≤ lim := by
  obtain ⟨_, ds, es, hls, hds⟩ := rsl_read (fun n' cs d => RC n W.heap (ZW W) cs d) Try.underlying24 cells35 (by decide) h (fun n' cs' y els sp hn hy hm htr => read_copy (by omega) htr (by have := bulk_slice (sp := sp) hm; rw [hy] at hb; omega))
  obtain rfl := (List.cons.inj es).1
  obtain ⟨m', rfl⟩ : ∃ m', n = m' + 1 := by
    cases n with
    | zero => simp [DataW.trod] at h
    | succ m' => exact ⟨m', rfl⟩
  refine ⟨ds, hds m' rfl, ?_⟩
  rcases hls with rfl | ⟨_, _, els, sp, e1, e2⟩
  · exact Nat.zero_le _
  · have := bulk_slice_len (els := els) (sp := sp); rw [e1] at hb; unfold lim; omega
theorem read_conf {n : Nat} {cs : List Value} {x : DataW H × List MemPlace} (h : DataW.trod enc Try.prog W 0 (fun _ => true) true n 23 cs = some x) : ∃ cf : CF, cs = cf.cells := by
  obtain ⟨m, parts, a0, a1, a2, a3, a4, a5, a6, a7, a8, a9, rfl, hx, rfl⟩ := rd23 h
  exact ⟨⟨a0, a1, a2, a3, a4, a5, a6, a7, a8, a9⟩, rfl⟩
end
end Go.Proofs.Ytfomnjippakjpaa
