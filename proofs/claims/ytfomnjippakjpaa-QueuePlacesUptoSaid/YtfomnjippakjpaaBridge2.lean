/-
  Calls of a script, read out of what comes in.
-/
import Derived.Test.YtfomnjippakjpaaBridge
import Derived.Test.YtfomnjippakjpaaPData
namespace Go.Proofs.Ytfomnjippakjpaa
open Go.S
theorem cells45 : Try.prog.cellsOf 45 = 1 := by kernel_rfl
theorem cells46 : Try.prog.cellsOf 46 = 1 := by kernel_rfl
theorem cells49 : Try.prog.cellsOf 49 = 38 := by kernel_rfl

section
variable {H : Type} {enc : TypeId × Value → H} {W : World}
theorem rd49 {n : Nat} {cs : List Value} {x : DataW H × List MemPlace} (h : DataW.trod enc Try.prog W 0 (fun _ => true) true n 49 cs = some x) :
    ∃ (m : Nat) (parts : List (DataW H)) (a0 : Int) (a1 : Int) (c2 : Value) (c3 : Value) (c4 : Value) (c5 : Value) (c6 : Value) (c7 : Value) (c8 : Value) (c9 : Value) (c10 : Value) (c11 : Value) (c12 : Value) (c13 : Value) (c14 : Value) (c15 : Value) (c16 : Value) (c17 : Value) (c18 : Value) (c19 : Value) (c20 : Value) (c21 : Value) (c22 : Value) (c23 : Value) (c24 : Value) (c25 : Value) (c26 : Value) (c27 : Value) (c28 : Value) (c29 : Value) (c30 : Value) (c31 : Value) (c32 : Value) (c33 : Value) (c34 : Value) (c35 : Value) (c36 : Value) (c37 : Value), n = m + 1 ∧ x.1 = .agg parts ∧ cs = [.int .i64 a0, .int .i64 a1, c2, c3, c4, c5, c6, c7, c8, c9, c10, c11, c12, c13, c14, c15, c16, c17, c18, c19, c20, c21, c22, c23, c24, c25, c26, c27, c28, c29, c30, c31, c32, c33, c34, c35, c36, c37] ∧ (∃ y, DataW.trod enc Try.prog W 0 (fun _ => true) true m 35 [c2, c3, c4, c5, c6, c7, c8, c9, c10, c11, c12, c13, c14, c15, c16, c17, c18, c19, c20, c21, c22, c23, c24, c25, c26] = some y ∧ y.1 ∈ parts) ∧ (∃ y, DataW.trod enc Try.prog W 0 (fun _ => true) true m 23 [c27, c28, c29, c30, c31, c32, c33, c34, c35, c36] = some y ∧ y.1 ∈ parts) ∧ (∃ y, DataW.trod enc Try.prog W 0 (fun _ => true) true m 46 [c37] = some y ∧ y.1 ∈ parts) := by
  obtain ⟨xs, m, rfl, rfl, hl, hxl, hf⟩ := DataW.trod_struct Try.underlying49 h
  have hxl : xs.length = 5 := hxl
  rw [cells49] at hl
  obtain ⟨c0, r0, rfl, g0⟩ := cons_len hl
  obtain ⟨c1, r1, rfl, g1⟩ := cons_len g0
  obtain ⟨c2, r2, rfl, g2⟩ := cons_len g1
  obtain ⟨c3, r3, rfl, g3⟩ := cons_len g2
  obtain ⟨c4, r4, rfl, g4⟩ := cons_len g3
  obtain ⟨c5, r5, rfl, g5⟩ := cons_len g4
  obtain ⟨c6, r6, rfl, g6⟩ := cons_len g5
  obtain ⟨c7, r7, rfl, g7⟩ := cons_len g6
  obtain ⟨c8, r8, rfl, g8⟩ := cons_len g7
  obtain ⟨c9, r9, rfl, g9⟩ := cons_len g8
  obtain ⟨c10, r10, rfl, g10⟩ := cons_len g9
  obtain ⟨c11, r11, rfl, g11⟩ := cons_len g10
  obtain ⟨c12, r12, rfl, g12⟩ := cons_len g11
  obtain ⟨c13, r13, rfl, g13⟩ := cons_len g12
  obtain ⟨c14, r14, rfl, g14⟩ := cons_len g13
  obtain ⟨c15, r15, rfl, g15⟩ := cons_len g14
  obtain ⟨c16, r16, rfl, g16⟩ := cons_len g15
  obtain ⟨c17, r17, rfl, g17⟩ := cons_len g16
  obtain ⟨c18, r18, rfl, g18⟩ := cons_len g17
  obtain ⟨c19, r19, rfl, g19⟩ := cons_len g18
  obtain ⟨c20, r20, rfl, g20⟩ := cons_len g19
  obtain ⟨c21, r21, rfl, g21⟩ := cons_len g20
  obtain ⟨c22, r22, rfl, g22⟩ := cons_len g21
  obtain ⟨c23, r23, rfl, g23⟩ := cons_len g22
  obtain ⟨c24, r24, rfl, g24⟩ := cons_len g23
  obtain ⟨c25, r25, rfl, g25⟩ := cons_len g24
  obtain ⟨c26, r26, rfl, g26⟩ := cons_len g25
  obtain ⟨c27, r27, rfl, g27⟩ := cons_len g26
  obtain ⟨c28, r28, rfl, g28⟩ := cons_len g27
  obtain ⟨c29, r29, rfl, g29⟩ := cons_len g28
  obtain ⟨c30, r30, rfl, g30⟩ := cons_len g29
  obtain ⟨c31, r31, rfl, g31⟩ := cons_len g30
  obtain ⟨c32, r32, rfl, g32⟩ := cons_len g31
  obtain ⟨c33, r33, rfl, g33⟩ := cons_len g32
  obtain ⟨c34, r34, rfl, g34⟩ := cons_len g33
  obtain ⟨c35, r35, rfl, g35⟩ := cons_len g34
  obtain ⟨c36, r36, rfl, g36⟩ := cons_len g35
  obtain ⟨c37, r37, rfl, g37⟩ := cons_len g36
  obtain rfl := List.eq_nil_of_length_eq_zero g37
  obtain ⟨y0, h0, m0⟩ := fld hf 0 rfl cells3 rfl (by omega)
  obtain ⟨a0, e0, _⟩ := DataW.trod_int Try.underlying3 h0
  obtain rfl := (List.cons.inj e0).1
  obtain ⟨y1, h1, m1⟩ := fld hf 1 rfl cells3 rfl (by omega)
  obtain ⟨a1, e1, _⟩ := DataW.trod_int Try.underlying3 h1
  obtain rfl := (List.cons.inj e1).1
  obtain ⟨y2, h2, m2⟩ := fld hf 2 rfl cells35 rfl (by omega)
  obtain ⟨y3, h3, m3⟩ := fld hf 3 rfl cells23 rfl (by omega)
  obtain ⟨y4, h4, m4⟩ := fld hf 4 rfl cells46 rfl (by omega)
  exact ⟨m, xs.map (·.1), a0, a1, c2, c3, c4, c5, c6, c7, c8, c9, c10, c11, c12, c13, c14, c15, c16, c17, c18, c19, c20, c21, c22, c23, c24, c25, c26, c27, c28, c29, c30, c31, c32, c33, c34, c35, c36, c37, rfl, rfl, rfl, ⟨y2, h2, m2⟩, ⟨y3, h3, m3⟩, ⟨y4, h4, m4⟩⟩

theorem read_ints {n : Nat} {v : Value} {x : DataW H × List MemPlace} (h : DataW.trod enc Try.prog W 0 (fun _ => true) true n 46 [v] = some x) (hb : Rows.uptoBulk x.1 ≤ 1048576) : ∃ ks, RInts W.heap (ZW W) v ks ∧ ks.length ≤ lim := by
  obtain ⟨_, ks, es, hls, hss⟩ := rsl_read (α := Int) (fun _ cs k => cs = [.int .i64 k]) Try.underlying46 cells3 (by decide) h (fun n cs' y els sp hn hy hm htr => by obtain ⟨k, e, _⟩ := DataW.trod_int Try.underlying3 htr; exact ⟨k, e⟩)
  obtain rfl := (List.cons.inj es).1
  obtain ⟨m', rfl⟩ : ∃ m', n = m' + 1 := by
    cases n with
    | zero => simp [DataW.trod] at h
    | succ m' => exact ⟨m', rfl⟩
  refine ⟨ks, hss m' rfl, ?_⟩
  rcases hls with rfl | ⟨_, _, els, sp, e1, e2⟩
  · exact Nat.zero_le _
  · have := bulk_slice_len (els := els) (sp := sp); rw [e1] at hb; unfold lim; omega
theorem read_op {n f : Nat} (hf : n ≤ f) {cs : List Value} {x : DataW H × List MemPlace} (h : DataW.trod enc Try.prog W 0 (fun _ => true) true n 49 cs = some x) (hb : Rows.uptoBulk x.1 ≤ 1048576) : ∃ o, RO f W.heap (ZW W) cs o := by
  obtain ⟨m, parts, kind, num, c0, c1, c2, c3, c4, c5, c6, c7, c8, c9, c10, c11, c12, c13, c14, c15, c16, c17, c18, c19, c20, c21, c22, c23, c24, c25, c26, c27, c28, c29, c30, c31, c32, c33, c34, c35, rfl, hx, rfl, ⟨yc, hc, mc⟩, ⟨yf, hfc, mf⟩, ⟨yn, hn, mn⟩⟩ := rd49 h
  rw [hx] at hb
  have b1 := bulk_agg mc
  have b2 := bulk_agg mn
  obtain ⟨c, hrc⟩ := read_copy (f := f) (by omega) hc (by omega)
  obtain ⟨cf, hcf⟩ := read_conf hfc
  obtain ⟨ks, hks, hkl⟩ := read_ints hn (by omega)
  have hrc0 := hrc
  obtain ⟨hh, ht, e1, _⟩ := hrc
  refine ⟨⟨kind, num, c, cf, ks⟩, hh, ht, _, ?_, e1 ▸ hrc0, hks, hkl⟩
  show _ = Value.int .i64 kind :: Value.int .i64 num :: (c.cells hh ht ++ (cf.cells ++ [_]))
  rw [← e1, ← hcf]
  rfl
theorem read_ops {n : Nat} {v : Value} {x : DataW H × List MemPlace} (h : DataW.trod enc Try.prog W 0 (fun _ => true) true n 45 [v] = some x) (hb : Rows.uptoBulk x.1 ≤ 1048576) : ∃ ds, RSl W.heap (ZW W) 38 (RO n W.heap (ZW W)) v ds ∧ ds.length ≤ lim := by
  obtain ⟨_, ds, es, hls, hds⟩ := rsl_read (fun n' cs d => RO n W.heap (ZW W) cs d) Try.underlying45 cells49 (by decide) h (fun n' cs' y els sp hn hy hm htr => read_op (by omega) htr (by have := bulk_slice (sp := sp) hm; rw [hy] at hb; omega))
  obtain rfl := (List.cons.inj es).1
  obtain ⟨m', rfl⟩ : ∃ m', n = m' + 1 := by
    cases n with
    | zero => simp [DataW.trod] at h
    | succ m' => exact ⟨m', rfl⟩
  refine ⟨ds, hds m' rfl, ?_⟩
  rcases hls with rfl | ⟨_, _, els, sp, e1, e2⟩
  · exact Nat.zero_le _
  · have := bulk_slice_len (els := els) (sp := sp); rw [e1] at hb; unfold lim; omega
end
end Go.Proofs.Ytfomnjippakjpaa
