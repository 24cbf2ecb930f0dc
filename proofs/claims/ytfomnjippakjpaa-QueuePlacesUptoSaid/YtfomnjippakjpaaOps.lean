/-
  The steps of a walk: what each operation reads, makes or writes, told of the heap's blocks.
-/
import Derived.Test.YtfomnjippakjpaaCore
import Derived.IntWalk
namespace Go.S
open Go.Flow

/-! ### the heap -/
def wr (H : Heap) (b : Nat) (o : Obj) : Heap := H.setIfInBounds b o
def nw (H : Heap) (o : Obj) : Heap := H.push o
theorem wr_same {H : Heap} {b : Nat} {o : Obj} (h : b < H.size) : (wr H b o)[b]? = some o := by simp [wr, Array.getElem?_setIfInBounds, h]
theorem wr_ne {H : Heap} {b b' : Nat} {o : Obj} (h : b' ≠ b) : (wr H b o)[b']? = H[b']? := by simp [wr, Array.getElem?_setIfInBounds_ne (Ne.symm h)]
theorem wr_size {H : Heap} {b : Nat} {o : Obj} : (wr H b o).size = H.size := by simp [wr]
theorem nw_lt {H : Heap} {b : Nat} {o : Obj} (h : b < H.size) : (nw H o)[b]? = H[b]? := by
  simp only [nw, Array.getElem?_push]; rw [if_neg (by omega)]
theorem nw_new {H : Heap} {b : Nat} {o : Obj} (h : b = H.size) : (nw H o)[b]? = some o := by subst h; simp [nw]
theorem nw_size {H : Heap} {o : Obj} : (nw H o).size = H.size + 1 := by simp [nw]
theorem lt_of {H : Heap} {b : Nat} {o : Obj} (h : H[b]? = some o) : b < H.size := (Array.getElem?_eq_some_iff.1 h).1

theorem wr_self {H : Heap} {b : Nat} {o : Obj} (h : H[b]? = some o) : wr H b o = H := by
  apply Array.ext_getElem?
  intro i
  by_cases e : i = b
  · subst e; rw [wr_same (lt_of h), h]
  · rw [wr_ne e]
theorem wr_wr {H : Heap} {b : Nat} {o o' : Obj} : wr (wr H b o) b o' = wr H b o' := by simp [wr, Array.setIfInBounds_setIfInBounds]

theorem cell_of {w : World} {H : Heap} {b off : Nat} {cs : List Value} {T : TypeId} {fz : Nat × Nat} (hw : w.heap = H) (hb : H[b]? = some (.cells cs.toArray T fz)) : w.cell? ⟨b, off, none⟩ = cs[off]? := by
  simp [World.cell?, hw, hb]
theorem froz_of {w : World} {H : Heap} {b off : Nat} {cs : List Value} {T : TypeId} (hw : w.heap = H) (hb : H[b]? = some (.cells cs.toArray T (0, 0))) : w.frozen? ⟨b, off, none⟩ = false := by
  simp [World.frozen?, hw, hb]
theorem add_off (b off k : Nat) : Addr.add ⟨b, off, none⟩ k = ⟨b, off + k, none⟩ := by
  unfold Addr.add
  split <;> rename_i h
  · subst h; rfl
  · rfl

section
variable {P : Program} {C : Heap → Prop} {Q : Exit → Act → Heap → Prop} {n : Nat} {env : Env} {H : Heap}

/-! ### reading a place -/
theorem LD.one {t : TypeId} {b off : Nat} {cs : List Value} {T : TypeId} {fz : Nat × Nat} {v : Value} (ha : ∀ w, (isAgg t).run P w = .ok false w)
    (hb : H[b]? = some (.cells cs.toArray T fz)) (hv : cs[off]? = some v) : LD P H t ⟨b, off, none⟩ v := by
  intro w hw
  have := cell_of (off := off) hw hb
  rw [hv] at this
  simp [loadVar, Sem.run_bind, ha, Result.andThen, this]
theorem LD.agg {t : TypeId} {k b off : Nat} {cs : List Value} {T : TypeId} {fz : Nat × Nat} (ha : ∀ w, (isAgg t).run P w = .ok true w) (hz : ∀ w, (sizeOf t).run P w = .ok k w)
    (hb : H[b]? = some (.cells cs.toArray T fz)) (hk : off + k ≤ cs.length) : LD P H t ⟨b, off, none⟩ (.agg ((cs.drop off).take k).toArray) := by
  intro w hw
  have hl : ((cs.drop off).take k).length = k := by simp; omega
  have := run_loadCells_list (P := P) w ⟨b, off, none⟩ ((cs.drop off).take k) (fun j v hj => by
    rw [add_off, cell_of hw hb]
    have hj' : j < k := by
      rcases Nat.lt_or_ge j ((cs.drop off).take k).length with h | h
      · omega
      · rw [List.getElem?_eq_none h] at hj; cases hj
    simpa [List.getElem?_take, hj'] using hj)
  rw [hl] at this
  simp [loadVar, Sem.run_bind, ha, hz, Result.andThen, this]
theorem LD.all {t : TypeId} {b k : Nat} {cs : List Value} {T : TypeId} {fz : Nat × Nat} (ha : ∀ w, (isAgg t).run P w = .ok true w) (hz : ∀ w, (sizeOf t).run P w = .ok k w)
    (hb : H[b]? = some (.cells cs.toArray T fz)) (hk : cs.length = k) : LD P H t ⟨b, 0, none⟩ (.agg cs.toArray) := by
  subst hk
  have := LD.agg ha hz hb (off := 0) (by omega)
  simpa using this

/-! ### reads -/
variable {d : Option Nat} {ty : TypeId} {g : Option (Option Nat × Bool)}
theorem RD.move {x : Operand} {v : Value} (hx : opnd env x = some v) : RD P ⟨d, .move x, ty, g⟩ n env H v := fun a w ha _ => by
  simp [execOp, SOp.oper, ha.eval hx]
theorem RD.assign {x : Operand} {v : Value} (hx : opnd env x = some v) : RD P ⟨d, .assign x, ty, g⟩ n env H v := fun a w ha _ => by
  simp [execOp, SOp.oper, ha.eval hx]
theorem RD.pickT {c x y : Operand} {v : Value} (hc : opnd env c = some (.bool true)) (hx : opnd env x = some v) : RD P ⟨d, .pick c x y, ty, g⟩ n env H v := fun a w ha _ => by
  simp [execOp, SOp.oper, ha.eval hx, ha.eval hc, asBool]
theorem RD.pickF {c x y : Operand} {v : Value} (hc : opnd env c = some (.bool false)) (hy : opnd env y = some v) : RD P ⟨d, .pick c x y, ty, g⟩ n env H v := fun a w ha _ => by
  simp [execOp, SOp.oper, ha.eval hy, ha.eval hc, asBool]
theorem RD.load {t : TypeId} {x : Operand} {p : Addr} {v : Value} (hx : opnd env x = some (.pointer (some p))) (hl : LD P H t p v) : RD P ⟨d, .load t x, ty, g⟩ n env H v := fun a w ha hw => by
  simp [execOp, SOp.oper, ha.eval hx, Instr.loadAt, Instr.sureAddr, Sem.run_bind, Result.andThen, hl w hw]
theorem RD.nilCheck {x : Operand} {p : Addr} (hx : opnd env x = some (.pointer (some p))) : RD P ⟨d, .nilCheck x, ty, g⟩ n env H (.pointer (some p)) := fun a w ha _ => by
  simp [execOp, SOp.oper, ha.eval hx]
theorem RD.nilCheckF {x : Operand} {f : FuncId} {as cs : Array Value} (hx : opnd env x = some (.func (.func f) as cs)) : RD P ⟨d, .nilCheck x, ty, g⟩ n env H (.func (.func f) as cs) := fun a w ha _ => by
  simp [execOp, SOp.oper, ha.eval hx]
theorem RD.field {s : TypeId} {x : Operand} {f b off : Nat} {fs : Array Field} {fd : Field} {k : Nat} (hx : opnd env x = some (.pointer (some ⟨b, off, none⟩))) (hs : P.underlying s = some (.struct fs)) (hf : fs[f]? = some fd)
    (hz : ∀ w, (sizeOf fd.type).run P w = .ok (k + 1) w) : RD P ⟨d, .fieldAddr s x f, ty, g⟩ n env H (.pointer (some ⟨b, off + fd.offset, none⟩)) := fun a w ha _ => by
  simp [execOp, SOp.oper, ha.eval hx, Instr.fieldAt, Instr.sureAddr, Sem.run_bind, Result.andThen, run_underlying hs, hf, fieldPlace, hz, add_off]
theorem RD.fieldV {t : TypeId} {x : Operand} {f : Nat} {fs : Array Field} {fd : Field} {cs : List Value} {v : Value} (hx : opnd env x = some (.agg cs.toArray)) (hs : P.underlying t = some (.struct fs)) (hf : fs[f]? = some fd)
    (ha' : ∀ w, (isAgg fd.type).run P w = .ok false w) (hv : cs[fd.offset]? = some v) : RD P ⟨d, .field t x f, ty, g⟩ n env H v := fun a w ha _ => by
  simp [execOp, SOp.oper, ha.eval hx, Instr.field, Sem.run_bind, Result.andThen, run_underlying hs, hf, asAgg, part, ha', hv]
theorem RD.extract {x : Operand} {i : Nat} {vs : List Value} {v : Value} (hx : opnd env x = some (.tuple vs.toArray)) (hv : vs[i]? = some v) : RD P ⟨d, .extract x i, ty, g⟩ n env H v := fun a w ha _ => by
  simp [execOp, SOp.oper, ha.eval hx, Instr.extract, hv]
theorem RD.mkIface {t : TypeId} {x : Operand} {v : Value} (hx : opnd env x = some v) (hc : P.concrete t = true) : RD P ⟨d, .makeInterface t x, ty, g⟩ n env H (.iface t v) := fun a w ha _ => by
  simp [execOp, SOp.oper, ha.eval hx, Sem.run_bind, Result.andThen, run_makeInterface w t v hc]
theorem RD.mkFunc {f : FuncId} {caps : Array Operand} {vs : List Value} (hx : caps.toList.mapM (opnd env) = some vs) : RD P ⟨d, .makeFunc (.func f) #[] caps, ty, g⟩ n env H (.func (.func f) #[] vs.toArray) := fun a w ha _ => by
  have : ∀ (l : List Operand) (vs : List Value), l.mapM (opnd env) = some vs → l.map a.eval = vs := by
    intro l
    induction l with
    | nil => intro vs h; simp at h; simp [h]
    | cons x l ih =>
      intro vs h
      simp only [List.mapM_cons, Option.bind_eq_bind, Option.bind_eq_some_iff, Option.pure_def, Option.some.injEq] at h
      obtain ⟨v, h1, vs', h2, rfl⟩ := h
      simp [ha.eval h1, ih _ h2]
  have := this _ _ hx
  have h2 : caps.map a.eval = vs.toArray := by apply Array.ext'; simpa using this
  simp [execOp, SOp.oper, Instr.makeFunc, h2]
theorem RD.assert {x : Operand} {t xt : TypeId} {v : Value} {de : TypeDesc} (hx : opnd env x = some (.iface t v)) (hu : P.underlying t = some de) (hd : (match de with | .interface _ => false | _ => true) = true) :
    RD P ⟨d, .typeAssert x xt t false, ty, g⟩ n env H v := fun a w ha _ => by
  have : (Instr.typeAssert (.iface t v) xt t false).run P w = .ok v w := by
    simp only [Instr.typeAssert, Sem.run_bind, run_underlying hu, Result.andThen]
    cases de <;> first | (simp at hd; done) | simp
  simp [execOp, SOp.oper, ha.eval hx, Sem.run_bind, Result.andThen, this]
theorem RD.build {t : TypeId} {parts : Array (Nat × Operand)} {vs : List (Nat × Value)} {cells : List Value} (hx : parts.toList.mapM (fun x => (opnd env x.2).map (fun v => (x.1, v))) = some vs)
    (hb : P.built t vs = some cells.toArray) : RD P ⟨d, .build t parts, ty, g⟩ n env H (.agg cells.toArray) := fun a w ha _ => by
  have key : ∀ (l : List (Nat × Operand)) (vs : List (Nat × Value)), l.mapM (fun x => (opnd env x.2).map (fun v => (x.1, v))) = some vs → l.map (fun x => (x.1, a.eval x.2)) = vs := by
    intro l
    induction l with
    | nil => intro vs h; simp at h; simp [h]
    | cons x l ih =>
      intro vs h
      simp only [List.mapM_cons, Option.bind_eq_bind, Option.bind_eq_some_iff, Option.pure_def, Option.some.injEq, Option.map_eq_some_iff] at h
      obtain ⟨v, ⟨u, h1, rfl⟩, vs', h2, rfl⟩ := h
      simp [ha.eval h1, ih _ h2]
  have hk := key _ _ hx
  have hrun := run_build (P := P) w t vs.toArray cells.toArray (by simpa using hb)
  have : (parts.map fun x => (x.1, a.eval x.2)) = vs.toArray := by
    apply Array.ext'
    simpa using hk
  simp only [execOp, SOp.oper]
  rw [show (parts.map fun (i, x) => (i, a.eval x)) = vs.toArray from this]
  simp [Sem.run_bind, Result.andThen, hrun]

/-! integers -/
theorem RD.add {k : IntKind} {xt yt : TypeId} {x y : Operand} {p q : Int} (hx : opnd env x = some (.int k p)) (hy : opnd env y = some (.int k q)) : RD P ⟨d, .binOp .add xt x y yt, ty, g⟩ n env H (.int k (k.wrap (p + q))) := fun a w ha _ => by
  simp [execOp, SOp.oper, ha.eval hx, ha.eval hy, eqGuard, binOp, Op.intArith, Sem.run_bind, Result.andThen]
theorem RD.sub {k : IntKind} {xt yt : TypeId} {x y : Operand} {p q : Int} (hx : opnd env x = some (.int k p)) (hy : opnd env y = some (.int k q)) : RD P ⟨d, .binOp .sub xt x y yt, ty, g⟩ n env H (.int k (k.wrap (p - q))) := fun a w ha _ => by
  simp [execOp, SOp.oper, ha.eval hx, ha.eval hy, eqGuard, binOp, Op.intArith, Sem.run_bind, Result.andThen]
theorem RD.mul {k : IntKind} {xt yt : TypeId} {x y : Operand} {p q : Int} (hx : opnd env x = some (.int k p)) (hy : opnd env y = some (.int k q)) : RD P ⟨d, .binOp .mul xt x y yt, ty, g⟩ n env H (.int k (k.wrap (p * q))) := fun a w ha _ => by
  simp [execOp, SOp.oper, ha.eval hx, ha.eval hy, eqGuard, binOp, Op.intArith, Sem.run_bind, Result.andThen]
theorem RD.add64 {xt yt : TypeId} {x y : Operand} {p q : Int} (hx : opnd env x = some (.int .i64 p)) (hy : opnd env y = some (.int .i64 q)) (h : -9223372036854775808 ≤ p + q ∧ p + q ≤ 9223372036854775807) :
    RD P ⟨d, .binOp .add xt x y yt, ty, g⟩ n env H (.int .i64 (p + q)) := by
  have := RD.add (P := P) (n := n) (H := H) (d := d) (ty := ty) (g := g) (xt := xt) (yt := yt) hx hy
  rwa [IntWalk.i64_in _ h] at this
theorem RD.sub64 {xt yt : TypeId} {x y : Operand} {p q : Int} (hx : opnd env x = some (.int .i64 p)) (hy : opnd env y = some (.int .i64 q)) (h : -9223372036854775808 ≤ p - q ∧ p - q ≤ 9223372036854775807) :
    RD P ⟨d, .binOp .sub xt x y yt, ty, g⟩ n env H (.int .i64 (p - q)) := by
  have := RD.sub (P := P) (n := n) (H := H) (d := d) (ty := ty) (g := g) (xt := xt) (yt := yt) hx hy
  rwa [IntWalk.i64_in _ h] at this
theorem RD.mul64 {xt yt : TypeId} {x y : Operand} {p q : Int} (hx : opnd env x = some (.int .i64 p)) (hy : opnd env y = some (.int .i64 q)) (h : -9223372036854775808 ≤ p * q ∧ p * q ≤ 9223372036854775807) :
    RD P ⟨d, .binOp .mul xt x y yt, ty, g⟩ n env H (.int .i64 (p * q)) := by
  have := RD.mul (P := P) (n := n) (H := H) (d := d) (ty := ty) (g := g) (xt := xt) (yt := yt) hx hy
  rwa [IntWalk.i64_in _ h] at this
theorem RD.quo64 {xt yt : TypeId} {x y : Operand} {p q : Int} (hx : opnd env x = some (.int .i64 p)) (hy : opnd env y = some (.int .i64 q)) (h0 : 0 ≤ p) (h1 : p ≤ 9223372036854775807) (hq : 0 < q) :
    RD P ⟨d, .binOp .quo xt x y yt, ty, g⟩ n env H (.int .i64 (p / q)) := fun a w ha _ => by
  have hne : ¬ q = 0 := by omega
  have hle : p / q ≤ p := Int.ediv_le_self q h0
  have h3 : 0 ≤ p / q := Int.ediv_nonneg h0 (by omega)
  have : IntKind.i64.wrap (p.tdiv q) = p / q := by rw [Int.tdiv_eq_ediv_of_nonneg h0]; exact IntWalk.i64_in _ (by omega)
  simp [execOp, SOp.oper, ha.eval hx, ha.eval hy, eqGuard, binOp, Op.intDiv, Sem.run_bind, Result.andThen, hne, this]

theorem RD.cmp {op : BinOp} {k : IntKind} {xt yt : TypeId} {x y : Operand} {p q : Int} (b : Bool) (hx : opnd env x = some (.int k p)) (hy : opnd env y = some (.int k q))
    (hb : (match op with | .eql => some (p == q) | .neq => some (p != q) | .lss => some (decide (p < q)) | .leq => some (decide (p ≤ q)) | .gtr => some (decide (p > q)) | .geq => some (decide (p ≥ q)) | _ => none) = some b) :
    RD P ⟨d, .binOp op xt x y yt, ty, g⟩ n env H (.bool b) := fun a w ha _ => by
  have e1 := ha.eval hx
  have e2 := ha.eval hy
  cases op <;> simp at hb <;> subst hb <;> simp [execOp, SOp.oper, e1, e2, eqGuard, binOp, Op.intCmp, Sem.run_bind, Result.andThen]
theorem RD.seq {xt yt : TypeId} {x y : Operand} {p q : ByteArray} (hx : opnd env x = some (.string p)) (hy : opnd env y = some (.string q)) :
    RD P ⟨d, .binOp .eql xt x y yt, ty, g⟩ n env H (.bool (p.toList == q.toList)) := fun a w ha _ => by
  simp [execOp, SOp.oper, ha.eval hx, ha.eval hy, eqGuard, binOp, Op.stringOp, Sem.run_bind, Result.andThen]
theorem RD.sne {xt yt : TypeId} {x y : Operand} {p q : ByteArray} (hx : opnd env x = some (.string p)) (hy : opnd env y = some (.string q)) :
    RD P ⟨d, .binOp .neq xt x y yt, ty, g⟩ n env H (.bool (!(p.toList == q.toList))) := fun a w ha _ => by
  simp [execOp, SOp.oper, ha.eval hx, ha.eval hy, eqGuard, binOp, Op.stringOp, Sem.run_bind, Result.andThen]
theorem RD.beq {xt yt : TypeId} {x y : Operand} {p q : Bool} (hx : opnd env x = some (.bool p)) (hy : opnd env y = some (.bool q)) (hu : P.underlying xt = some .bool) :
    RD P ⟨d, .binOp .eql xt x y yt, ty, g⟩ n env H (.bool (p == q)) := fun a w ha _ => by
  simp [execOp, SOp.oper, ha.eval hx, ha.eval hy, eqGuard, run_eql_bool w xt p q hu, Sem.run_bind, Result.andThen]
theorem RD.bne {xt yt : TypeId} {x y : Operand} {p q : Bool} (hx : opnd env x = some (.bool p)) (hy : opnd env y = some (.bool q)) (hu : P.underlying xt = some .bool) :
    RD P ⟨d, .binOp .neq xt x y yt, ty, g⟩ n env H (.bool (!(p == q))) := fun a w ha _ => by
  simp [execOp, SOp.oper, ha.eval hx, ha.eval hy, eqGuard, run_neq_bool w xt p q hu, Sem.run_bind, Result.andThen]
theorem RD.peq {e xt yt : TypeId} {x y : Operand} {p : Option Addr} (hx : opnd env x = some (.pointer p)) (hy : opnd env y = some (.pointer none)) (hu : P.underlying xt = some (.pointer e)) :
    RD P ⟨d, .binOp .eql xt x y yt, ty, g⟩ n env H (.bool p.isNone) := fun a w ha _ => by
  have he : P.pointee xt = e := by simp [Program.pointee, hu]
  simp [execOp, SOp.oper, ha.eval hx, ha.eval hy, eqGuard, run_eql_pointer_nil w xt p (by rw [he]; exact hu), Sem.run_bind, Result.andThen]
theorem RD.pne {e xt yt : TypeId} {x y : Operand} {p : Option Addr} (hx : opnd env x = some (.pointer p)) (hy : opnd env y = some (.pointer none)) (hu : P.underlying xt = some (.pointer e)) :
    RD P ⟨d, .binOp .neq xt x y yt, ty, g⟩ n env H (.bool p.isSome) := fun a w ha _ => by
  have he : P.pointee xt = e := by simp [Program.pointee, hu]
  simp [execOp, SOp.oper, ha.eval hx, ha.eval hy, eqGuard, run_neq_pointer_nil w xt p (by rw [he]; exact hu), Sem.run_bind, Result.andThen]
theorem RD.sleq {e xt yt : TypeId} {x y : Operand} {p : Option Addr} {m c : Nat} (hx : opnd env x = some (.slice p m c)) (hy : opnd env y = some (.slice none 0 0)) (hu : P.underlying xt = some (.slice e)) :
    RD P ⟨d, .binOp .eql xt x y yt, ty, g⟩ n env H (.bool p.isNone) := fun a w ha _ => by
  have : (Op.equal xt (.slice p m c) (.slice none 0 0)).run P w = .ok p.isNone w := by
    rw [Op.equal, show Op.maxDepth = 9999 + 1 from rfl, Op.equalIn]
    cases p <;> simp [run_underlying hu, Sem.run_bind, Result.andThen]
  simp [execOp, SOp.oper, ha.eval hx, ha.eval hy, eqGuard, binOp, this, Sem.run_bind, Result.andThen]
theorem RD.slne {e xt yt : TypeId} {x y : Operand} {p : Option Addr} {m c : Nat} (hx : opnd env x = some (.slice p m c)) (hy : opnd env y = some (.slice none 0 0)) (hu : P.underlying xt = some (.slice e)) :
    RD P ⟨d, .binOp .neq xt x y yt, ty, g⟩ n env H (.bool p.isSome) := fun a w ha _ => by
  have : (Op.equal xt (.slice p m c) (.slice none 0 0)).run P w = .ok p.isNone w := by
    rw [Op.equal, show Op.maxDepth = 9999 + 1 from rfl, Op.equalIn]
    cases p <;> simp [run_underlying hu, Sem.run_bind, Result.andThen]
  simp [execOp, SOp.oper, ha.eval hx, ha.eval hy, eqGuard, binOp, this, Sem.run_bind, Result.andThen]
theorem RD.eqT {k : IntKind} {xt yt : TypeId} {x y : Operand} {p : Int} (hx : opnd env x = some (.int k p)) (hy : opnd env y = some (.int k p)) : RD P ⟨d, .binOp .eql xt x y yt, ty, g⟩ n env H (.bool true) :=
  RD.cmp true hx hy (by simp)
theorem RD.neF {k : IntKind} {xt yt : TypeId} {x y : Operand} {p : Int} (hx : opnd env x = some (.int k p)) (hy : opnd env y = some (.int k p)) : RD P ⟨d, .binOp .neq xt x y yt, ty, g⟩ n env H (.bool false) :=
  RD.cmp false hx hy (by simp)
theorem RD.seqT {xt yt : TypeId} {x y : Operand} {p : ByteArray} (hx : opnd env x = some (.string p)) (hy : opnd env y = some (.string p)) : RD P ⟨d, .binOp .eql xt x y yt, ty, g⟩ n env H (.bool true) := by
  have := RD.seq (P := P) (n := n) (H := H) (d := d) (ty := ty) (g := g) (xt := xt) (yt := yt) hx hy
  simpa using this
theorem RD.sneF {xt yt : TypeId} {x y : Operand} {p : ByteArray} (hx : opnd env x = some (.string p)) (hy : opnd env y = some (.string p)) : RD P ⟨d, .binOp .neq xt x y yt, ty, g⟩ n env H (.bool false) := by
  have := RD.sne (P := P) (n := n) (H := H) (d := d) (ty := ty) (g := g) (xt := xt) (yt := yt) hx hy
  simpa using this
theorem RD.beqT {xt yt : TypeId} {x y : Operand} {p : Bool} (hx : opnd env x = some (.bool p)) (hy : opnd env y = some (.bool p)) (hu : P.underlying xt = some .bool) : RD P ⟨d, .binOp .eql xt x y yt, ty, g⟩ n env H (.bool true) := by
  have := RD.beq (P := P) (n := n) (H := H) (d := d) (ty := ty) (g := g) (xt := xt) (yt := yt) hx hy hu
  simpa using this
theorem RD.not {t : TypeId} {x : Operand} {p : Bool} (hx : opnd env x = some (.bool p)) : RD P ⟨d, .unOp .not t x, ty, g⟩ n env H (.bool (!p)) := fun a w ha _ => by
  simp [execOp, SOp.oper, ha.eval hx, Op.unary, Sem.run_bind, Result.andThen]

/-! slices and strings -/
theorem RD.lenSl {t : TypeId} {x : Operand} {e : TypeId} {p : Option Addr} {m c : Nat} (hx : opnd env x = some (.slice p m c)) (hu : P.underlying t = some (.slice e)) :
    RD P ⟨d, .call ⟨.builtin .len, #[x], #[t]⟩, ty, g⟩ n env H (.int .i64 m) := fun a w ha _ => by
  simp [execOp, SOp.oper, resolve, invoke, Go.builtin, ha.eval hx, Builtin.len_, run_underlying hu, goInt, Sem.run_bind, Result.andThen]
theorem RD.lenStr {t : TypeId} {x : Operand} {s : ByteArray} (hx : opnd env x = some (.string s)) (hu : P.underlying t = some .string) :
    RD P ⟨d, .call ⟨.builtin .len, #[x], #[t]⟩, ty, g⟩ n env H (.int .i64 s.size) := fun a w ha _ => by
  simp [execOp, SOp.oper, resolve, invoke, Go.builtin, ha.eval hx, Builtin.len_, run_underlying hu, goInt, Sem.run_bind, Result.andThen]
theorem RD.capSl {t : TypeId} {x : Operand} {e : TypeId} {p : Option Addr} {m c : Nat} (hx : opnd env x = some (.slice p m c)) (hu : P.underlying t = some (.slice e)) :
    RD P ⟨d, .call ⟨.builtin .cap, #[x], #[t]⟩, ty, g⟩ n env H (.int .i64 c) := fun a w ha _ => by
  simp [execOp, SOp.oper, resolve, invoke, Go.builtin, ha.eval hx, Builtin.cap_, run_underlying hu, goInt, Sem.run_bind, Result.andThen]
theorem RD.indexSl {t e : TypeId} {x y : Operand} {b off m c k : Nat} {kd : IntKind} {i : Int} (hx : opnd env x = some (.slice (some ⟨b, off, none⟩) m c)) (hy : opnd env y = some (.int kd i)) (hu : P.underlying t = some (.slice e))
    (hz : ∀ w, (sizeOf e).run P w = .ok k w) (h0 : 0 ≤ i) (h1 : i < m) : RD P ⟨d, .indexAddr t x y, ty, g⟩ n env H (.pointer (some ⟨b, off + i.toNat * k, none⟩)) := fun a w ha _ => by
  have : (Instr.indexAt t (.slice (some ⟨b, off, none⟩) m c) (.int kd i)).run P w = .ok (.pointer (some ⟨b, off + i.toNat * k, none⟩)) w := by
    simp [Instr.indexAt, asIntOf, run_underlying hu, Sem.run_bind, Result.andThen, h0, h1, hz, add_off]
  simp [execOp, SOp.oper, ha.eval hx, ha.eval hy, Sem.run_bind, Result.andThen, this]
theorem RD.indexArr {t e len : Nat} {x y : Operand} {b off k j : Nat} {kd : IntKind} (hx : opnd env x = some (.pointer (some ⟨b, off, none⟩))) (hy : opnd env y = some (.int kd (j : Int))) (hu : P.underlying t = some (.array len e))
    (hz : ∀ w, (sizeOf e).run P w = .ok k w) (h1 : j < len) : RD P ⟨d, .indexAddr t x y, ty, g⟩ n env H (.pointer (some ⟨b, off + j * k, none⟩)) := fun a w ha _ => by
  have h0 : (0 : Int) ≤ (j : Int) := by omega
  have h2 : (j : Int) < (len : Int) := by omega
  have : (Instr.indexAt t (.pointer (some ⟨b, off, none⟩)) (.int kd (j : Int))).run P w = .ok (.pointer (some ⟨b, off + j * k, none⟩)) w := by
    simp [Instr.indexAt, Instr.sureAddr, asIntOf, run_underlying hu, Sem.run_bind, Result.andThen, h0, h2, hz, add_off]
    omega
  simp [execOp, SOp.oper, ha.eval hx, ha.eval hy, Sem.run_bind, Result.andThen, this]
theorem RD.indexN {t e : TypeId} {x y : Operand} {b off m c k j : Nat} {kd : IntKind} (hx : opnd env x = some (.slice (some ⟨b, off, none⟩) m c)) (hy : opnd env y = some (.int kd (j : Int))) (hu : P.underlying t = some (.slice e))
    (hz : ∀ w, (sizeOf e).run P w = .ok k w) (h1 : j < m) : RD P ⟨d, .indexAddr t x y, ty, g⟩ n env H (.pointer (some ⟨b, off + j * k, none⟩)) := by
  have := RD.indexSl (P := P) (n := n) (H := H) (d := d) (ty := ty) (g := g) hx hy hu hz (by omega) (by omega)
  simpa using this
theorem RD.indexStr {t : TypeId} {x y : Operand} {s : ByteArray} {kd : IntKind} {i : Int} (hx : opnd env x = some (.string s)) (hy : opnd env y = some (.int kd i)) (hu : P.underlying t = some .string) (h0 : 0 ≤ i) (h1 : i < s.size) :
    RD P ⟨d, .index t x y, ty, g⟩ n env H (.int .u8 (s[i.toNat]!).toNat) := fun a w ha _ => by
  have := run_index_string (P := P) w t s kd i hu
  simp [execOp, SOp.oper, ha.eval hx, ha.eval hy, Sem.run_bind, Result.andThen, this, h0, h1]
theorem RD.max {ts : Array TypeId} {x y : Operand} {k : IntKind} {p q : Int} (hx : opnd env x = some (.int k p)) (hy : opnd env y = some (.int k q)) :
    RD P ⟨d, .call ⟨.builtin .max, #[x, y], ts⟩, ty, g⟩ n env H (.int k (if q > p then q else p)) := fun a w ha _ => by
  simp [execOp, SOp.oper, resolve, invoke, Go.builtin, ha.eval hx, ha.eval hy, run_max_int2, Sem.run_bind, Result.andThen]
theorem RD.min {ts : Array TypeId} {x y : Operand} {k : IntKind} {p q : Int} (hx : opnd env x = some (.int k p)) (hy : opnd env y = some (.int k q)) :
    RD P ⟨d, .call ⟨.builtin .min, #[x, y], ts⟩, ty, g⟩ n env H (.int k (if q < p then q else p)) := fun a w ha _ => by
  simp [execOp, SOp.oper, resolve, invoke, Go.builtin, ha.eval hx, ha.eval hy, run_min_int2, Sem.run_bind, Result.andThen]

/-! ### maps -/
structure KeyTy (P : Program) (K : TypeId) (kd : TypeDesc) : Prop where
  und : P.underlying K = some kd
  flat : (match kd with | .int _ | .string | .bool => true | _ => false) = true

def same (a b : Value) : Bool :=
  match a, b with
  | .int _ x, .int _ y => x == y
  | .string s, .string t => s == t
  | .bool s, .bool t => s == t
  | _, _ => false
def mfind (k : Value) : List MapEntry → Nat → Option (Nat × Value)
  | [], _ => none
  | e :: es, i => if same k e.key then some (i, e.val) else mfind k es (i + 1)
def KeysOk (kd : TypeDesc) (k : Value) (es : List MapEntry) : Prop := ∀ e ∈ es, Instr.sameNow kd k e.key = some (same k e.key)

theorem findNow_eq {kd : TypeDesc} {k : Value} : ∀ (es : List MapEntry) (i : Nat), KeysOk kd k es → Instr.findNow kd k es i = some (mfind k es i) := by
  intro es
  induction es with
  | nil => intro i _; rfl
  | cons e es ih =>
    intro i h
    have h1 := h e (List.mem_cons_self ..)
    have h2 := ih (i + 1) (fun x hx => h x (List.mem_cons_of_mem _ hx))
    simp only [Instr.findNow, h1, mfind]
    by_cases hs : same k e.key = true
    · simp [hs]
    · simp [hs, h2]
theorem run_findKey {K : TypeId} {kd : TypeDesc} {k : Value} {es : List MapEntry} (hK : KeyTy P K kd) (h : KeysOk kd k es) (w : World) : (Instr.findKey K k es).run P w = .ok (mfind k es 0) w := by
  simp [Instr.findKey, run_underlying hK.und, findNow_eq es 0 h, Sem.run_bind, Result.andThen]
theorem run_checkKey {K : TypeId} {kd : TypeDesc} {k : Value} (hK : KeyTy P K kd) (b : Bool) (w : World) : (Instr.checkKey b 10000 K k).run P w = .ok () w := by
  have h1 := hK.und
  have h2 := hK.flat
  rw [show (10000 : Nat) = 9999 + 1 from rfl, Instr.checkKey]
  cases kd <;> first | (simp at h2; done) | simp [run_underlying h1, Sem.run_bind, Result.andThen]
theorem run_getMap {w : World} {H : Heap} {m c : Nat} {es : List MapEntry} (hw : w.heap = H) (hb : H[m]? = some (.map es.toArray c)) : (getObj m).run P w = .ok (.map es.toArray c) w := by
  simp [getObj, Sem.run, hw, hb]

theorem RD.lookY {t K E : TypeId} {kd : TypeDesc} {x y : Operand} {m c i : Nat} {es : List MapEntry} {k v : Value} {ok : Bool} (hx : opnd env x = some (.map (some m))) (hy : opnd env y = some k) (hu : P.underlying t = some (.map K E))
    (hK : KeyTy P K kd) (hb : H[m]? = some (.map es.toArray c)) (hk : KeysOk kd k es) (hf : mfind k es 0 = some (i, v)) :
    RD P ⟨d, .lookup t x y ok, ty, g⟩ n env H (if ok then .tuple #[v, .bool true] else v) := fun a w ha hw => by
  have h1 := run_getMap (P := P) hw hb
  simp [execOp, SOp.oper, ha.eval hx, ha.eval hy, Instr.lookup, run_underlying hu, h1, run_checkKey hK, run_findKey hK hk, hf, Sem.run_bind, Result.andThen]
theorem RD.lookN {t K E : TypeId} {kd : TypeDesc} {x y : Operand} {m c : Nat} {es : List MapEntry} {k z : Value} {ok : Bool} (hx : opnd env x = some (.map (some m))) (hy : opnd env y = some k) (hu : P.underlying t = some (.map K E))
    (hK : KeyTy P K kd) (hb : H[m]? = some (.map es.toArray c)) (hk : KeysOk kd k es) (hf : mfind k es 0 = none) (hz : ∀ w, (zeroValue E).run P w = .ok z w) :
    RD P ⟨d, .lookup t x y ok, ty, g⟩ n env H (if ok then .tuple #[z, .bool false] else z) := fun a w ha hw => by
  have h1 := run_getMap (P := P) hw hb
  simp [execOp, SOp.oper, ha.eval hx, ha.eval hy, Instr.lookup, run_underlying hu, h1, run_checkKey hK, run_findKey hK hk, hf, hz, Sem.run_bind, Result.andThen]
theorem RD.lenMap {t K E : TypeId} {x : Operand} {m c : Nat} {es : List MapEntry} (hx : opnd env x = some (.map (some m))) (hu : P.underlying t = some (.map K E)) (hb : H[m]? = some (.map es.toArray c)) :
    RD P ⟨d, .call ⟨.builtin .len, #[x], #[t]⟩, ty, g⟩ n env H (.int .i64 es.length) := fun a w ha hw => by
  have h1 := run_getMap (P := P) hw hb
  simp [execOp, SOp.oper, resolve, invoke, Go.builtin, ha.eval hx, Builtin.len_, run_underlying hu, h1, goInt, Sem.run_bind, Result.andThen]

/-! ### effects -/
/-- An effect that runs through: what it hands back, what the heap becomes. -/
def DO (P : Program) (o : SOp) (n : Nat) (env : Env) (H : Heap) (v : Value) (H' : Heap) : Prop :=
  ∀ a (w : World), Sat n env a → w.heap = H → ∃ w', Sim w w' ∧ w'.heap = H' ∧ ((execOp a.eval o.oper).run P w = .ok (.value v) w' ∨ ((execOp a.eval o.oper).run P w = .ok .skip w' ∧ v = undef))

theorem wf_do {o : SOp} {k : Nat} {r : List (SOp × Nat)} {v : Value} {H' : Heap} (hg : gd o.g env = some true) (hd : okD o.dst n = true) (he : DO P o n env H v H') (hC : CC k C H')
    (h : WF P C r Q n (putE o.dst v env) H') : WF P C ((o, k + 2) :: r) Q n env H := by
  refine wf_ef (K := fun u G => u = v ∧ G = H') (X := fun _ _ => False) hg hd ?_ (fun _ _ h => h.elim) (fun u G ⟨e1, e2⟩ => by subst e1; subst e2; exact ⟨hC, h⟩)
  intro a w0 w ha hs hw
  obtain ⟨w', h1, h2, h3⟩ := he a w ha hw
  unfold Oper.wp
  rcases h3 with h3 | ⟨h3, e⟩
  · rw [h3]; exact ⟨v, rfl, hs.trans h1, rfl, h2⟩
  · rw [h3]; exact ⟨v, by rw [e]; rfl, hs.trans h1, rfl, h2⟩

theorem DO.alloc {t : TypeId} {z : Value} (hz : ∀ w, (zeroValue t).run P w = .ok z w) : DO P ⟨d, .alloc t, ty, g⟩ n env H (.pointer (some ⟨H.size, 0, none⟩)) (nw H (.cells z.cells t)) := fun a w _ hw => by
  refine ⟨w.alloc (.cells z.cells t), ⟨rfl, rfl, rfl⟩, by simp [World.alloc, nw, hw], .inl ?_⟩
  simp [execOp, SOp.oper, Instr.alloc, hz, newVar, newRow, Sem.run_bind, Result.andThen, hw]
theorem DO.box {t : TypeId} {x : Operand} {v : Value} (hx : opnd env x = some v) : DO P ⟨d, .box t x, ty, g⟩ n env H (.pointer (some ⟨H.size, 0, none⟩)) (nw H (.cells v.cells t)) := fun a w ha hw => by
  refine ⟨w.alloc (.cells v.cells t), ⟨rfl, rfl, rfl⟩, by simp [World.alloc, nw, hw], .inl ?_⟩
  simp [execOp, SOp.oper, ha.eval hx, Instr.box, newVar, newRow, Sem.run_bind, Result.andThen, hw]
theorem DO.mkMap {t : TypeId} : DO P ⟨d, .makeMap t none, ty, g⟩ n env H (.map (some H.size)) (nw H (.map #[] 0)) := fun a w _ hw => by
  refine ⟨w.alloc (.map #[] 0), ⟨rfl, rfl, rfl⟩, by simp [World.alloc, nw, hw], .inl ?_⟩
  simp [execOp, SOp.oper, Instr.makeMap, Sem.run_bind, Result.andThen, hw]

theorem heap_set {w : World} {H : Heap} {b off : Nat} {cs : List Value} {T : TypeId} {fz : Nat × Nat} {v : Value} (hw : w.heap = H) (hb : H[b]? = some (.cells cs.toArray T fz)) :
    (w.setCell ⟨b, off, none⟩ v).heap = wr H b (.cells (cs.set off v).toArray T fz) := by
  subst hw
  apply Array.ext_getElem?
  intro i
  by_cases e : i = b
  · subst e
    rw [wr_same (lt_of hb)]
    simp only [World.setCell, Array.getElem?_modify, if_true, hb]
    simp
  · rw [wr_ne e]
    simp only [World.setCell, Array.getElem?_modify]
    rw [if_neg (Ne.symm e)]

theorem run_stores {T : TypeId} {b : Nat} : ∀ (vs : List Value) (off i : Nat) (cs : List Value) (w : World), w.heap[b]? = some (.cells cs.toArray T (0, 0)) → off + i + vs.length ≤ cs.length → (∀ v ∈ vs, v.oneCell' = true) →
    ∃ w', Sim w w' ∧ (storeCells ⟨b, off, none⟩ vs i).run P w = .ok () w' ∧ w'.heap = wr w.heap b (.cells (cs.take (off + i) ++ vs ++ cs.drop (off + i + vs.length)).toArray T (0, 0)) := by
  intro vs
  induction vs with
  | nil =>
    intro off i cs w hb hl _
    refine ⟨w, Sim.refl w, by simp [storeCells], ?_⟩
    simp only [List.append_nil, List.length_nil, Nat.add_zero, List.take_append_drop]
    exact (wr_self hb).symm
  | cons v vs ih =>
    intro off i cs w hb hl hv
    have hc : w.cell? ⟨b, off + i, none⟩ = cs[off + i]? := cell_of rfl hb
    have hlt : off + i < cs.length := by simp at hl; omega
    have hf : w.frozen? ⟨b, off + i, none⟩ = false := froz_of rfl hb
    have hrun : (store ⟨b, off + i, none⟩ v).run P w = .ok () (w.setCell ⟨b, off + i, none⟩ v) := by
      rw [run_store P w _ v _ (hv v (List.mem_cons_self ..)), hc, List.getElem?_eq_getElem hlt]
      simp [hf]
    have hh := heap_set (w := w) (H := w.heap) (off := off + i) (v := v) rfl hb
    have hb' : (w.setCell ⟨b, off + i, none⟩ v).heap[b]? = some (.cells (cs.set (off + i) v).toArray T (0, 0)) := by rw [hh]; exact wr_same (lt_of hb)
    obtain ⟨w', h1, h2, h3⟩ := ih off (i + 1) _ _ hb' (by simp at hl ⊢; omega) (fun u hu => hv u (List.mem_cons_of_mem _ hu))
    refine ⟨w', ⟨h1.os, h1.tape, h1.output⟩, ?_, ?_⟩
    · simp only [storeCells, Sem.run_bind, add_off, hrun, Result.andThen, h2]
    · rw [h3, hh]
      simp only [wr, Array.setIfInBounds_setIfInBounds]
      congr 3
      have e1 : (cs.set (off + i) v).take (off + (i + 1)) = cs.take (off + i) ++ [v] := by
        rw [← Nat.add_assoc, List.take_add_one]
        simp [hlt, List.take_set_of_le]
      have e2 : (cs.set (off + i) v).drop (off + (i + 1) + vs.length) = cs.drop (off + i + (vs.length + 1)) := by
        rw [List.drop_set_of_lt (by omega)]
        congr 1
        omega
      rw [e1, e2]
      simp

theorem DO.store1 {t : TypeId} {x y : Operand} {b off : Nat} {cs : List Value} {T : TypeId} {v : Value} (hx : opnd env x = some (.pointer (some ⟨b, off, none⟩))) (hy : opnd env y = some v) (hz : ∀ w, (sizeOf t).run P w = .ok 1 w)
    (hb : H[b]? = some (.cells cs.toArray T (0, 0))) (hv : v.oneCell' = true) (hl : off < cs.length) : DO P ⟨none, .store t x y, ty, g⟩ n env H undef (wr H b (.cells (cs.set off v).toArray T (0, 0))) := fun a w ha hw => by
  subst hw
  refine ⟨w.setCell ⟨b, off, none⟩ v, ⟨rfl, rfl, rfl⟩, heap_set rfl hb, .inr ⟨?_, rfl⟩⟩
  have hc : w.cell? ⟨b, off, none⟩ = cs[off]? := cell_of rfl hb
  have hf : w.frozen? ⟨b, off, none⟩ = false := froz_of rfl hb
  have hcells : v.cells = #[v] := by cases v <;> first | rfl | (simp [Value.oneCell'] at hv)
  have hrun : (store ⟨b, off, none⟩ v).run P w = .ok () (w.setCell ⟨b, off, none⟩ v) := by
    rw [run_store P w _ v _ hv, hc, List.getElem?_eq_getElem hl]
    simp [hf]
  simp [execOp, SOp.oper, ha.eval hx, ha.eval hy, Instr.storeAt, Instr.sureAddr, storeVar, hcells, hz, storeCells, add_off, hrun, Sem.run_bind, Result.andThen]
theorem DO.storeK {t : TypeId} {x y : Operand} {b off : Nat} {cs vs : List Value} {T : TypeId} (hx : opnd env x = some (.pointer (some ⟨b, off, none⟩))) (hy : opnd env y = some (.agg vs.toArray)) (hz : ∀ w, (sizeOf t).run P w = .ok vs.length w)
    (hb : H[b]? = some (.cells cs.toArray T (0, 0))) (hv : ∀ v ∈ vs, v.oneCell' = true) (hl : off + vs.length ≤ cs.length) :
    DO P ⟨none, .store t x y, ty, g⟩ n env H undef (wr H b (.cells (cs.take off ++ vs ++ cs.drop (off + vs.length)).toArray T (0, 0))) := fun a w ha hw => by
  subst hw
  obtain ⟨w', h1, h2, h3⟩ := run_stores (P := P) vs off 0 cs w hb (by simpa using hl) hv
  refine ⟨w', h1, by simpa using h3, .inr ⟨?_, rfl⟩⟩
  simp [execOp, SOp.oper, ha.eval hx, ha.eval hy, Instr.storeAt, Instr.sureAddr, storeVar, Value.cells, hz, h2, Sem.run_bind, Result.andThen]
theorem DO.storeA {t : TypeId} {x y : Operand} {b : Nat} {cs vs : List Value} {T : TypeId} (hx : opnd env x = some (.pointer (some ⟨b, 0, none⟩))) (hy : opnd env y = some (.agg vs.toArray)) (hz : ∀ w, (sizeOf t).run P w = .ok vs.length w)
    (hb : H[b]? = some (.cells cs.toArray T (0, 0))) (hv : ∀ v ∈ vs, v.oneCell' = true) (hl : vs.length = cs.length) :
    DO P ⟨none, .store t x y, ty, g⟩ n env H undef (wr H b (.cells vs.toArray T (0, 0))) := by
  have := DO.storeK (n := n) (ty := ty) (g := g) hx hy hz hb hv (by omega)
  simpa [hl] using this

/-! ### slices and strings cut -/
theorem RD.slLH {t e : TypeId} {x lo hi : Operand} {b off m c k : Nat} {kl kh : IntKind} {l h : Int} (hx : opnd env x = some (.slice (some ⟨b, off, none⟩) m c)) (hlo : opnd env lo = some (.int kl l)) (hhi : opnd env hi = some (.int kh h))
    (hu : P.underlying t = some (.slice e)) (hz : ∀ w, (sizeOf e).run P w = .ok k w) (h0 : 0 ≤ l) (h1 : l ≤ h) (h2 : h ≤ c) (hlt : l < c) :
    RD P ⟨d, .slice t x (some lo) (some hi) none, ty, g⟩ n env H (.slice (some ⟨b, off + l.toNat * k, none⟩) (h.toNat - l.toNat) (c - l.toNat)) := fun a w ha _ => by
  have h3 : 0 ≤ h := by omega
  have h4 : l ≤ Max.max h 0 := by omega
  have : (Instr.sliceAt t (.slice (some ⟨b, off, none⟩) m c) (some (.int kl l)) (some (.int kh h)) none).run P w = .ok (.slice (some ⟨b, off + l.toNat * k, none⟩) (h.toNat - l.toNat) (c - l.toNat)) w := by
    simp [Instr.sliceAt, Instr.slice, Instr.sliceBounds, Instr.sliceBound, asIntOf, run_underlying hu, Sem.run_bind, Result.andThen, h0, h2, h3, h4, hz, add_off, show ¬ c = l.toNat by omega]
  simp [execOp, SOp.oper, ha.eval hx, ha.eval hlo, ha.eval hhi, Sem.run_bind, Result.andThen, this]
theorem RD.cast {o : SOp} {kd : IntKind} {p q : Int} (h : RD P o n env H (.int kd p)) (e : p = q) : RD P o n env H (.int kd q) := e ▸ h
/-- The place over a place. -/
theorem RD.quoPar {xt yt : TypeId} {x y : Operand} {j : Nat} (hx : opnd env x = some (.int .i64 ((j : Int) - 1))) (hy : opnd env y = some (.int .i64 2)) (hj : j < 9223372036854775807) :
    RD P ⟨d, .binOp .quo xt x y yt, ty, g⟩ n env H (.int .i64 (((j - 1) / 2 : Nat) : Int)) := by
  rcases Nat.eq_zero_or_pos j with h0 | h0
  · subst h0
    intro a w ha _
    have : IntKind.i64.wrap ((((0 : Nat) : Int) - 1).tdiv 2) = 0 := by decide
    simp [execOp, SOp.oper, ha.eval hx, ha.eval hy, eqGuard, binOp, Op.intDiv, Sem.run_bind, Result.andThen]
    exact this
  · have := RD.quo64 (P := P) (n := n) (H := H) (d := d) (ty := ty) (g := g) (xt := xt) (yt := yt) hx hy (by omega) (by omega) (by omega)
    rwa [show ((j : Int) - 1) / 2 = (((j - 1) / 2 : Nat) : Int) by omega] at this
theorem RD.sub1 {xt yt : TypeId} {x y : Operand} {m : Nat} (hx : opnd env x = some (.int .i64 ((m + 1 : Nat) : Int))) (hy : opnd env y = some (.int .i64 1)) (h : m < 9223372036854775807) :
    RD P ⟨d, .binOp .sub xt x y yt, ty, g⟩ n env H (.int .i64 (m : Int)) := by
  have := RD.sub64 (P := P) (n := n) (H := H) (d := d) (ty := ty) (g := g) (xt := xt) (yt := yt) hx hy (by omega)
  rwa [show ((m + 1 : Nat) : Int) - 1 = (m : Int) by omega] at this
theorem RD.slH {t e : TypeId} {x hi : Operand} {p : Option Addr} {m c k : Nat} {kh : IntKind} {h : Int} (hx : opnd env x = some (.slice p m c)) (hhi : opnd env hi = some (.int kh h))
    (hu : P.underlying t = some (.slice e)) (hz : ∀ w, (sizeOf e).run P w = .ok k w) (h0 : 0 ≤ h) (h2 : h ≤ c) :
    RD P ⟨d, .slice t x none (some hi) none, ty, g⟩ n env H (.slice p h.toNat c) := fun a w ha _ => by
  have : (Instr.sliceAt t (.slice p m c) none (some (.int kh h)) none).run P w = .ok (.slice p h.toNat c) w := by
    cases p with
    | none => simp [Instr.sliceAt, Instr.slice, Instr.sliceBounds, Instr.sliceBound, asIntOf, run_underlying hu, Sem.run_bind, Result.andThen, h0, h2, hz]
    | some q =>
      obtain ⟨b, off, sp⟩ := q
      simp [Instr.sliceAt, Instr.slice, Instr.sliceBounds, Instr.sliceBound, asIntOf, run_underlying hu, Sem.run_bind, Result.andThen, h0, h2, hz, Addr.add]
  simp [execOp, SOp.oper, ha.eval hx, ha.eval hhi, Sem.run_bind, Result.andThen, this]
theorem RD.slN {t e : TypeId} {x hi : Operand} {p : Option Addr} {m c k j : Nat} {kh : IntKind} (hx : opnd env x = some (.slice p m c)) (hhi : opnd env hi = some (.int kh (j : Int)))
    (hu : P.underlying t = some (.slice e)) (hz : ∀ w, (sizeOf e).run P w = .ok k w) (h2 : j ≤ c) :
    RD P ⟨d, .slice t x none (some hi) none, ty, g⟩ n env H (.slice p j c) := by
  have := RD.slH (P := P) (n := n) (H := H) (d := d) (ty := ty) (g := g) hx hhi hu hz (by omega) (by omega)
  simpa using this
theorem RD.slStr {t : TypeId} {x lo hi : Operand} {s : ByteArray} {kl kh : IntKind} {l h : Int} (hx : opnd env x = some (.string s)) (hlo : opnd env lo = some (.int kl l)) (hhi : opnd env hi = some (.int kh h))
    (hu : P.underlying t = some .string) (h0 : 0 ≤ l) (h1 : l ≤ h) (h2 : h ≤ s.size) :
    RD P ⟨d, .slice t x (some lo) (some hi) none, ty, g⟩ n env H (.string (s.extract l.toNat h.toNat)) := fun a w ha _ => by
  have h3 : 0 ≤ h := by omega
  have h4 : l ≤ Max.max h 0 := by omega
  have : (Instr.sliceAt t (.string s) (some (.int kl l)) (some (.int kh h)) none).run P w = .ok (.string (s.extract l.toNat h.toNat)) w := by
    simp [Instr.sliceAt, Instr.slice, Instr.sliceBounds, Instr.sliceBound, asIntOf, run_underlying hu, Sem.run_bind, Result.andThen, h0, h2, h3, h4]
  simp [execOp, SOp.oper, ha.eval hx, ha.eval hlo, ha.eval hhi, Sem.run_bind, Result.andThen, this]

/-! ### maps written -/
def mput (k v : Value) (c : Nat) (es : List MapEntry) : List MapEntry × Nat :=
  match mfind k es 0 with
  | some (i, _) => (es.modify i fun e => { e with key := k, val := v }, c)
  | none => (es ++ [⟨k, v, c⟩], c + 1)
def mdel (k : Value) (es : List MapEntry) : List MapEntry :=
  match mfind k es 0 with
  | some (i, _) => es.eraseIdx i
  | none => es

theorem mfind_some {k : Value} : ∀ (es : List MapEntry) (j i : Nat) (v : Value), mfind k es j = some (i, v) → j ≤ i ∧ ∃ e, es[i - j]? = some e ∧ e.val = v ∧ same k e.key = true := by
  intro es
  induction es with
  | nil => intro j i v h; simp [mfind] at h
  | cons e es ih =>
    intro j i v h
    simp only [mfind] at h
    split at h
    · simp only [Option.some.injEq, Prod.mk.injEq] at h
      obtain ⟨rfl, rfl⟩ := h
      exact ⟨Nat.le_refl _, e, by simp, rfl, by assumption⟩
    · obtain ⟨h1, e', h2, h3, h4⟩ := ih (j + 1) i v h
      refine ⟨by omega, e', ?_, h3, h4⟩
      rw [show i - j = (i - (j + 1)) + 1 by omega]
      simpa using h2

/-- Keys that are told apart by 'same' are kept as they are stored. -/
def keyEq (a b : Value) : Bool := Instr.sameBits 10000 a b
theorem setObj_run {w : World} {H : Heap} {m c : Nat} {es : List MapEntry} {o : Obj} (hw : w.heap = H) (hb : H[m]? = some (.map es.toArray c)) :
    (setObj m o).run P w = .ok () { w with heap := wr H m o } := by
  subst hw
  simp [setObj, Sem.run, hb, wr]

theorem DO.mapPut {t K E : TypeId} {kd : TypeDesc} {x y z : Operand} {m c : Nat} {es : List MapEntry} {k v : Value} (hx : opnd env x = some (.map (some m))) (hy : opnd env y = some k) (hv : opnd env z = some v) (hu : P.underlying t = some (.map K E))
    (hK : KeyTy P K kd) (hb : H[m]? = some (.map es.toArray c)) (hk : KeysOk kd k es) (hs : ∀ e ∈ es, same k e.key = true → keyEq e.key k = true) :
    DO P ⟨none, .mapUpdate t x y z, ty, g⟩ n env H undef (wr H m (.map (mput k v c es).1.toArray (mput k v c es).2)) := fun a w ha hw => by
  have h1 := run_getMap (P := P) hw hb
  refine ⟨{ w with heap := wr H m (.map (mput k v c es).1.toArray (mput k v c es).2) }, ⟨rfl, rfl, rfl⟩, rfl, .inr ⟨?_, rfl⟩⟩
  have : (Instr.mapUpdate t (.map (some m)) k v).run P w = .ok () { w with heap := wr H m (.map (mput k v c es).1.toArray (mput k v c es).2) } := by
    cases hf : mfind k es 0 with
    | none =>
      simp only [Instr.mapUpdate, run_underlying hu, Sem.run_bind, Result.andThen, h1, run_checkKey hK, run_findKey hK hk, hf, mput]
      rw [setObj_run hw hb]
      simp
    | some x =>
      obtain ⟨i, u⟩ := x
      obtain ⟨_, e, he, _, hse⟩ := mfind_some es 0 i u hf
      have hkey : ((es.toArray[i]?).map (·.key)).getD k = e.key := by simp at he; simp [he]
      have hkt : (Instr.keyThatStays e.key k).run P w = .ok k w := by
        have := hs e (List.mem_of_getElem? he) hse
        unfold keyEq at this
        simp [Instr.keyThatStays, this]
      simp only [Instr.mapUpdate, run_underlying hu, Sem.run_bind, Result.andThen, h1, run_checkKey hK, run_findKey hK hk, hf, hkey, hkt, mput]
      rw [setObj_run hw hb]
      simp
  simp [execOp, SOp.oper, ha.eval hx, ha.eval hy, ha.eval hv, Sem.run_bind, Result.andThen, this]
theorem DO.mapDel {t K E u : TypeId} {kd : TypeDesc} {x y : Operand} {m c : Nat} {es : List MapEntry} {k : Value} (hx : opnd env x = some (.map (some m))) (hy : opnd env y = some k) (hu : P.underlying t = some (.map K E))
    (hK : KeyTy P K kd) (hb : H[m]? = some (.map es.toArray c)) (hk : KeysOk kd k es) :
    DO P ⟨d, .call ⟨.builtin .delete, #[x, y], #[t, u]⟩, ty, g⟩ n env H (.tuple #[]) (wr H m (.map (mdel k es).toArray c)) := fun a w ha hw => by
  have h1 := run_getMap (P := P) hw hb
  refine ⟨{ w with heap := wr H m (.map (mdel k es).toArray c) }, ⟨rfl, rfl, rfl⟩, rfl, .inl ?_⟩
  have : (Builtin.delete_ #[t, u] ty #[.map (some m), k]).run P w = .ok (.tuple #[]) { w with heap := wr H m (.map (mdel k es).toArray c) } := by
    cases hf : mfind k es 0 with
    | none =>
      simp only [Builtin.delete_, List.getElem?_toArray, List.getElem?_cons_zero, List.getElem?_cons_succ, run_underlying hu, Sem.run_bind, Result.andThen, h1, run_checkKey hK, run_findKey hK hk, hf, mdel]
      rw [setObj_run hw hb]
      simp
    | some x =>
      obtain ⟨i, u⟩ := x
      simp only [Builtin.delete_, List.getElem?_toArray, List.getElem?_cons_zero, List.getElem?_cons_succ, run_underlying hu, Sem.run_bind, Result.andThen, h1, run_checkKey hK, run_findKey hK hk, hf, mdel]
      rw [setObj_run hw hb]
      simp
  simp [execOp, SOp.oper, resolve, invoke, Go.builtin, ha.eval hx, ha.eval hy, Sem.run_bind, Result.andThen, this]

/-! ### append -/
structure ElTy (P : Program) (t e k : Nat) (z : Value) (bytes : Nat) : Prop where
  und : P.underlying t = some (.slice e)
  info : ∃ i, P.info? e = some i ∧ i.zero = some z ∧ i.size = k ∧ i.bytes = bytes
  zs : z.cells.size = k
  pos : 0 < k
theorem ElTy.sz {t e k : Nat} {z : Value} {bytes : Nat} (h : ElTy P t e k z bytes) (w : World) : (sizeOf e).run P w = .ok k w := by
  obtain ⟨i, h1, _, h3, _⟩ := h.info
  simp [sizeOf, typeInfo, h1, h3]

def Own (H : Heap) (e k : Nat) (v : Value) (m : Nat) (xs : List Value) : Prop :=
  xs.length = m * k ∧
  ((v = .slice none 0 0 ∧ m = 0) ∨
   ∃ g cap cur, v = .slice (some ⟨g, 0, none⟩) m cap ∧ 0 ≤ g ∧ H[g]? = some (.cells cur e (0, 0)) ∧ m ≤ cap ∧ cap ≤ maxLen ∧ cur.size = cap * k ∧ cur.toList.take (m * k) = xs)
/-- What has been there stands, but for one row. -/
def Grw (H H' : Heap) (row : Option Nat) : Prop := H.size ≤ H'.size ∧ ∀ j, j < H.size → some j ≠ row → H'[j]? = H[j]?

/-- append onto what the call owns, AND WHERE THE ROW THEN LIES. -/
theorem run_append2 (w : World) (t ty e : TypeId) (i : TypeInfo) (z : Value) (ht : P.underlying t = some (.slice e)) (hi : P.info? e = some i) (hz : i.zero = some z)
    (hzs : z.cells.size = i.size) (hsz : 0 < i.size) (v : Value) (m0 : Nat) (xs : List Value) (hown : w.ownsRow 0 e i.size v m0 xs)
    (a : Addr) (m c : Nat) (news : List Value) (hl : news.length = m * i.size) (hnews : ∀ j u, news[j]? = some u → w.cell? (a.add j) = some u) (h1 : ∀ u ∈ news, u.oneCell' = true)
    (h63 : m0 + m ≤ maxLen) (hbytes : (m0 + m) * i.bytes ≤ 140737488355328) :
    ∃ v' w', (Builtin.append_ #[t, t] ty #[v, .slice (some a) m c]).run P w = .ok v' w' ∧ w'.ownsRow 0 e i.size v' (m0 + m) (xs ++ news) ∧ w.grownBy w' v.ownBlock ∧
      (v'.ownBlock = v.ownBlock ∨ v'.ownBlock = some w.heap.size) := by
  obtain ⟨v', w', hr, ho, hg, _⟩ := run_append_own (P := P) (w := w) 0 t ty e i z i.size i.bytes ht hi hz rfl rfl hzs hsz v m0 xs hown a m c news hl hnews h1 h63 hbytes (Nat.zero_le _)
  refine ⟨v', w', hr, ho, hg, ?_⟩
  have hsmall : m0 + m ≤ 9223372036854775807 := by simp only [maxLen] at h63; omega
  rcases hown.2 with ⟨rfl, rfl⟩ | ⟨g, cap, cur, rfl, hbg, hgg, hnc, hcm, hcs, htake⟩
  · by_cases hm : m = 0
    · subst hm
      have hn : news = [] := List.eq_nil_of_length_eq_zero (by simpa using hl)
      subst hn
      have : (Builtin.append_ #[t, t] ty #[.slice none 0 0, .slice (some a) 0 c]).run P w = .ok (.slice none 0 0) w := by
        simp [Builtin.append_, run_underlying ht, sizeOf, typeInfo, hi, Builtin.lenOf, Builtin.firstCells, loadCells, loadCellsFrom]
      rw [hr] at this
      simp only [Result.ok.injEq] at this
      rw [this.1]; exact .inl rfl
    · have := run_append_nil (P := P) w t ty e i z ht hi hz a m c news hl hnews (by omega) (by omega) (by have hb := hbytes; simp only [Nat.zero_add] at hb; omega)
      rw [hr] at this
      simp only [Result.ok.injEq] at this
      rw [this.1]; exact .inr rfl
  · by_cases hroom : m0 + m ≤ cap
    · have hfit : m0 * i.size + news.length ≤ cur.size := by rw [hl, hcs, ← Nat.add_mul]; exact Nat.mul_le_mul_right _ hroom
      have := run_append_room (P := P) w t ty e i ht hi g m0 cap cur hgg a m c news hl hnews h1 hroom hfit
      rw [hr] at this
      simp only [Result.ok.injEq] at this
      rw [this.1]; exact .inl rfl
    · have holds : ∀ j u, xs[j]? = some u → w.cell? ((⟨g, 0, none⟩ : Addr).add j) = some u := hown.cells (g := g) rfl
      have := run_append_grow (P := P) w t ty e i z ht hi hz ⟨g, 0, none⟩ m0 cap xs hown.1 holds a m c news hl hnews (by omega) (by omega) (growslice_fits (by omega) hbytes)
      rw [hr] at this
      simp only [Result.ok.injEq] at this
      rw [this.1]; exact .inr rfl

theorem wf_append {t e k bytes m0 m c b off : Nat} {kk : Nat} {z : Value} {x y : Operand} {v : Value} {xs news ss : List Value} {T : TypeId} {fz : Nat × Nat} {r : List (SOp × Nat)} (hE : ElTy P t e k z bytes)
    (hx : opnd env x = some v) (hy : opnd env y = some (.slice (some ⟨b, off, none⟩) m c)) (hown : Own H e k v m0 xs) (hb : H[b]? = some (.cells ss.toArray T fz)) (hn : (ss.drop off).take (m * k) = news) (hl : off + m * k ≤ ss.length)
    (h1 : ∀ u ∈ news, u.oneCell' = true) (h63 : m0 + m ≤ 9223372036854775807) (hby : (m0 + m) * bytes ≤ 140737488355328) (hg : gd g env = some true) (hd : okD d n = true)
    (h : ∀ v' H', Own H' e k v' (m0 + m) (xs ++ news) → Grw H H' v.ownBlock → (v'.ownBlock = v.ownBlock ∨ v'.ownBlock = some H.size) → CC kk C H' ∧ WF P C r Q n (putE d v' env) H') :
    WF P C ((⟨d, .call ⟨.builtin .append, #[x, y], #[t, t]⟩, ty, g⟩, kk + 2) :: r) Q n env H := by
  refine wf_ef (K := fun v' H' => Own H' e k v' (m0 + m) (xs ++ news) ∧ Grw H H' v.ownBlock ∧ (v'.ownBlock = v.ownBlock ∨ v'.ownBlock = some H.size)) (X := fun _ _ => False) hg hd ?_ (fun _ _ h => h.elim) (fun u G ⟨e1, e2, e3⟩ => h u G e1 e2 e3)
  intro a w0 w ha hs hw
  obtain ⟨i, i1, i2, i3, i4⟩ := hE.info
  have hlen : news.length = m * k := by rw [← hn]; simp; omega
  subst i3
  subst i4
  obtain ⟨v', w', hrun, ho, hgrow, hwhere⟩ := run_append2 w t ty e i z hE.und i1 i2 hE.zs hE.pos v m0 xs (by subst hw; exact hown) ⟨b, off, none⟩ m c news hlen (fun j u hj => by
    rw [add_off, cell_of hw hb]
    have hj' : j < m * i.size := by
      rcases Nat.lt_or_ge j news.length with h | h
      · omega
      · rw [List.getElem?_eq_none h] at hj; cases hj
    rw [← hn] at hj
    simpa [List.getElem?_take, hj'] using hj) h1 (by simp [maxLen]; omega) hby
  unfold Oper.wp
  have : (execOp a.eval (SOp.oper ⟨d, .call ⟨.builtin .append, #[x, y], #[t, t]⟩, ty, g⟩)).run P w = .ok (.value v') w' := by
    simp [execOp, SOp.oper, resolve, invoke, Go.builtin, ha.eval hx, ha.eval hy, hrun, Sem.run_bind, Result.andThen]
  rw [this]
  refine ⟨v', rfl, ⟨hgrow.os.trans hs.os, hgrow.tape.trans hs.tape, hgrow.output.trans hs.output⟩, ho, ⟨?_, ?_⟩, by rw [← hw]; exact hwhere⟩
  · rw [← hw]; exact hgrow.size
  · intro j hj hne; rw [← hw] at hj ⊢; exact hgrow.block j hj hne

theorem wf_append0 {t e k bytes m0 : Nat} {kk : Nat} {z : Value} {x y : Operand} {v : Value} {xs : List Value} {r : List (SOp × Nat)} (hE : ElTy P t e k z bytes)
    (hx : opnd env x = some v) (hy : opnd env y = some (.slice none 0 0)) (hown : Own H e k v m0 xs) (hg : gd g env = some true) (hd : okD d n = true) (hC : CC kk C H)
    (h : WF P C r Q n (putE d v env) H) : WF P C ((⟨d, .call ⟨.builtin .append, #[x, y], #[t, t]⟩, ty, g⟩, kk + 2) :: r) Q n env H := by
  refine wf_do hg hd (fun a w ha hw => ⟨w, Sim.refl w, hw, .inl ?_⟩) hC h
  obtain ⟨i, i1, i2, i3, i4⟩ := hE.info
  have := run_append_owned_none (P := P) (w := w) 0 t ty e i k hE.und i1 v m0 xs (by subst hw; exact hown)
  simp [execOp, SOp.oper, resolve, invoke, Go.builtin, ha.eval hx, ha.eval hy, this, Sem.run_bind, Result.andThen]

/-- .. where what is appended has no element: wherever it lies. -/
theorem wf_appendE {t e k bytes m0 c : Nat} {kk : Nat} {z : Value} {x y : Operand} {v : Value} {a0 : Addr} {xs : List Value} {r : List (SOp × Nat)} (hE : ElTy P t e k z bytes)
    (hx : opnd env x = some v) (hy : opnd env y = some (.slice (some a0) 0 c)) (hown : Own H e k v m0 xs) (h63 : m0 ≤ 9223372036854775807) (hby : m0 * bytes ≤ 140737488355328) (hg : gd g env = some true) (hd : okD d n = true)
    (h : ∀ v' H', Own H' e k v' m0 xs → Grw H H' v.ownBlock → (v'.ownBlock = v.ownBlock ∨ v'.ownBlock = some H.size) → CC kk C H' ∧ WF P C r Q n (putE d v' env) H') :
    WF P C ((⟨d, .call ⟨.builtin .append, #[x, y], #[t, t]⟩, ty, g⟩, kk + 2) :: r) Q n env H := by
  refine wf_ef (K := fun v' H' => Own H' e k v' m0 xs ∧ Grw H H' v.ownBlock ∧ (v'.ownBlock = v.ownBlock ∨ v'.ownBlock = some H.size)) (X := fun _ _ => False) hg hd ?_ (fun _ _ h => h.elim) (fun u G ⟨e1, e2, e3⟩ => h u G e1 e2 e3)
  intro a w0 w ha hs hw
  obtain ⟨i, i1, i2, i3, i4⟩ := hE.info
  subst i3
  subst i4
  obtain ⟨v', w', hrun, ho, hgrow, hwhere⟩ := run_append2 w t ty e i z hE.und i1 i2 hE.zs hE.pos v m0 xs (by subst hw; exact hown) a0 0 c [] (by simp) (fun j u hj => by simp at hj) (fun u hu => by cases hu) (by simp [maxLen]; omega) (by simpa using hby)
  unfold Oper.wp
  have : (execOp a.eval (SOp.oper ⟨d, .call ⟨.builtin .append, #[x, y], #[t, t]⟩, ty, g⟩)).run P w = .ok (.value v') w' := by
    simp [execOp, SOp.oper, resolve, invoke, Go.builtin, ha.eval hx, ha.eval hy, hrun, Sem.run_bind, Result.andThen]
  rw [this]
  refine ⟨v', rfl, ⟨hgrow.os.trans hs.os, hgrow.tape.trans hs.tape, hgrow.output.trans hs.output⟩, by have h9 := ho; simp only [Nat.add_zero, List.append_nil] at h9; exact h9, ⟨?_, ?_⟩, by rw [← hw]; exact hwhere⟩
  · rw [← hw]; exact hgrow.size
  · intro j hj hne; rw [← hw] at hj ⊢; exact hgrow.block j hj hne

theorem foldl_fill (cs : List Value) : ∀ (k : Nat) (A : List Value), A.length = k + cs.length → ((cs.zipIdx k).foldl (fun acc x => acc.setIfInBounds (0 + x.2) x.1) A.toArray) = (A.take k ++ cs).toArray := by
  induction cs with
  | nil => intro k A h; simp at h ⊢; rw [← h]; simp
  | cons c cs ih =>
    intro k A h
    simp only [List.zipIdx_cons, List.foldl_cons, Nat.zero_add]
    have : A.toArray.setIfInBounds k c = (A.set k c).toArray := by simp
    rw [this]
    have ih' := ih (k + 1) (A.set k c) (by simp at h ⊢; omega)
    simp only [Nat.zero_add] at ih'
    rw [ih']
    simp only [List.length_cons] at h
    congr 1
    rw [List.take_add_one]
    simp [List.take_set_of_le, show k < A.length by omega]
theorem DO.mkSlice1 {t e k bytes : Nat} {z : Value} {x : Operand} {v : Value} {cs : List Value} (hE : ElTy P t e k z bytes) (hx : opnd env x = some v) (hc : v.cells = cs.toArray) (hl : cs.length = k) (hk : k ≤ 16777216) :
    DO P ⟨d, .buildSlice t 1 #[(0, x)], ty, g⟩ n env H (.slice (some ⟨H.size, 0, none⟩) 1 1) (nw H (.cells cs.toArray e)) := fun a w ha hw => by
  obtain ⟨i, i1, i2, i3, i4⟩ := hE.info
  have hp := hE.pos
  refine ⟨w.alloc (.cells cs.toArray e), ⟨rfl, rfl, rfl⟩, by simp [World.alloc, nw, hw], .inl ?_⟩
  have hfill : Instr.fill (fun i => some (i * k, k)) ((Array.range (1 * k)).map (z.cells[· % z.cells.size]!)) [(0, v)] = some cs.toArray := by
    simp only [Instr.fill, hc]
    have h0 : ((Array.range (1 * k)).map (z.cells[· % z.cells.size]!)) = ((List.range k).map (z.cells[· % z.cells.size]!)).toArray := by
      apply Array.ext'; simp
    rw [h0]
    have := foldl_fill cs 0 ((List.range k).map (z.cells[· % z.cells.size]!)) (by simp [hl])
    simp only [Nat.zero_mul]
    rw [if_neg (by simp [hl])]
    have h1 : cs.toArray.zipIdx.foldl (fun (acc : Array Value) (x : Value × Nat) => acc.setIfInBounds (0 + x.2) x.1) ((List.range k).map (z.cells[· % z.cells.size]!)).toArray = cs.toArray := by
      rw [← Array.foldl_toList]
      simpa using this
    exact congrArg some h1
  have hrun : (Instr.buildSlice t 1 #[(0, v)]).run P w = .ok (.slice (some ⟨w.heap.size, 0, none⟩) 1 1) (w.alloc (.cells cs.toArray e)) := by
    have hz2 : (zeroValue e).run P w = .ok z w := by simp [zeroValue, typeInfo, i1, i2]
    simp only [Instr.buildSlice, run_underlying hE.und, Sem.run_bind, Result.andThen, hE.sz, show ¬ (1 * k > 2 ^ 24) by omega, if_false, show ¬ (1 * k = 0) by omega, hz2, Sem.run_pure]
    rw [hfill]
    simp [newRow, Result.andThen]
  simp [execOp, SOp.oper, ha.eval hx, hrun, Sem.run_bind, Result.andThen, ← hw]

theorem DO.mkSlice0 {t e k bytes : Nat} {z : Value} (hE : ElTy P t e k z bytes) :
    DO P ⟨d, .buildSlice t 0 #[], ty, g⟩ n env H (.slice (some ⟨H.size, 0, none⟩) 0 0) (nw H (.cells ([] : List Value).toArray e)) := fun a w _ hw => by
  refine ⟨w.alloc (.cells ([] : List Value).toArray e), ⟨rfl, rfl, rfl⟩, by simp [World.alloc, nw, hw], .inl ?_⟩
  have hrun : (Instr.buildSlice t 0 #[]).run P w = .ok (.slice (some ⟨w.heap.size, 0, none⟩) 0 0) (w.alloc (.cells ([] : List Value).toArray e)) := by
    simp [Instr.buildSlice, run_underlying hE.und, Sem.run_bind, Result.andThen, hE.sz, Instr.fill, newRow]
    congr 2
    apply Array.ext'
    simp
  simp [execOp, SOp.oper, hrun, Sem.run_bind, Result.andThen, ← hw]

/-! ### calls -/
theorem run_enter {f : FuncId} {fn : Func} {c : Code} (hf : P.funcs[f]? = some fn) (hname : (fn.name == "runtime.NumGoroutine") = false) (hb : fn.body = some c) (args : Array Value) (w : World) :
    (callFunc f args).run P w = .ok (.enter f args) w := by
  have hname' : ¬ fn.name = "runtime.NumGoroutine" := by simpa using hname
  simp [callFunc, hf, hname', hb]

/-- A call that hands back. -/
def FN (P : Program) (f : FuncId) (args : List Value) (H : Heap) (R : Value → Heap → Prop) : Prop :=
  FC P f args.toArray H fun e H' => match e with | .returned v => R v H' | _ => False
theorem FN.mono {f : FuncId} {args : List Value} {R R' : Value → Heap → Prop} (h : FN P f args H R) (hr : ∀ v H', R v H' → R' v H') : FN P f args H R' :=
  FC.mono h fun e H' he => by cases e <;> first | exact hr _ _ he | exact he

theorem evals {a : Act} (ha : Sat n env a) : ∀ (l : List Operand) (vs : List Value), l.mapM (opnd env) = some vs → l.map a.eval = vs := by
  intro l
  induction l with
  | nil => intro vs h; simp at h; simp [h]
  | cons x l ih =>
    intro vs h
    simp only [List.mapM_cons, Option.bind_eq_bind, Option.bind_eq_some_iff, Option.pure_def, Option.some.injEq] at h
    obtain ⟨v, h1, vs', h2, rfl⟩ := h
    simp [ha.eval h1, ih _ h2]

theorem wf_callv {f : FuncId} {x : Operand} {kk : Nat} {args : Array Operand} {ts : Array TypeId} {vs caps : List Value} {R : Value → Heap → Prop} {r : List (SOp × Nat)} (hx : opnd env x = some (.func (.func f) #[] caps.toArray))
    (hargs : args.toList.mapM (opnd env) = some vs) (henter : ∀ as w, (callFunc f as).run P w = .ok (.enter f as) w) (hg : gd g env = some true) (hd : okD d n = true) (hf : FN P f (vs ++ caps) H R)
    (h : ∀ v H', R v H' → CC kk C H' ∧ WF P C r Q n (putE d v env) H') : WF P C ((⟨d, .call ⟨.value x, args, ts⟩, ty, g⟩, kk + 2) :: r) Q n env H := by
  refine wf_ef (K := R) (X := fun _ _ => False) hg hd ?_ (fun _ _ h => h.elim) h
  intro a w0 w ha hs hw
  have hm : args.map a.eval = vs.toArray := by apply Array.ext'; simpa using evals ha _ _ hargs
  unfold Oper.wp
  have : (execOp a.eval (SOp.oper ⟨d, .call ⟨.value x, args, ts⟩, ty, g⟩)).run P w = .ok (.enter f (vs ++ caps).toArray) w := by
    have hx' := ha.eval hx
    simp [execOp, SOp.oper, resolve, Deferred.ofValue, invoke, hx', hm, henter, Sem.run_bind, Result.andThen]
  rw [this]
  refine (hf w hw).mono fun e w' ⟨h1, h2⟩ => ?_
  cases e with
  | returned v => exact ⟨v, rfl, hs.trans h1, h2⟩
  | panicked c => exact h2.elim
  | outgrown => exact h2.elim
theorem wf_call {f : FuncId} {kk : Nat} {args : Array Operand} {ts : Array TypeId} {vs : List Value} {R : Value → Heap → Prop} {r : List (SOp × Nat)}
    (hargs : args.toList.mapM (opnd env) = some vs) (henter : ∀ as w, (callFunc f as).run P w = .ok (.enter f as) w) (hg : gd g env = some true) (hd : okD d n = true) (hf : FN P f vs H R)
    (h : ∀ v H', R v H' → CC kk C H' ∧ WF P C r Q n (putE d v env) H') : WF P C ((⟨d, .call ⟨.value (.func f), args, ts⟩, ty, g⟩, kk + 2) :: r) Q n env H :=
  wf_callv (caps := []) rfl hargs henter hg hd (by simpa using hf) h
theorem wf_invoke {f : FuncId} {x : Operand} {name : String} {kk : Nat} {t : TypeId} {u rv : Value} {args : Array Operand} {ts : Array TypeId} {vs : List Value} {R : Value → Heap → Prop} {r : List (SOp × Nat)} (hx : opnd env x = some (.iface t u))
    (hargs : args.toList.mapM (opnd env) = some vs) (henter : ∀ w, (callMethod (.iface t u) name vs.toArray).run P w = .ok (.enter f (rv :: vs).toArray) w) (hg : gd g env = some true) (hd : okD d n = true) (hf : FN P f (rv :: vs) H R)
    (h : ∀ v H', R v H' → CC kk C H' ∧ WF P C r Q n (putE d v env) H') : WF P C ((⟨d, .call ⟨.invoke x name, args, ts⟩, ty, g⟩, kk + 2) :: r) Q n env H := by
  refine wf_ef (K := R) (X := fun _ _ => False) hg hd ?_ (fun _ _ h => h.elim) h
  intro a w0 w ha hs hw
  have hm : args.map a.eval = vs.toArray := by apply Array.ext'; simpa using evals ha _ _ hargs
  unfold Oper.wp
  have : (execOp a.eval (SOp.oper ⟨d, .call ⟨.invoke x name, args, ts⟩, ty, g⟩)).run P w = .ok (.enter f (rv :: vs).toArray) w := by
    have hx' := ha.eval hx
    simp [execOp, SOp.oper, resolve, invoke, hx', hm, henter, Sem.run_bind, Result.andThen]
  rw [this]
  refine (hf w hw).mono fun e w' ⟨h1, h2⟩ => ?_
  cases e with
  | returned v => exact ⟨v, rfl, hs.trans h1, h2⟩
  | panicked c => exact h2.elim
  | outgrown => exact h2.elim

theorem fn_intro {f : FuncId} {fn : Func} {c : Code} {args : List Value} {R : Value → Heap → Prop} (n : Nat) (hf : P.funcs[f]? = some fn) (hb : fn.body = some c) (hn : fn.ntmps = n) (hs : Nat.ble args.length n = true)
    (h : WC P c (post P fn (fun e H' => match e with | .returned v => R v H' | _ => False)) n (env0 args 0) H) : FN P f args H R := fc_intro n hf hb hn hs h
end
end Go.S
