/-
  The steps of a walk that turn the heap: each hands on a new heap and what is known of it.
-/
import Derived.Test.YtfomnjippakjpaaOps
namespace Go.S
open Go.Flow (CC)
section
variable {P : Program} {C : Heap → Prop} {Q : Exit → Act → Heap → Prop} {n : Nat} {env : Env} {H : Heap} {d : Option Nat} {ty : TypeId} {g : Option (Option Nat × Bool)} {r : List (SOp × Nat)} {k : Nat}

theorem ne_new {b j : Nat} {o : Obj} (h : H[j]? = some o) (e : b = H.size) : j ≠ b := by have := lt_of h; omega

theorem wf_alloc {t : TypeId} {z : Value} {cs : List Value} (hz : ∀ w, (zeroValue t).run P w = .ok z w) (hc : z.cells = cs.toArray) (hg : gd g env = some true) (hd : okD d n = true)
    (h : ∀ (b : Nat) (H1 : Heap), b = H.size → H1.size = H.size + 1 → H1[b]? = some (.cells cs.toArray t (0, 0)) → (∀ j, j < H.size → H1[j]? = H[j]?) → CC k C H1 ∧ WF P C r Q n (putE d (.pointer (some ⟨b, 0, none⟩)) env) H1) :
    WF P C ((⟨d, .alloc t, ty, g⟩, k + 2) :: r) Q n env H := by
  obtain ⟨h1, h2⟩ := h H.size (nw H (.cells cs.toArray t)) rfl nw_size (nw_new rfl) (fun j hj => nw_lt hj)
  exact wf_do hg hd (hc ▸ DO.alloc hz) h1 h2
theorem wf_box {t : TypeId} {x : Operand} {v : Value} {cs : List Value} (hx : opnd env x = some v) (hc : v.cells = cs.toArray) (hg : gd g env = some true) (hd : okD d n = true)
    (h : ∀ (b : Nat) (H1 : Heap), b = H.size → H1.size = H.size + 1 → H1[b]? = some (.cells cs.toArray t (0, 0)) → (∀ j, j < H.size → H1[j]? = H[j]?) → CC k C H1 ∧ WF P C r Q n (putE d (.pointer (some ⟨b, 0, none⟩)) env) H1) :
    WF P C ((⟨d, .box t x, ty, g⟩, k + 2) :: r) Q n env H := by
  obtain ⟨h1, h2⟩ := h H.size (nw H (.cells cs.toArray t)) rfl nw_size (nw_new rfl) (fun j hj => nw_lt hj)
  exact wf_do hg hd (hc ▸ DO.box hx) h1 h2
theorem wf_mkMap {t : TypeId} (hg : gd g env = some true) (hd : okD d n = true)
    (h : ∀ (b : Nat) (H1 : Heap), b = H.size → H1.size = H.size + 1 → H1[b]? = some (.map ([] : List MapEntry).toArray 0) → (∀ j, j < H.size → H1[j]? = H[j]?) → CC k C H1 ∧ WF P C r Q n (putE d (.map (some b)) env) H1) :
    WF P C ((⟨d, .makeMap t none, ty, g⟩, k + 2) :: r) Q n env H := by
  obtain ⟨h1, h2⟩ := h H.size (nw H (.map #[] 0)) rfl nw_size (nw_new rfl) (fun j hj => nw_lt hj)
  exact wf_do hg hd DO.mkMap h1 h2
theorem wf_mkSlice1 {t e k' bytes : Nat} {z : Value} {x : Operand} {v : Value} {cs : List Value} (hE : ElTy P t e k' z bytes) (hx : opnd env x = some v) (hc : v.cells = cs.toArray) (hl : cs.length = k') (hk : Nat.ble k' 16777216 = true) (hg : gd g env = some true) (hd : okD d n = true)
    (h : ∀ (b : Nat) (H1 : Heap), b = H.size → H1.size = H.size + 1 → H1[b]? = some (.cells cs.toArray e (0, 0)) → (∀ j, j < H.size → H1[j]? = H[j]?) → CC k C H1 ∧ WF P C r Q n (putE d (.slice (some ⟨b, 0, none⟩) 1 1) env) H1) :
    WF P C ((⟨d, .buildSlice t 1 #[(0, x)], ty, g⟩, k + 2) :: r) Q n env H := by
  obtain ⟨h1, h2⟩ := h H.size (nw H (.cells cs.toArray e)) rfl nw_size (nw_new rfl) (fun j hj => nw_lt hj)
  exact wf_do hg hd (DO.mkSlice1 hE hx hc hl (Nat.le_of_ble_eq_true hk)) h1 h2

theorem wf_mkSlice0 {t e k' bytes : Nat} {z : Value} (hE : ElTy P t e k' z bytes) (hg : gd g env = some true) (hd : okD d n = true)
    (h : ∀ (b : Nat) (H1 : Heap), b = H.size → H1.size = H.size + 1 → H1[b]? = some (.cells ([] : List Value).toArray e (0, 0)) → (∀ j, j < H.size → H1[j]? = H[j]?) → CC k C H1 ∧ WF P C r Q n (putE d (.slice (some ⟨b, 0, none⟩) 0 0) env) H1) :
    WF P C ((⟨d, .buildSlice t 0 #[], ty, g⟩, k + 2) :: r) Q n env H := by
  obtain ⟨h1, h2⟩ := h H.size (nw H (.cells ([] : List Value).toArray e)) rfl nw_size (nw_new rfl) (fun j hj => nw_lt hj)
  exact wf_do hg hd (DO.mkSlice0 hE) h1 h2
theorem wf_store1 {t : TypeId} {x y : Operand} {b off : Nat} {cs : List Value} {T : TypeId} {v : Value} (hx : opnd env x = some (.pointer (some ⟨b, off, none⟩))) (hy : opnd env y = some v) (hz : ∀ w, (sizeOf t).run P w = .ok 1 w) (hg : gd g env = some true)
    (hb : H[b]? = some (.cells cs.toArray T (0, 0))) (hv : v.oneCell' = true) (hl : off < cs.length)
    (h : ∀ H1 : Heap, H1.size = H.size → H1[b]? = some (.cells (cs.set off v).toArray T (0, 0)) → (∀ j, j ≠ b → H1[j]? = H[j]?) → CC k C H1 ∧ WF P C r Q n env H1) :
    WF P C ((⟨none, .store t x y, ty, g⟩, k + 2) :: r) Q n env H := by
  obtain ⟨h1, h2⟩ := h (wr H b (.cells (cs.set off v).toArray T (0, 0))) wr_size (wr_same (lt_of hb)) (fun j hj => wr_ne hj)
  exact wf_do hg rfl (DO.store1 hx hy hz hb hv hl) h1 h2
theorem wf_storeK {t : TypeId} {x y : Operand} {b off : Nat} {cs vs : List Value} {T : TypeId} (hx : opnd env x = some (.pointer (some ⟨b, off, none⟩))) (hy : opnd env y = some (.agg vs.toArray)) (hz : ∀ w, (sizeOf t).run P w = .ok vs.length w) (hg : gd g env = some true)
    (hb : H[b]? = some (.cells cs.toArray T (0, 0))) (hv : ∀ v ∈ vs, v.oneCell' = true) (hl : off + vs.length ≤ cs.length)
    (h : ∀ H1 : Heap, H1.size = H.size → H1[b]? = some (.cells (cs.take off ++ vs ++ cs.drop (off + vs.length)).toArray T (0, 0)) → (∀ j, j ≠ b → H1[j]? = H[j]?) → CC k C H1 ∧ WF P C r Q n env H1) :
    WF P C ((⟨none, .store t x y, ty, g⟩, k + 2) :: r) Q n env H := by
  obtain ⟨h1, h2⟩ := h (wr H b (.cells (cs.take off ++ vs ++ cs.drop (off + vs.length)).toArray T (0, 0))) wr_size (wr_same (lt_of hb)) (fun j hj => wr_ne hj)
  exact wf_do hg rfl (DO.storeK hx hy hz hb hv hl) h1 h2
theorem wf_storeA {t : TypeId} {x y : Operand} {b : Nat} {cs vs : List Value} {T : TypeId} (hx : opnd env x = some (.pointer (some ⟨b, 0, none⟩))) (hy : opnd env y = some (.agg vs.toArray)) (hz : ∀ w, (sizeOf t).run P w = .ok vs.length w) (hg : gd g env = some true)
    (hb : H[b]? = some (.cells cs.toArray T (0, 0))) (hv : ∀ v ∈ vs, v.oneCell' = true) (hl : vs.length = cs.length)
    (h : ∀ H1 : Heap, H1.size = H.size → H1[b]? = some (.cells vs.toArray T (0, 0)) → (∀ j, j ≠ b → H1[j]? = H[j]?) → CC k C H1 ∧ WF P C r Q n env H1) :
    WF P C ((⟨none, .store t x y, ty, g⟩, k + 2) :: r) Q n env H := by
  obtain ⟨h1, h2⟩ := h (wr H b (.cells vs.toArray T (0, 0))) wr_size (wr_same (lt_of hb)) (fun j hj => wr_ne hj)
  exact wf_do hg rfl (DO.storeA hx hy hz hb hv hl) h1 h2
theorem wf_mapPut {t K E : TypeId} {kd : TypeDesc} {x y z : Operand} {m c : Nat} {es : List MapEntry} {ky v : Value} (hx : opnd env x = some (.map (some m))) (hy : opnd env y = some ky) (hv : opnd env z = some v) (hg : gd g env = some true) (hu : P.underlying t = some (.map K E))
    (hK : KeyTy P K kd) (hb : H[m]? = some (.map es.toArray c)) (hk : KeysOk kd ky es) (hs : ∀ e ∈ es, same ky e.key = true → keyEq e.key ky = true)
    (h : ∀ H1 : Heap, H1.size = H.size → H1[m]? = some (.map (mput ky v c es).1.toArray (mput ky v c es).2) → (∀ j, j ≠ m → H1[j]? = H[j]?) → CC k C H1 ∧ WF P C r Q n env H1) :
    WF P C ((⟨none, .mapUpdate t x y z, ty, g⟩, k + 2) :: r) Q n env H := by
  obtain ⟨h1, h2⟩ := h (wr H m (.map (mput ky v c es).1.toArray (mput ky v c es).2)) wr_size (wr_same (lt_of hb)) (fun j hj => wr_ne hj)
  exact wf_do hg rfl (DO.mapPut hx hy hv hu hK hb hk hs) h1 h2
theorem wf_mapDel {t K E u : TypeId} {kd : TypeDesc} {x y : Operand} {m c : Nat} {es : List MapEntry} {ky : Value} (hx : opnd env x = some (.map (some m))) (hy : opnd env y = some ky) (hg : gd g env = some true) (hd : okD d n = true) (hu : P.underlying t = some (.map K E))
    (hK : KeyTy P K kd) (hb : H[m]? = some (.map es.toArray c)) (hk : KeysOk kd ky es)
    (h : ∀ H1 : Heap, H1.size = H.size → H1[m]? = some (.map (mdel ky es).toArray c) → (∀ j, j ≠ m → H1[j]? = H[j]?) → CC k C H1 ∧ WF P C r Q n (putE d (.tuple #[]) env) H1) :
    WF P C ((⟨d, .call ⟨.builtin .delete, #[x, y], #[t, u]⟩, ty, g⟩, k + 2) :: r) Q n env H := by
  obtain ⟨h1, h2⟩ := h (wr H m (.map (mdel ky es).toArray c)) wr_size (wr_same (lt_of hb)) (fun j hj => wr_ne hj)
  exact wf_do hg hd (DO.mapDel hx hy hu hK hb hk) h1 h2

/-! ### ways that meet again -/
def cutp {ι : Type} (E : ι → Env) (I : ι → Heap → Prop) (n : Nat) (Q : Exit → Act → Heap → Prop) : Exit → Act → Heap → Prop
  | .normal, a, H => ∃ j, Sat n (E j) a ∧ I j H
  | e, a, H => Q e a H
theorem wc_cut {ι : Type} {x y : Code} (E : ι → Env) (I : ι → Heap → Prop) (h1 : WC P x (cutp E I n Q) n env H) (h2 : ∀ j H', I j H' → WC P y Q n (E j) H') : WC P (.seq x y) Q n env H := by
  intro a w0 w ha hs hw
  refine wp_seq (wp_mono (h1 a w0 w ha hs hw) ?_)
  rintro e a' w' ⟨h3, h4⟩
  cases e with
  | normal => obtain ⟨j, h5, h6⟩ := h4; exact h2 j _ h6 a' w0 w' h5 h3 rfl
  | _ => exact ⟨h3, h4⟩
theorem at_cut {ι : Type} {E : ι → Env} {I : ι → Heap → Prop} (j : ι) (hs : sub env (E j)) (hI : I j H) : At (cutp E I n Q) .normal n env H := fun _ ha => ⟨j, ha.sub hs, hI⟩
theorem at_cut_ret {ι : Type} {E : ι → Env} {I : ι → Heap → Prop} (h : At Q .ret n env H) : At (cutp E I n Q) .ret n env H := h
theorem at_cut_exit {ι : Type} {E : ι → Env} {I : ι → Heap → Prop} {k : Nat} (h : At Q (.exit k) n env H) : At (cutp E I n Q) (.exit k) n env H := h
theorem at_cut_panic {ι : Type} {E : ι → Env} {I : ι → Heap → Prop} {c : List PanicEntry} (h : At Q (.panic c) n env H) : At (cutp E I n Q) (.panic c) n env H := h
end
end Go.S
