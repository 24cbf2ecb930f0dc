/-
  Data with depth, told of the heap's blocks: slices that read as lists, rows that are collected.
-/
import Derived.Test.YtfomnjippakjpaaSteps
namespace Go.S

/-- What has been there stands. -/
structure Ext (H H' : Heap) : Prop where
  size : H.size ≤ H'.size
  old : ∀ j, j < H.size → H'[j]? = H[j]?
theorem Ext.refl (H : Heap) : Ext H H := ⟨Nat.le_refl _, fun _ _ => rfl⟩
theorem Ext.trans {a b c : Heap} (h : Ext a b) (k : Ext b c) : Ext a c := ⟨Nat.le_trans h.size k.size, fun j hj => (k.old j (Nat.lt_of_lt_of_le hj h.size)).trans (h.old j hj)⟩
theorem Ext.keep {H H' : Heap} (h : Ext H H') {b : Nat} {o : Obj} (hb : H[b]? = some o) : H'[b]? = some o := (h.old b (lt_of hb)).trans hb
theorem Ext.new {H H1 : Heap} (hs : H1.size = H.size + 1) (hk : ∀ j, j < H.size → H1[j]? = H[j]?) : Ext H H1 := ⟨by omega, hk⟩
/-- A write into a block that is younger. -/
theorem Ext.wrote {H0 H H1 : Heap} (h : Ext H0 H) {b : Nat} (hs : H1.size = H.size) (hk : ∀ j, j ≠ b → H1[j]? = H[j]?) (hb : H0.size ≤ b) : Ext H0 H1 :=
  ⟨by have := h.size; omega, fun j hj => (hk j (by omega)).trans (h.old j hj)⟩
theorem Ext.grew {H0 H H1 : Heap} (h : Ext H0 H) {v : Value} (hg : Grw H H1 v.ownBlock) (hb : ∀ g, v.ownBlock = some g → H0.size ≤ g) : Ext H0 H1 :=
  ⟨Nat.le_trans h.size hg.1, fun j hj => (hg.2 j (Nat.lt_of_lt_of_le hj h.size) (fun e => by have := hb j e.symm; omega)).trans (h.old j hj)⟩

/-- The most elements of a list that comes in. -/
def lim : Nat := 1048576

def RSl {α : Type} (H : Heap) (Z : Nat → Prop) (k : Nat) (R : List Value → α → Prop) (v : Value) (ds : List α) : Prop :=
  ((v = .slice none 0 0 ∨ ∃ a c, v = .slice (some a) 0 c) ∧ ds = []) ∨
  ∃ b off c cs T fz, v = .slice (some ⟨b, off, none⟩) ds.length c ∧ Z b ∧ H[b]? = some (.cells (cs : List Value).toArray T fz) ∧ off + ds.length * k ≤ cs.length ∧
    ∀ j d, ds[j]? = some d → R ((cs.drop (off + j * k)).take k) d

theorem RSl.mono {α : Type} {H H' : Heap} {Z Z' : Nat → Prop} {k : Nat} {R R' : List Value → α → Prop} {v : Value} {ds : List α} (h : RSl H Z k R v ds) (hH : ∀ b, Z b → H'[b]? = H[b]?) (hZ : ∀ b, Z b → Z' b)
    (hR : ∀ cs d, d ∈ ds → R cs d → R' cs d) : RSl H' Z' k R' v ds := by
  rcases h with h | ⟨b, off, c, cs, T, fz, h1, h2, h3, h4, h5⟩
  · exact .inl h
  · exact .inr ⟨b, off, c, cs, T, fz, h1, hZ b h2, (hH b h2).trans h3, h4, fun j d hj => hR _ d (List.mem_of_getElem? hj) (h5 j d hj)⟩
theorem RSl.len {α : Type} {H : Heap} {Z : Nat → Prop} {k : Nat} {R : List Value → α → Prop} {v : Value} {ds : List α} (h : RSl H Z k R v ds) : ∃ p c, v = .slice p ds.length c := by
  rcases h with ⟨rfl | ⟨a, c, rfl⟩, rfl⟩ | ⟨b, off, c, cs, T, fz, h1, _⟩
  · exact ⟨_, _, rfl⟩
  · exact ⟨_, _, rfl⟩
  · exact ⟨_, _, h1⟩
theorem RSl.one {α : Type} {H : Heap} {Z : Nat → Prop} {k : Nat} {R : List Value → α → Prop} {v : Value} {ds : List α} (h : RSl H Z k R v ds) : v.oneCell' = true := by
  obtain ⟨p, c, rfl⟩ := h.len; rfl
/-- An element: the slice's place, the block, the element's cells. -/
theorem RSl.at {α : Type} {H : Heap} {Z : Nat → Prop} {k : Nat} {R : List Value → α → Prop} {v : Value} {ds : List α} (h : RSl H Z k R v ds) {j : Nat} {d : α} (hj : ds[j]? = some d) :
    ∃ b off c cs T fz, v = .slice (some ⟨b, off, none⟩) ds.length c ∧ Z b ∧ H[b]? = some (.cells (cs : List Value).toArray T fz) ∧ off + j * k + k ≤ cs.length ∧ R ((cs.drop (off + j * k)).take k) d := by
  have hlt : j < ds.length := by
    rcases Nat.lt_or_ge j ds.length with h | h
    · exact h
    · rw [List.getElem?_eq_none h] at hj; cases hj
  rcases h with ⟨_, rfl⟩ | ⟨b, off, c, cs, T, fz, h1, h2, h3, h4, h5⟩
  · simp at hlt
  · refine ⟨b, off, c, cs, T, fz, h1, h2, h3, ?_, h5 j d hj⟩
    have : (j + 1) * k ≤ ds.length * k := Nat.mul_le_mul_right _ hlt
    rw [Nat.add_mul] at this
    omega

/-! ### a row that is collected -/
theorem flat_take {k : Nat} : ∀ (es : List (List Value)) (i : Nat) (x : List Value), (∀ y ∈ es, y.length = k) → es[i]? = some x → (es.flatten.drop (i * k)).take k = x := by
  intro es
  induction es with
  | nil => intro i x _ h; simp at h
  | cons y es ih =>
    intro i x hk h
    have hy := hk y (List.mem_cons_self ..)
    cases i with
    | zero =>
      simp at h
      subst h
      simp [← hy]
    | succ i =>
      have h' : es[i]? = some x := by simpa using h
      rw [← ih i x (fun z hz => hk z (List.mem_cons_of_mem _ hz)) h']
      simp only [List.flatten_cons]
      rw [show (i + 1) * k = y.length + i * k by rw [hy, Nat.add_mul]; omega, List.drop_append, List.drop_eq_nil_of_le (by omega : y.length ≤ y.length + i * k)]
      simp
theorem flat_len {k : Nat} : ∀ (es : List (List Value)), (∀ y ∈ es, y.length = k) → es.flatten.length = es.length * k := by
  intro es
  induction es with
  | nil => intro _; simp
  | cons y es ih =>
    intro hk
    rw [List.flatten_cons, List.length_append, ih (fun z hz => hk z (List.mem_cons_of_mem _ hz)), hk y (List.mem_cons_self ..), List.length_cons, Nat.add_mul]
    omega

def Rel (α : Type) : Type := Heap → (Nat → Prop) → List Value → α → Prop
def RMono {α : Type} (R : Rel α) : Prop := ∀ (H : Heap) (Z : Nat → Prop) (H' : Heap) (Z' : Nat → Prop) x d, (∀ b, Z b → H'[b]? = H[b]?) → (∀ b, Z b → Z' b) → R H Z x d → R H' Z' x d

def zone (H0 H : Heap) (v : Value) (b : Nat) : Prop := H0.size ≤ b ∧ b < H.size ∧ some b ≠ v.ownBlock
def fresh (H0 H : Heap) (b : Nat) : Prop := H0.size ≤ b ∧ b < H.size

structure Accum {α : Type} (H0 H : Heap) (e k : Nat) (R : Rel α) (v : Value) (ds : List α) (es : List (List Value)) : Prop where
  num : es.length = ds.length
  own : Own H e k v ds.length es.flatten
  len : ∀ x ∈ es, x.length = k
  rel : ∀ (i : Nat) (x : List Value) (d : α), es[i]? = some x → ds[i]? = some d → R H (zone H0 H v) x d
  young : ∀ g, v.ownBlock = some g → H0.size ≤ g

theorem Own.blk {H : Heap} {e k m : Nat} {v : Value} {xs : List Value} (h : Own H e k v m xs) {g : Nat} (hg : v.ownBlock = some g) :
    ∃ c cs, v = .slice (some ⟨g, 0, none⟩) m c ∧ H[g]? = some (.cells (cs : List Value).toArray e (0, 0)) ∧ cs.take (m * k) = xs ∧ m * k ≤ cs.length := by
  rcases h.2 with ⟨rfl, _⟩ | ⟨g', cap, cur, rfl, _, h3, h4, _, h6, h7⟩
  · simp [Value.ownBlock] at hg
  · simp only [Value.ownBlock, Option.some.injEq] at hg
    subst hg
    exact ⟨cap, cur.toList, rfl, by simpa using h3, h7, by simp [h6]; exact Nat.mul_le_mul_right _ h4⟩
theorem Own.keep {H H' : Heap} {e k m : Nat} {v : Value} {xs : List Value} (h : Own H e k v m xs) (hk : ∀ g, v.ownBlock = some g → H'[g]? = H[g]?) : Own H' e k v m xs := by
  refine ⟨h.1, ?_⟩
  rcases h.2 with h2 | ⟨g', cap, cur, rfl, h0, h3, h4⟩
  · exact .inl h2
  · exact .inr ⟨g', cap, cur, rfl, h0, (hk g' rfl).trans h3, h4⟩
theorem Own.lt {H : Heap} {e k m : Nat} {v : Value} {xs : List Value} (h : Own H e k v m xs) {g : Nat} (hg : v.ownBlock = some g) : g < H.size := by
  obtain ⟨_, _, _, h2, _⟩ := h.blk hg
  exact lt_of h2
theorem Own.nil (H : Heap) (e k : Nat) : Own H e k (.slice none 0 0) 0 [] := ⟨by simp, .inl ⟨rfl, rfl⟩⟩
theorem Own.one {H : Heap} {e k m : Nat} {v : Value} {xs : List Value} (h : Own H e k v m xs) : v.oneCell' = true := by
  rcases h.2 with ⟨rfl, _⟩ | ⟨g', cap, cur, rfl, _⟩ <;> rfl
theorem Own.val {H : Heap} {e k m : Nat} {v : Value} {xs : List Value} (h : Own H e k v m xs) : ∃ p c, v = .slice p m c := by
  rcases h.2 with ⟨rfl, rfl⟩ | ⟨g', cap, cur, rfl, _⟩ <;> exact ⟨_, _, rfl⟩

theorem Own.empty {H : Heap} {e k b : Nat} (hb : H[b]? = some (.cells ([] : List Value).toArray e (0, 0))) : Own H e k (.slice (some ⟨b, 0, none⟩) 0 0) 0 [] :=
  ⟨by simp, .inr ⟨b, 0, #[], rfl, Nat.zero_le _, by simpa using hb, Nat.le_refl _, Nat.zero_le _, by simp, by simp⟩⟩
section
variable {α : Type} {H0 H : Heap} {e k : Nat} {R : Rel α} {v : Value} {ds : List α} {es : List (List Value)}
theorem Accum.nil (H : Heap) (e k : Nat) (R : Rel α) : Accum H H e k R (.slice none 0 0) [] [] := ⟨rfl, Own.nil H e k, by simp, by simp, by simp [Value.ownBlock]⟩
theorem Accum.ext (hR : RMono R) (h : Accum H0 H e k R v ds es) {H1 : Heap} (hx : Ext H H1) : Accum H0 H1 e k R v ds es :=
  ⟨h.num, h.own.keep (fun g hg => hx.old g (h.own.lt hg)), h.len, fun i x d hi hd => hR _ _ _ _ _ _ (fun b hb => hx.old b hb.2.1) (fun b hb => ⟨hb.1, Nat.lt_of_lt_of_le hb.2.1 hx.size, hb.2.2⟩) (h.rel i x d hi hd), h.young⟩
theorem Accum.base {H00 : Heap} (hR : RMono R) (h : Accum H0 H e k R v ds es) (hx : H00.size ≤ H0.size) : Accum H00 H e k R v ds es :=
  ⟨h.num, h.own, h.len, fun i x d hi hd => hR _ _ _ _ _ _ (fun _ _ => rfl) (fun b hb => ⟨Nat.le_trans hx hb.1, hb.2⟩) (h.rel i x d hi hd), fun g hg => Nat.le_trans hx (h.young g hg)⟩
theorem Accum.push (hR : RMono R) (h : Accum H0 H e k R v ds es) {H' : Heap} {v' : Value} {x : List Value} {d : α} (hl : x.length = k) (hx : R H (zone H0 H v) x d) (h00 : H0.size ≤ H.size)
    (ho : Own H' e k v' (ds.length + 1) (es.flatten ++ x)) (hg : Grw H H' v.ownBlock) (hw : v'.ownBlock = v.ownBlock ∨ v'.ownBlock = some H.size) : Accum H0 H' e k R v' (ds ++ [d]) (es ++ [x]) := by
  have hz : ∀ b, zone H0 H v b → H'[b]? = H[b]? := fun b hb => hg.2 b hb.2.1 hb.2.2
  have hz' : ∀ b, zone H0 H v b → zone H0 H' v' b := fun b hb => ⟨hb.1, Nat.lt_of_lt_of_le hb.2.1 hg.1, by
    rcases hw with hw | hw
    · rw [hw]; exact hb.2.2
    · rw [hw]; intro e; have := Option.some.inj e; have := hb.2.1; omega⟩
  refine ⟨by simp [h.num], by simpa using ho, ?_, ?_, ?_⟩
  · intro y hy
    simp only [List.mem_append, List.mem_singleton] at hy
    rcases hy with hy | rfl
    · exact h.len y hy
    · exact hl
  · intro i y c hi hc
    have hn := h.num
    by_cases hlt : i < es.length
    · rw [List.getElem?_append_left hlt] at hi
      rw [List.getElem?_append_left (by omega)] at hc
      exact hR _ _ _ _ _ _ hz hz' (h.rel i y c hi hc)
    · have : i = es.length := by
        have : i < (es ++ [x]).length := (List.getElem?_eq_some_iff.1 hi).1
        simp at this; omega
      subst this
      simp at hi
      rw [hn] at hc
      simp at hc
      subst hi; subst hc
      exact hR _ _ _ _ _ _ hz hz' hx
  · intro g hg'
    rcases hw with hw | hw
    · exact h.young g (hw ▸ hg')
    · rw [hw] at hg'; have := Option.some.inj hg'; omega
theorem Accum.done (hR : RMono R) (h : Accum H0 H e k R v ds es) : RSl H (fresh H0 H) k (R H (fresh H0 H)) v ds := by
  rcases h.own.2 with ⟨hv, h0⟩ | ⟨g, cap, cur, hv, _, h3, h4, h5, h6, h7⟩
  · exact .inl ⟨.inl hv, List.eq_nil_of_length_eq_zero h0⟩
  · have hg : v.ownBlock = some g := by rw [hv]; rfl
    refine .inr ⟨g, 0, cap, cur.toList, e, (0, 0), hv, ⟨h.young g hg, h.own.lt hg⟩, by simpa using h3, by simp [h6]; exact Nat.mul_le_mul_right _ h4, fun j d hj => ?_⟩
    have hlt : j < ds.length := (List.getElem?_eq_some_iff.1 hj).1
    have hle : j < es.length := by rw [h.num]; exact hlt
    have hrel := h.rel j es[j] d (List.getElem?_eq_getElem hle) hj
    have e1 : (cur.toList.drop (0 + j * k)).take k = es[j] := by
      have := flat_take es j es[j] h.len (List.getElem?_eq_getElem hle)
      rw [← h7] at this
      rw [← this, Nat.zero_add, List.drop_take, List.take_take]
      congr 1
      have : (j + 1) * k ≤ ds.length * k := Nat.mul_le_mul_right _ hlt
      rw [Nat.add_mul] at this
      omega
    rw [e1]
    exact hR _ _ _ _ _ _ (fun _ _ => rfl) (fun b hb => ⟨hb.1, hb.2.1⟩) hrel
end

theorem five {α : Type} {l : List α} (h : l.length = 5) : ∃ a b c d e, l = [a, b, c, d, e] := by
  match l, h with
  | [a, b, c, d, e], _ => exact ⟨a, b, c, d, e, rfl⟩
theorem zone_new {H0 H1 H2 : Heap} {v : Value} {b : Nat} (h : H0.size ≤ H1.size) (hv : ∀ g, v.ownBlock = some g → g < H1.size) (hb : fresh H1 H2 b) : zone H0 H2 v b :=
  ⟨Nat.le_trans h hb.1, hb.2, fun e => by have := hv b e.symm; have := hb.1; omega⟩
theorem fresh_sub {H0 H1 H2 H3 : Heap} {b : Nat} (h : H0.size ≤ H1.size) (h' : H2.size ≤ H3.size) (hb : fresh H1 H2 b) : fresh H0 H3 b := ⟨Nat.le_trans h hb.1, Nat.lt_of_lt_of_le hb.2 h'⟩

/-! ### trees: values in values -/
inductive T where
  | node (is : List Int) (ss : List ByteArray) (ks : List T)

def RFd (R : List Value → T → Prop) (cs : List Value) (d : T) : Prop := ∃ nm vs dv, cs = .string nm :: vs ∧ d = .node [] [nm] [dv] ∧ R vs dv
def RV (H : Heap) (Z : Nat → Prop) : Nat → List Value → T → Prop
  | 0, _, _ => False
  | f + 1, cs, d => ∃ k m s l t ls fs, cs = [.int .i64 k, .int .i64 m, .string s, l, t] ∧ d = .node [k, m] [s] [.node [] [] ls, .node [] [] fs] ∧
      ls.length ≤ lim ∧ fs.length ≤ lim ∧ RSl H Z 5 (RV H Z f) l ls ∧ RSl H Z 6 (RFd (RV H Z f)) t fs
theorem RFd.mono {R R' : List Value → T → Prop} (h : ∀ x d, R x d → R' x d) {x : List Value} {d : T} (hr : RFd R x d) : RFd R' x d := by
  obtain ⟨nm, vs, dv, h1, h2, h3⟩ := hr; exact ⟨nm, vs, dv, h1, h2, h _ _ h3⟩
theorem RV.mono (f : Nat) : RMono (fun H Z => RV H Z f) := by
  induction f with
  | zero => intro H Z H' Z' x d _ _ h; exact h
  | succ f ih =>
    intro H Z H' Z' x d hH hZ h
    obtain ⟨k, m, s, l, t, ls, fs, h1, h2, h3, h4, h5, h6⟩ := h
    exact ⟨k, m, s, l, t, ls, fs, h1, h2, h3, h4, h5.mono hH hZ (fun cs d _ h => ih _ _ _ _ _ _ hH hZ h), h6.mono hH hZ (fun cs d _ h => h.mono (fun x d h => ih _ _ _ _ _ _ hH hZ h))⟩
theorem RFv.mono (f : Nat) : RMono (fun H Z => RFd (RV H Z f)) := fun _ _ _ _ _ _ hH hZ h => h.mono (fun _ _ h => RV.mono f _ _ _ _ _ _ hH hZ h)
theorem RV.len {H : Heap} {Z : Nat → Prop} {f : Nat} {x : List Value} {d : T} (h : RV H Z f x d) : x.length = 5 := by
  cases f with
  | zero => exact h.elim
  | succ f => obtain ⟨k, m, s, l, t, ls, fs, rfl, _⟩ := h; rfl
theorem RV.one {H : Heap} {Z : Nat → Prop} {f : Nat} {x : List Value} {d : T} (h : RV H Z f x d) : ∀ u ∈ x, u.oneCell' = true := by
  cases f with
  | zero => exact h.elim
  | succ f =>
    obtain ⟨k, m, s, l, t, ls, fs, rfl, _, _, _, h5, h6⟩ := h
    intro u hu
    simp only [List.mem_cons, List.not_mem_nil, or_false] at hu
    rcases hu with rfl | rfl | rfl | rfl | rfl <;> first | rfl | exact h5.one | exact h6.one
/-- A table: a slice of fields. -/
def RT (f : Nat) (H : Heap) (Z : Nat → Prop) (v : Value) (fs : List T) : Prop := RSl H Z 6 (RFd (RV H Z f)) v fs
theorem RT.mono {f : Nat} {H : Heap} {Z : Nat → Prop} {v : Value} {fs : List T} (h : RT f H Z v fs) {H' : Heap} {Z' : Nat → Prop} (hH : ∀ b, Z b → H'[b]? = H[b]?) (hZ : ∀ b, Z b → Z' b) : RT f H' Z' v fs :=
  RSl.mono h hH hZ (fun _ _ _ h => RFv.mono f _ _ _ _ _ _ hH hZ h)
end Go.S
