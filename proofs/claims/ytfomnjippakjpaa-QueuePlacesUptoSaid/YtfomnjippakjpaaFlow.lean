/-
  A region that draws its order, walked ONCE, in one order of our choice: reads that are forced ahead of the next effect, reads that may come late, effects one behind the other.
-/
import Derived.Still
import Derived.StillTail
namespace Go.Flow

section
variable {P : Program} {ops : Array Oper}

def dstOf (ops : Array Oper) (i : Nat) : Option Tmp := (ops[i]?).bind (·.dst)

def inside (Q : Exit → Act → World → Prop) : Exit → Act → World → Prop
  | .panic c, a, w => ∀ a', a'.defers = a.defers → Q (.panic c) a' w
  | .outgrown, a, w => Q .outgrown a w
  | _, _, _ => False

def isv (v : Value) (w : World) : Result Next → Prop
  | .ok (.value u) w' => w' = w ∧ u = v
  | .ok .skip w' => w' = w ∧ v = undef
  | _ => False

def sure (P : Program) (ops : Array Oper) (C : World → Prop) (o : Oper) (v : Value) (a : Act) : Prop :=
  if Region.wanted o (yielded ops a.tmps) then ∀ W, C W → isv v W ((execOp a.eval o).run P W) else v = undef

theorem sure_yields {P : Program} {ops : Array Oper} {C : World → Prop} {o : Oper} {v : Value} {a : Act} (h : sure P ops C o v a) {W : World} (hW : C W) : YieldsAt P ops W o v a := by
  unfold sure at h
  by_cases hw : Region.wanted o (yielded ops a.tmps) = true
  · simp only [hw, if_true] at h
    have := h W hW
    generalize hr : (execOp a.eval o).run P W = r at this
    cases r with
    | ok n w' =>
      cases n <;> simp only [isv] at this
      case value u => obtain ⟨rfl, rfl⟩ := this; exact .inl ⟨hw, .inl hr⟩
      case skip => obtain ⟨rfl, rfl⟩ := this; exact .inl ⟨hw, .inr (.inl ⟨hr, rfl⟩)⟩
    | halt x w' => simp only [isv] at this
  · simp only [hw] at h
    exact .inr ⟨by simpa using hw, h⟩

/-- An effect of kind 2 keeps what late reads lean on; one of kind 3 comes when none is open any more. -/
def CC {W : Type} : Nat → (W → Prop) → W → Prop
  | 0, C => C
  | _ + 1, _ => fun _ => True
def flow (P : Program) (ops : Array Oper) (C : World → Prop) (Q : Exit → Act → World → Prop) : List (Nat × Nat) → Act → World → Prop
  | [], a, w => Q .normal a w
  | (i, 0) :: r, a, w => stOp P ops w i (fun a' => flow P ops C Q r a' w) a
  | (i, 1) :: r, a, w => ∃ v, (∀ o, ops[i]? = some o → sure P ops C o v a) ∧ flow P ops C Q r (a.put (dstOf ops i) v) w
  | (i, k + 2) :: r, a, w => wpOp P ops (inside Q) i (fun a' w' => CC k C w' ∧ a'.defers = a.defers ∧ flow P ops C Q r a' w') a w

/-! ### frames that agree -/
def agree (L : List Tmp) (a a' : Act) : Prop := ∀ t ∈ L, a.tmps[t]? = a'.tmps[t]?

theorem agree_exec {o : Oper} (hs : ∀ cs b, o.op ≠ .select cs b) {a a' : Act} (h : agree (o.looksAt ops) a a') : execOp a.eval o = execOp a'.eval o := by
  refine execOp_congr o hs fun x hx => ?_
  cases x with
  | tmp t =>
    have := h t (List.mem_append_left _ (List.mem_filterMap.2 ⟨.tmp t, by simpa using hx, rfl⟩))
    simp [Act.eval, this]
  | _ => rfl

theorem agree_wanted {o : Oper} {a a' : Act} (h : agree (o.looksAt ops) a a') :
    Region.wanted o (yielded ops a.tmps) = Region.wanted o (yielded ops a'.tmps) := by
  unfold Region.wanted
  cases hg : o.guard with
  | none => rfl
  | some gw =>
    obtain ⟨g, want⟩ := gw
    have hy : yielded ops a.tmps g = yielded ops a'.tmps g := by
      unfold yielded
      cases ht : (ops[g]?).bind (·.dst) with
      | none => rfl
      | some t =>
        have := h t (by simp [Oper.looksAt, hg, ht])
        simp [this]
    simp only [hy]

abbrev Entry := (Nat × Nat) × Value
def replay (ops : Array Oper) : List Entry → Act → Act
  | [], a => a
  | x :: l, a => replay ops l (a.put (dstOf ops x.1.1) x.2)

theorem put_size (a : Act) (d : Option Tmp) (v : Value) : (a.put d v).tmps.size = a.tmps.size := by cases d <;> simp [Act.put]
theorem put_def (a : Act) (d : Option Tmp) (v : Value) : (a.put d v).defers = a.defers := by cases d <;> rfl
theorem replay_size (l : List Entry) : ∀ a, (replay ops l a).tmps.size = a.tmps.size := by
  induction l with
  | nil => intro a; rfl
  | cons x l ih => intro a; simp [replay, ih, put_size]
theorem replay_def (l : List Entry) : ∀ a, (replay ops l a).defers = a.defers := by
  induction l with
  | nil => intro a; rfl
  | cons x l ih => intro a; simp [replay, ih, put_def]
theorem replay_append (l m : List Entry) : ∀ a, replay ops (l ++ m) a = replay ops m (replay ops l a) := by
  induction l with
  | nil => intro a; rfl
  | cons x l ih => intro a; simp [replay, ih]

theorem put_same {a a' : Act} {t : Tmp} (d : Option Tmp) (v : Value) (h : a.tmps[t]? = a'.tmps[t]?) (hs : a.tmps.size = a'.tmps.size) :
    (a.put d v).tmps[t]? = (a'.put d v).tmps[t]? := by
  cases d with
  | none => exact h
  | some d =>
    by_cases e : d = t
    · subst e; simp [Act.put, Array.getElem?_setIfInBounds, hs]
    · simp [Act.put, Array.getElem?_setIfInBounds_ne e, h]
theorem put_other {a : Act} {t : Tmp} (d : Option Tmp) (v : Value) (h : d ≠ some t) : (a.put d v).tmps[t]? = a.tmps[t]? := by
  cases d with
  | none => rfl
  | some d => simp [Act.put, Array.getElem?_setIfInBounds_ne (fun e => h (by rw [e]) : d ≠ t)]

theorem replay_filter {t : Tmp} (f : Nat → Bool) : ∀ (l : List Entry) (a a' : Act), a.tmps[t]? = a'.tmps[t]? → a.tmps.size = a'.tmps.size →
    (∀ x ∈ l, f x.1.1 = false → dstOf ops x.1.1 ≠ some t) → (replay ops l a).tmps[t]? = (replay ops (l.filter (fun x => f x.1.1)) a').tmps[t]? := by
  intro l
  induction l with
  | nil => intro a a' h _ _; exact h
  | cons x l ih =>
    intro a a' h hs hd
    by_cases hf : f x.1.1 = true
    · simp only [List.filter_cons, hf, if_true, replay]
      exact ih _ _ (put_same _ _ h hs) (by simp [put_size, hs]) (fun y hy => hd y (List.mem_cons_of_mem _ hy))
    · have hf' : f x.1.1 = false := by simpa using hf
      simp only [List.filter_cons, hf', replay]
      refine ih _ _ ?_ (by simp [put_size, hs]) (fun y hy => hd y (List.mem_cons_of_mem _ hy))
      rw [put_other _ _ (hd x (List.mem_cons_self ..) hf')]; exact h

theorem replay_tail {t : Tmp} : ∀ (l : List Entry) (a : Act), (∀ x ∈ l, dstOf ops x.1.1 ≠ some t) → (replay ops l a).tmps[t]? = a.tmps[t]? := by
  intro l
  induction l with
  | nil => intro a _; rfl
  | cons x l ih =>
    intro a hd
    simp only [replay]
    rw [ih _ (fun y hy => hd y (List.mem_cons_of_mem _ hy)), put_other _ _ (hd x (List.mem_cons_self ..))]

theorem replay_late {i : Nat} {v : Value} : ∀ (l : List Entry) (a : Act), (∀ x ∈ l, ∀ d, dstOf ops i = some d → dstOf ops x.1.1 ≠ some d) →
    replay ops l (a.put (dstOf ops i) v) = (replay ops l a).put (dstOf ops i) v := by
  intro l
  induction l with
  | nil => intro a _; rfl
  | cons x l ih =>
    intro a hd
    simp only [replay]
    rw [Act.put_comm a v x.2 (fun d e => hd x (List.mem_cons_self ..) d e), ih _ (fun y hy => hd y (List.mem_cons_of_mem _ hy))]

/-! ### who waits for whom -/
def maskOf (acc : Array Nat) (o : Oper) : Nat := o.after.toList.foldl (fun s e => if Region.binds .any e then s ||| 2 ^ e.on ||| acc.getD e.on 0 else s) 0
def masks (l : List Oper) : Array Nat := l.foldl (fun acc o => acc.push (maskOf acc o)) #[]

def Closed (ops : Array Oper) (listed : Nat → Bool) : Prop := ∀ j o, ops[j]? = some o → listed j = true → ∀ e ∈ o.after, Region.binds .any e = true → listed e.on = true

theorem maskFold {acc : Array Nat} {listed : Nat → Bool} (hacc : ∀ k, listed k = true → ∀ i, (acc.getD k 0).testBit i = true → listed i = true) :
    ∀ (es : List Edge) (s : Nat), (∀ i, s.testBit i = true → listed i = true) → (∀ e ∈ es, Region.binds .any e = true → listed e.on = true) →
      ∀ i, (es.foldl (fun s e => if Region.binds .any e then s ||| 2 ^ e.on ||| acc.getD e.on 0 else s) s).testBit i = true → listed i = true := by
  intro es
  induction es with
  | nil => intro s hs _ i hi; exact hs i hi
  | cons e es ih =>
    intro s hs he i hi
    simp only [List.foldl_cons] at hi
    refine ih _ ?_ (fun e' h' => he e' (List.mem_cons_of_mem _ h')) i hi
    intro j hj
    by_cases hb : Region.binds .any e = true
    · have hl := he e (List.mem_cons_self ..) hb
      simp only [hb, if_true, Nat.testBit_or, Bool.or_eq_true] at hj
      rcases hj with (hj | hj) | hj
      · exact hs j hj
      · rw [Nat.testBit_two_pow] at hj
        simp at hj
        subst hj
        exact hl
      · exact hacc _ hl j hj
    · simp only [hb] at hj
      exact hs j hj

theorem masks_fold {listed : Nat → Bool} : ∀ (l : List Oper) (acc : Array Nat), (∀ k, listed k = true → ∀ i, (acc.getD k 0).testBit i = true → listed i = true) →
    (∀ j o, l[j]? = some o → listed (acc.size + j) = true → ∀ e ∈ o.after, Region.binds .any e = true → listed e.on = true) →
    ∀ k, listed k = true → ∀ i, ((l.foldl (fun acc o => acc.push (maskOf acc o)) acc).getD k 0).testBit i = true → listed i = true := by
  intro l
  induction l with
  | nil => intro acc hacc _; exact hacc
  | cons o l ih =>
    intro acc hacc hl
    simp only [List.foldl_cons]
    refine ih _ ?_ ?_
    · intro k hk i hi
      by_cases e : k = acc.size
      · subst e
        simp at hi
        exact maskFold hacc _ 0 (by simp) (fun e he hb => hl 0 o (by simp) (by simpa using hk) e (by simpa using he) hb) i hi
      · refine hacc k hk i ?_
        rcases Nat.lt_or_ge k acc.size with h | h
        · simpa [Array.getElem?_push, Array.getD_eq_getD_getElem?, e, h] using hi
        · have : (acc.push (maskOf acc o)).getD k 0 = 0 := by simp [Array.getD_eq_getD_getElem?, Array.getElem?_push, e, Array.getElem?_eq_none h]
          rw [this] at hi
          simp at hi
    · intro j o' hj hk
      exact hl (j + 1) o' (by simpa using hj) (by simpa [Nat.add_assoc, Nat.add_comm 1 j] using hk)

def reach (M : Array Nat) (j i : Nat) : Bool := (M.getD j 0).testBit i

theorem reach_closed {listed : Nat → Bool} (hc : Closed ops listed) {i j : Nat} (h : reach (masks ops.toList) j i = true) (hj : listed j = true) : listed i = true := by
  unfold reach masks at h
  exact masks_fold ops.toList #[] (by simp) (fun j o ho hl => hc j o (by simpa using ho) (by simpa using hl)) j hj i h

/-! ### the look at an order -/
def rel (ops : Array Oper) (M : Array Nat) (i j : Nat × Nat) : Bool :=
  ((match ops[i.1]?, ops[j.1]? with | some a, some b => a.apart ops b | _, _ => false) || reach M j.1 i.1) && (i.2 < 2 || reach M j.1 i.1) && (j.2 < 2 || 0 < i.2 || reach M j.1 i.1) && (j.2 < 3 || reach M j.1 i.1) && (i.2 < 3 || j.2 != 1)
def relAll (ops : Array Oper) (M : Array Nat) : List (Nat × Nat) → Bool
  | [] => true
  | i :: r => r.all (rel ops M i) && relAll ops M r
def preds (ops : Array Oper) : List Nat → List (Nat × Nat) → Bool
  | _, [] => true
  | pre, i :: r => (match ops[i.1]? with | some o => o.after.all (fun e => !Region.binds .any e || pre.contains e.on) | none => false) && !pre.contains i.1 && preds ops (i.1 :: pre) r
def chk (ops : Array Oper) (s : List (Nat × Nat)) : Bool :=
  Region.noSelect ops && s.length == ops.size && relAll ops (masks ops.toList) s && preds ops [] s

structure Good (ops : Array Oper) (s : List (Nat × Nat)) : Prop where
  sel : ∀ (j : Nat) (o : Oper) cs b, ops[j]? = some o → o.op ≠ .select cs b
  rel : s.Pairwise (fun i j => rel ops (masks ops.toList) i j = true)
  nodup : (s.map (·.1)).Nodup
  all : ∀ i, i < ops.size ↔ i ∈ s.map (·.1)
  pre : ∀ (p : List (Nat × Nat)) i r, s = p ++ i :: r → ∃ o, ops[i.1]? = some o ∧ ∀ e ∈ o.after, Region.binds .any e = true → e.on ∈ p.map (·.1)

theorem relAll_spec {M : Array Nat} : ∀ (s : List (Nat × Nat)), relAll ops M s = true → s.Pairwise (fun i j => Flow.rel ops M i j = true)
  | [], _ => .nil
  | i :: r, h => by
    simp only [relAll, Bool.and_eq_true, List.all_eq_true] at h
    exact .cons h.1 (relAll_spec r h.2)

theorem preds_spec : ∀ (s : List (Nat × Nat)) (pre : List Nat), preds ops pre s = true →
    (s.map (·.1)).Nodup ∧ (∀ i ∈ s.map (·.1), i ∉ pre ∧ i < ops.size) ∧
    ∀ (p : List (Nat × Nat)) i r, s = p ++ i :: r → ∃ o, ops[i.1]? = some o ∧ ∀ e ∈ o.after, Region.binds .any e = true → (e.on ∈ p.map (·.1) ∨ e.on ∈ pre) := by
  intro s
  induction s with
  | nil => intro pre _; exact ⟨by simp, by simp, fun p i r h => by simp at h⟩
  | cons x s ih =>
    intro pre h
    simp only [preds, Bool.and_eq_true, Bool.not_eq_true'] at h
    obtain ⟨⟨h1, h2⟩, h3⟩ := h
    obtain ⟨n1, n2, n3⟩ := ih _ h3
    have hx : x.1 ∉ pre := by simpa using h2
    have hox : ∃ o, ops[x.1]? = some o ∧ ∀ e ∈ o.after, Region.binds .any e = true → e.on ∈ pre := by
      split at h1
      · rename_i o ho
        refine ⟨o, ho, fun e he hb => ?_⟩
        have := Array.all_eq_true_iff_forall_mem.1 h1 e he
        simpa [hb] using this
      · cases h1
    refine ⟨?_, ?_, ?_⟩
    · simp only [List.map_cons, List.nodup_cons]
      exact ⟨fun hm => (n2 _ hm).1 (List.mem_cons_self ..), n1⟩
    · intro i hi
      simp only [List.map_cons, List.mem_cons] at hi
      rcases hi with rfl | hi
      · obtain ⟨o, ho, _⟩ := hox
        exact ⟨hx, (Array.getElem?_eq_some_iff.1 ho).1⟩
      · exact ⟨fun hm => (n2 i hi).1 (List.mem_cons_of_mem _ hm), (n2 i hi).2⟩
    · intro p i r e
      cases p with
      | nil =>
        simp only [List.nil_append, List.cons.injEq] at e
        obtain ⟨rfl, rfl⟩ := e
        obtain ⟨o, ho, hh⟩ := hox
        exact ⟨o, ho, fun e he hb => .inr (hh e he hb)⟩
      | cons y p =>
        simp only [List.cons_append, List.cons.injEq] at e
        obtain ⟨rfl, e⟩ := e
        obtain ⟨o, ho, hh⟩ := n3 p i r e
        refine ⟨o, ho, fun e he hb => ?_⟩
        rcases hh e he hb with h | h
        · exact .inl (by simp [h])
        · simp only [List.mem_cons] at h
          rcases h with h | h
          · exact .inl (by simp [h])
          · exact .inr h

theorem nodup_len : ∀ (n : Nat) (l : List Nat), l.Nodup → (∀ i ∈ l, i < n) → l.length ≤ n := by
  intro n
  induction n with
  | zero =>
    intro l _ hb
    cases l with
    | nil => simp
    | cons x l => exact absurd (hb x (List.mem_cons_self ..)) (by omega)
  | succ n ih =>
    intro l hn hb
    have h1 : (l.erase n).length ≤ n := ih _ (hn.erase n) (fun i hi => by
      have h2 := hb i (List.mem_of_mem_erase hi)
      have h3 : i ≠ n := fun e => by subst e; exact (hn.not_mem_erase) hi
      omega)
    have := List.le_length_erase (a := n) (l := l)
    omega

theorem nodup_all {n : Nat} {l : List Nat} (hn : l.Nodup) (hl : l.length = n) (hb : ∀ i ∈ l, i < n) (i : Nat) (hi : i < n) : i ∈ l := by
  refine Classical.byContradiction fun hni => ?_
  have := nodup_len n (i :: l) (List.nodup_cons.2 ⟨hni, hn⟩) (fun x hx => by
    simp only [List.mem_cons] at hx
    rcases hx with rfl | hx
    · exact hi
    · exact hb x hx)
  simp at this
  omega

theorem chk_good {s : List (Nat × Nat)} (h : chk ops s = true) : Good ops s := by
  simp only [chk, Bool.and_eq_true, beq_iff_eq] at h
  obtain ⟨⟨⟨h1, h2⟩, h3⟩, h4⟩ := h
  obtain ⟨n1, n2, n3⟩ := preds_spec s [] h4
  refine ⟨Region.noSelect_spec h1, relAll_spec s h3, n1, fun i => ⟨fun hi => ?_, fun hi => (n2 i hi).2⟩, fun p i r e => ?_⟩
  · exact nodup_all n1 (by simpa using h2) (fun i hi => (n2 i hi).2) i hi
  · obtain ⟨o, ho, hh⟩ := n3 p i r e
    exact ⟨o, ho, fun e he hb => (hh e he hb).resolve_right (by simp)⟩

/-! ### the theorem -/
variable {C : World → Prop} {Q : Exit → Act → World → Prop}

def FactOf (P : Program) (ops : Array Oper) (C : World → Prop) (w : World) (x : Entry) (a : Act) : Prop :=
  ∃ o, ops[x.1.1]? = some o ∧ ((x.1.2 = 0 ∧ YieldsAt P ops w o x.2 a) ∨ (x.1.2 = 1 ∧ ∀ W, C W → YieldsAt P ops W o x.2 a))

theorem advance : ∀ (r : List (Nat × Nat)) (a : Act) (w : World), (∀ i ∈ r.map (·.1), i < ops.size) → flow P ops C Q r a w →
    ∃ (q : List Entry) (r' : List (Nat × Nat)), r = q.map (·.1) ++ r' ∧ (r' = [] ∨ ∃ e k t, r' = (e, k + 2) :: t) ∧ flow P ops C Q r' (replay ops q a) w ∧
      ∀ q1 x q2, q = q1 ++ x :: q2 → FactOf P ops C w x (replay ops q1 a) := by
  intro r
  induction r with
  | nil => intro a w _ h; exact ⟨[], [], rfl, .inl rfl, h, fun q1 x q2 e => by simp at e⟩
  | cons x r ih =>
    intro a w hb h
    obtain ⟨i, k⟩ := x
    have hi : i < ops.size := hb i (by simp)
    have ho : ops[i]? = some ops[i] := Array.getElem?_eq_getElem hi
    have hd : dstOf ops i = ops[i].dst := by simp [dstOf, ho]
    have hb' : ∀ j ∈ r.map (·.1), j < ops.size := fun j hj => hb j (by simp only [List.map_cons, List.mem_cons]; exact .inr hj)
    match k, h with
    | 0, h =>
      simp only [flow] at h
      obtain ⟨v, hy, hk⟩ := yieldsAt_of_stOp ho h
      rw [← hd] at hk
      obtain ⟨q, r', e1, e2, e3, e4⟩ := ih _ w hb' hk
      refine ⟨((i, 0), v) :: q, r', by simp [e1], e2, e3, ?_⟩
      intro q1 x q2 e
      cases q1 with
      | nil =>
        simp only [List.nil_append, List.cons.injEq] at e
        obtain ⟨rfl, rfl⟩ := e
        exact ⟨_, ho, .inl ⟨rfl, hy⟩⟩
      | cons y q1 =>
        simp only [List.cons_append, List.cons.injEq] at e
        obtain ⟨rfl, e⟩ := e
        exact e4 q1 x q2 e
    | 1, h =>
      simp only [flow] at h
      obtain ⟨v, hv, hk⟩ := h
      obtain ⟨q, r', e1, e2, e3, e4⟩ := ih _ w hb' hk
      refine ⟨((i, 1), v) :: q, r', by simp [e1], e2, e3, ?_⟩
      intro q1 x q2 e
      cases q1 with
      | nil =>
        simp only [List.nil_append, List.cons.injEq] at e
        obtain ⟨rfl, rfl⟩ := e
        exact ⟨_, ho, .inr ⟨rfl, fun W hW => sure_yields (hv _ ho) hW⟩⟩
      | cons y q1 =>
        simp only [List.cons_append, List.cons.injEq] at e
        obtain ⟨rfl, e⟩ := e
        exact e4 q1 x q2 e
    | k + 2, h =>
      exact ⟨[], (i, k + 2) :: r, rfl, .inr ⟨i, k, r, rfl⟩, h, fun q1 x q2 e => by simp at e⟩

def lst (listed : Array Bool) (i : Nat) : Bool := listed.getD i false

structure St (P : Program) (ops : Array Oper) (C : World → Prop) (Q : Exit → Act → World → Prop) (s : List (Nat × Nat)) (a0 : Act) (listed : Array Bool) (a : Act) (w : World) (p : List Entry) (r : List (Nat × Nat)) : Prop where
  split : s = p.map (·.1) ++ r
  head : r = [] ∨ ∃ e k t, r = (e, k + 2) :: t
  unl : ∀ i ∈ r.map (·.1), lst listed i = false
  frame : a = replay ops (p.filter (fun x => lst listed x.1.1)) a0
  facts : ∀ q1 x q2, p = q1 ++ x :: q2 → lst listed x.1.1 = false → FactOf P ops C w x (replay ops q1 a0)
  fl : flow P ops C Q r (replay ops p a0) w
  here : C w ∨ ∀ x ∈ p, lst listed x.1.1 = false → x.1.2 ≠ 1
  size : listed.size = ops.size
  closed : Closed ops (lst listed)

theorem lst_set {listed : Array Bool} {i j : Nat} : lst (listed.setIfInBounds i true) j = (lst listed j || (decide (i = j) && decide (i < listed.size))) := by
  unfold lst
  by_cases e : i = j
  · subst e
    by_cases h : i < listed.size
    · simp [h]
    · simp [h]
  · simp [Array.getElem?_setIfInBounds_ne e, e]

theorem cnt_lt {f f' : Nat → Bool} (hm : ∀ j, f' j = true → f j = true) : ∀ (l : List Nat) (i : Nat), i ∈ l → f i = true → f' i = false → l.countP f' < l.countP f := by
  intro l
  induction l with
  | nil => intro i h; cases h
  | cons x l ih =>
    intro i hi hf hf'
    have hle : l.countP f' ≤ l.countP f := List.countP_mono_left (fun j _ h => hm j h)
    simp only [List.countP_cons]
    simp only [List.mem_cons] at hi
    rcases hi with rfl | hi
    · simp only [hf, hf', if_true]; simp; omega
    · have := ih i hi hf hf'
      by_cases h1 : f' x = true
      · simp only [h1, hm x h1, if_true]; omega
      · have h1' : f' x = false := by simpa using h1
        simp only [h1']
        by_cases h2 : f x = true <;> simp [h2] <;> omega

variable {s : List (Nat × Nat)} {a0 : Act} {listed : Array Bool} {a : Act} {w : World} {p : List Entry} {r : List (Nat × Nat)}

/-- Where no operation is ready, all are through. -/
theorem all_listed (g : Good ops s) (hsz : listed.size = ops.size) (hr : Region.ready .any ops listed = []) : ∀ (p : List (Nat × Nat)) (r : List (Nat × Nat)), s = p ++ r → ∀ i ∈ p.map (·.1), lst listed i = true := by
  have key : ∀ n, ∀ (p r : List (Nat × Nat)), p.length = n → s = p ++ r → ∀ i ∈ p.map (·.1), lst listed i = true := by
    intro n
    induction n with
    | zero => intro p r hp _ i hi; have : p = [] := by simpa using hp
              subst this; simp at hi
    | succ n ih =>
      intro p r hp hs i hi
      have hne : p ≠ [] := by intro e; subst e; simp at hp
      obtain ⟨q, x, rfl⟩ : ∃ q x, p = q ++ [x] := ⟨p.dropLast, p.getLast hne, (List.dropLast_concat_getLast hne).symm⟩
      have hq : q.length = n := by simpa using hp
      have h0 := ih q (x :: r) hq (by simp [hs])
      simp only [List.map_append, List.mem_append, List.map_cons, List.map_nil, List.mem_singleton] at hi
      rcases hi with hi | rfl
      · exact h0 i hi
      · obtain ⟨o, ho, hpre⟩ := g.pre q x r (by simp [hs])
        refine Classical.byContradiction fun hn => ?_
        have hlt : x.1 < ops.size := (Array.getElem?_eq_some_iff.1 ho).1
        have : x.1 ∈ Region.ready .any ops listed := by
          refine mem_ready.2 ⟨?_, o, ho, fun e he hb => h0 _ (hpre e he hb)⟩
          have : lst listed x.1 = false := by simpa using hn
          unfold lst at this
          simp [hsz, hlt] at this ⊢
          exact this
        rw [hr] at this
        cases this
  exact fun p r => key p.length p r rfl

theorem St.wpAny (g : Good ops s) (hpair : s.Pairwise (fun i j => Flow.rel ops (masks ops.toList) i j = true)) : ∀ (fuel : Nat) (listed : Array Bool) (a : Act) (w : World) (p : List Entry) (r : List (Nat × Nat)),
    (List.range ops.size).countP (fun i => !lst listed i) ≤ fuel → St P ops C Q s a0 listed a w p r → Go.wpAny P .any ops Q fuel listed a w := by
  have fin : ∀ (listed : Array Bool) (a : Act) (w : World) (p : List Entry) (r : List (Nat × Nat)), St P ops C Q s a0 listed a w p r → Region.ready .any ops listed = [] → Q .normal a w := by
    intro listed a w p r st hr
    have hall := all_listed g st.size hr s [] (by simp)
    have hrn : r = [] := by
      rcases st.head with h | ⟨e, k, t, h⟩
      · exact h
      · have h1 := st.unl e (by simp [h])
        have h2 := hall e (by rw [st.split, h]; simp)
        rw [h1] at h2; cases h2
    have hfl := st.fl
    rw [hrn] at hfl
    have hf : p.filter (fun x => lst listed x.1.1) = p := List.filter_eq_self.2 (fun x hx => hall _ (by rw [st.split]; simp only [List.map_append, List.map_map, List.mem_append, List.mem_map]; exact .inl ⟨x, hx, rfl⟩))
    rw [st.frame, hf]
    exact hfl
  intro fuel
  induction fuel with
  | zero =>
    intro listed a w p r hc st
    have hr : Region.ready .any ops listed = [] := by
      cases h : Region.ready .any ops listed with
      | nil => rfl
      | cons i l =>
        have hi : i ∈ Region.ready .any ops listed := by rw [h]; exact List.mem_cons_self ..
        obtain ⟨h1, o, ho, _⟩ := mem_ready.1 hi
        have hlt : i < ops.size := (Array.getElem?_eq_some_iff.1 ho).1
        have : 0 < (List.range ops.size).countP (fun i => !lst listed i) := List.countP_pos_iff.2 ⟨i, by simpa using hlt, by
          have := getD_both h1
          simp [lst, this]⟩
        omega
    exact ⟨hr, fin listed a w p r st hr⟩
  | succ fuel ih =>
    intro listed a w p r hc st
    refine ⟨fin listed a w p r st, fun i hi => ?_⟩
    obtain ⟨h1, oi, hoi, hpre⟩ := mem_ready.1 hi
    have hlt : i < ops.size := (Array.getElem?_eq_some_iff.1 hoi).1
    have hil : lst listed i = false := getD_both h1
    have hisz : i < listed.size := by rw [st.size]; exact hlt
    have hset : ∀ j, lst (listed.setIfInBounds i true) j = (lst listed j || decide (i = j)) := fun j => by rw [lst_set]; simp [hisz]
    have hclosed : Closed ops (lst (listed.setIfInBounds i true)) := by
      intro j o ho hl e he hb
      rw [hset] at hl ⊢
      simp only [Bool.or_eq_true, decide_eq_true_eq] at hl ⊢
      rcases hl with hl | rfl
      · exact .inl (st.closed j o ho hl e he hb)
      · have : o = oi := Option.some.inj (ho.symm.trans hoi)
        subst this
        exact .inl (hpre e he hb)
    have hreach : ∀ j, j ≠ i → reach (masks ops.toList) i j = true → lst listed j = true := by
      intro j hj h
      have := reach_closed hclosed h (by rw [hset]; simp)
      rw [hset] at this
      simpa [Ne.symm hj] using this
    have hreach' : ∀ j, lst listed j = true → reach (masks ops.toList) j i = true → False := by
      intro j hj h
      have := reach_closed st.closed h hj
      rw [hil] at this; cases this
    have hcnt : (List.range ops.size).countP (fun j => !lst (listed.setIfInBounds i true) j) ≤ fuel := by
      have := cnt_lt (f := fun j => !lst listed j) (f' := fun j => !lst (listed.setIfInBounds i true) j) (fun j hj => by
        rw [hset] at hj
        simp only [Bool.not_eq_true', Bool.or_eq_false_iff] at hj
        simp [hj.1]) (List.range ops.size) i (by simpa using hlt) (by simp [hil]) (by simp [hset])
      omega
    have hdst : dstOf ops i = oi.dst := by simp [dstOf, hoi]
    have hmem := (g.all i).1 hlt
    rw [st.split, List.map_append, List.mem_append] at hmem
    have hpw := hpair
    rw [st.split] at hpw
    have hnd := g.nodup
    rw [st.split] at hnd
    rcases hmem with hmem | hmem
    · -- a read that has its value already
      simp only [List.map_map, List.mem_map, Function.comp] at hmem
      obtain ⟨x, hx, rfl⟩ := hmem
      obtain ⟨p1, p2, rfl⟩ := List.append_of_mem hx
      obtain ⟨o, ho, hfact⟩ := st.facts p1 x p2 rfl hil
      have : o = oi := Option.some.inj (ho.symm.trans hoi)
      subst this
      simp only [List.map_append, List.map_cons, List.append_assoc, List.cons_append] at hpw hnd
      have hpw1 : ∀ y ∈ p1, Flow.rel ops (masks ops.toList) y.1 x.1 = true := fun y hy => by
        have := (List.pairwise_append.1 hpw).2.2 y.1 (List.mem_map.2 ⟨y, hy, rfl⟩) x.1 (by simp)
        exact this
      have hpw2 : ∀ y ∈ p2, Flow.rel ops (masks ops.toList) x.1 y.1 = true := fun y hy => by
        have := (List.pairwise_cons.1 (List.pairwise_append.1 hpw).2.1).1 y.1 (by simp only [List.mem_append, List.mem_map]; exact .inl ⟨y, hy, rfl⟩)
        exact this
      have hne1 : ∀ y ∈ p1, y.1.1 ≠ x.1.1 := fun y hy e => by
        have := (List.nodup_append.1 hnd).2.2 y.1.1 (by simp only [List.map_map, List.mem_map]; exact ⟨y, hy, rfl⟩) x.1.1 (by simp)
        exact this e
      have apart1 : ∀ y ∈ p1, lst listed y.1.1 = false → ∃ oy, ops[y.1.1]? = some oy ∧ oy.apart ops o = true := by
        intro y hy hl
        have h := hpw1 y hy
        simp only [Flow.rel, Bool.and_eq_true, Bool.or_eq_true] at h
        rcases h.1.1.1.1 with h | h
        · split at h
          · rename_i u b hu hb
            have : b = o := Option.some.inj (hb.symm.trans ho)
            subst this
            exact ⟨u, hu, h⟩
          · cases h
        · have := hreach _ (hne1 y hy) h
          rw [hl] at this; cases this
      have apart2 : ∀ y ∈ p2, lst listed y.1.1 = true → ∃ oy, ops[y.1.1]? = some oy ∧ o.apart ops oy = true := by
        intro y hy hl
        have h := hpw2 y hy
        simp only [Flow.rel, Bool.and_eq_true, Bool.or_eq_true] at h
        rcases h.1.1.1.1 with h | h
        · split at h
          · rename_i u b hu hb
            have : u = o := Option.some.inj (hu.symm.trans ho)
            subst this
            exact ⟨b, hb, h⟩
          · cases h
        · exact (hreach' _ hl h).elim
      have hagree : agree (o.looksAt ops) (replay ops p1 a0) a := by
        intro t ht
        rw [st.frame]
        simp only [List.filter_append, List.filter_cons, hil, Bool.false_eq_true, if_false]
        rw [replay_append, replay_tail (ops := ops) (p2.filter _) _ (fun y hy => ?_)]
        · refine replay_filter _ p1 a0 a0 rfl rfl (fun y hy hl => ?_)
          obtain ⟨oy, hoy, hap⟩ := apart1 y hy hl
          intro e
          have := (Oper.apart_spec hap).1 t (by simpa [dstOf, hoy] using e)
          exact this ht
        · simp only [List.mem_filter] at hy
          obtain ⟨oy, hoy, hap⟩ := apart2 y hy.1 hy.2
          intro e
          have := (Oper.apart_spec hap).2.2 t (by simpa [dstOf, hoy] using e)
          exact this ht
      have hy : YieldsAt P ops w o x.2 a := by
        have hyc : YieldsAt P ops w o x.2 (replay ops p1 a0) := by
          rcases hfact with ⟨_, h⟩ | ⟨h1, h⟩
          · exact h
          · rcases st.here with hc | hc
            · exact h w hc
            · exact absurd h1 (hc x (by simp) hil)
        exact hyc.of_same (agree_exec (fun cs b => g.sel _ o cs b ho) hagree).symm (agree_wanted hagree).symm
      refine wpOp_of_stOp (K := fun a' => a' = a.put o.dst x.2) (fun a' ha' => ?_) (YieldsAt.stOp ho hy rfl)
      refine ih _ _ _ (p1 ++ x :: p2) r hcnt ⟨st.split, st.head, ?_, ?_, ?_, st.fl, ?_, by simp [st.size], hclosed⟩
      · intro j hj
        rw [hset, st.unl j hj]
        simp only [Bool.false_or, decide_eq_false_iff_not]
        intro e
        subst e
        have := (List.nodup_append.1 hnd).2.1
        simp only [List.nodup_cons, List.mem_append] at this
        exact this.1 (.inr hj)
      · rw [ha', st.frame]
        have e1 : p1.filter (fun y => lst (listed.setIfInBounds x.1.1 true) y.1.1) = p1.filter (fun y => lst listed y.1.1) :=
          List.filter_congr (fun y hy => by rw [hset]; simp [Ne.symm (hne1 y hy)])
        have e2 : p2.filter (fun y => lst (listed.setIfInBounds x.1.1 true) y.1.1) = p2.filter (fun y => lst listed y.1.1) :=
          List.filter_congr (fun y hy => by
            rw [hset]
            have hne : x.1.1 ≠ y.1.1 := fun e => by
              have := (List.nodup_append.1 hnd).2.1
              simp only [List.nodup_cons, List.mem_append, List.map_map, List.mem_map] at this
              exact this.1 (.inl ⟨y, hy, e.symm⟩)
            simp [hne])
        have hx' : lst (listed.setIfInBounds x.1.1 true) x.1.1 = true := by rw [hset]; simp
        simp only [List.filter_append, List.filter_cons, hil, hx', if_true, e1, e2, Bool.false_eq_true, if_false]
        rw [replay_append, replay_append]
        simp only [replay]
        rw [replay_late, hdst]
        intro y hy d hd
        simp only [List.mem_filter] at hy
        obtain ⟨oy, hoy, hap⟩ := apart2 y hy.1 hy.2
        have := (Oper.apart_spec hap).2.1 d (by rw [← hdst]; exact hd)
        simpa [dstOf, hoy] using this
      · intro q1 y q2 e hl
        rw [hset] at hl
        simp only [Bool.or_eq_false_iff] at hl
        exact st.facts q1 y q2 e hl.1
      · refine st.here.imp id (fun hc y hy hl => ?_)
        rw [hset] at hl
        simp only [Bool.or_eq_false_iff] at hl
        exact hc y hy hl.1
    · -- the next effect
      rcases st.head with hn | ⟨e, k, t, hr⟩
      · rw [hn] at hmem; cases hmem
      · have hie : i = e := by
          refine Classical.byContradiction fun hne => ?_
          rw [hr] at hmem
          simp only [List.map_cons, List.mem_cons] at hmem
          have hit := hmem.resolve_left hne
          simp only [List.mem_map] at hit
          obtain ⟨z, hz, rfl⟩ := hit
          have h := (List.pairwise_cons.1 (List.pairwise_append.1 (hr ▸ hpw)).2.1).1 z hz
          simp only [Flow.rel, Bool.and_eq_true, Bool.or_eq_true, decide_eq_true_eq] at h
          have h2 := h.1.1.1.2.resolve_left (by omega)
          have h3 := hreach e (Ne.symm hne) h2
          have h4 := st.unl e (by rw [hr]; simp)
          rw [h4] at h3; cases h3
        subst hie
        subst hr
        have hrelp : ∀ y ∈ p, Flow.rel ops (masks ops.toList) y.1 (i, k + 2) = true := fun y hy =>
          (List.pairwise_append.1 hpw).2.2 y.1 (List.mem_map.2 ⟨y, hy, rfl⟩) _ (by simp)
        have hnep : ∀ y ∈ p, y.1.1 ≠ i := fun y hy e => by
          rw [List.map_append] at hnd
          exact (List.nodup_append.1 hnd).2.2 y.1.1 (by simp only [List.map_map, List.mem_map]; exact ⟨y, hy, rfl⟩) i (by simp) e
        have hstill : ∀ y ∈ p, lst listed y.1.1 = false → y.1.2 ≠ 0 := by
          intro y hy hl h0
          have h := hrelp y hy
          simp only [Flow.rel, Bool.and_eq_true, Bool.or_eq_true, decide_eq_true_eq] at h
          rcases h.1.1.2 with (h | h) | h
          · omega
          · omega
          · have := hreach _ (hnep y hy) h
            rw [hl] at this; cases this
        have hagree : agree (oi.looksAt ops) (replay ops p a0) a := by
          intro t' ht
          rw [st.frame]
          refine replay_filter _ p a0 a0 rfl rfl (fun y hy hl => ?_)
          have h := hrelp y hy
          simp only [Flow.rel, Bool.and_eq_true, Bool.or_eq_true] at h
          rcases h.1.1.1.1 with h | h
          · split at h
            · rename_i u b hu hb
              have : b = oi := Option.some.inj (hb.symm.trans hoi)
              subst this
              intro e
              exact (Oper.apart_spec h).1 t' (by simpa [dstOf, hu] using e) ht
            · cases h
          · have := hreach _ (hnep y hy) h
            rw [hl] at this; cases this
        have hfl := st.fl
        simp only [flow] at hfl
        have hexec := agree_exec (fun cs b => g.sel _ oi cs b hoi) hagree
        have hwant := agree_wanted hagree
        have hdef : a.defers = (replay ops p a0).defers := by rw [st.frame, replay_def, replay_def]
        -- what follows, from the canonical frame's continuation
        have next : ∀ (v : Value) (w' : World), (CC k C w' ∧ ((replay ops p a0).put oi.dst v).defers = (replay ops p a0).defers ∧ flow P ops C Q t ((replay ops p a0).put oi.dst v) w') →
            Go.wpAny P .any ops Q fuel (listed.setIfInBounds i true) (a.put oi.dst v) w' := by
          rintro v w' ⟨hC', _, hf⟩
          obtain ⟨q, r', e1, e2, e3, e4⟩ := advance t _ w' (fun j hj => (g.all j).2 (by rw [st.split]; simp only [List.map_append, List.map_cons, List.mem_append, List.mem_cons]; exact .inr (.inr hj))) hf
          have hqu : ∀ y ∈ q, lst listed y.1.1 = false := fun y hy => st.unl _ (by rw [e1]; simp only [List.map_cons, List.map_append, List.map_map, List.mem_cons, List.mem_append, List.mem_map]; exact .inr (.inl ⟨y, hy, rfl⟩))
          have hri : ∀ j ∈ t.map (·.1), j ≠ i := fun j hj e => by
            subst e
            rw [List.map_append] at hnd
            have := (List.nodup_append.1 hnd).2.1
            simp only [List.map_cons, List.nodup_cons] at this
            exact this.1 hj
          have hqi : ∀ y ∈ q, y.1.1 ≠ i := fun y hy => hri _ (by rw [e1]; simp only [List.map_append, List.map_map, List.mem_append, List.mem_map]; exact .inl ⟨y, hy, rfl⟩)
          refine ih _ _ _ (p ++ ((i, k + 2), v) :: q) r' hcnt ⟨?_, e2, ?_, ?_, ?_, ?_, ?_, by simp [st.size], hclosed⟩
          · rw [st.split, e1]; simp
          · intro j hj
            have hjt : j ∈ t.map (·.1) := by rw [e1]; simp only [List.map_append, List.mem_append]; exact .inr hj
            rw [hset, st.unl j (by simp only [List.map_cons, List.mem_cons]; exact .inr hjt)]
            simp [Ne.symm (hri j hjt)]
          · have f1 : p.filter (fun y => lst (listed.setIfInBounds i true) y.1.1) = p.filter (fun y => lst listed y.1.1) :=
              List.filter_congr (fun y hy => by rw [hset]; simp [Ne.symm (hnep y hy)])
            have f2 : q.filter (fun y => lst (listed.setIfInBounds i true) y.1.1) = [] :=
              List.filter_eq_nil_iff.2 (fun y hy => by rw [hset, hqu y hy]; simp [Ne.symm (hqi y hy)])
            have hx' : lst (listed.setIfInBounds i true) i = true := by rw [hset]; simp
            simp only [List.filter_append, List.filter_cons, hx', if_true, f1, f2]
            rw [replay_append, ← st.frame]
            simp only [replay]
            rw [hdst]
          · intro q1 y q2 e hl
            rw [hset] at hl
            simp only [Bool.or_eq_false_iff, decide_eq_false_iff_not] at hl
            rcases List.append_eq_append_iff.1 e with ⟨m, hm1, hm2⟩ | ⟨m, hm1, hm2⟩
            · cases m with
              | nil =>
                simp only [List.nil_append, List.cons.injEq] at hm2
                exact absurd (by rw [← hm2.1]) hl.2
              | cons z m =>
                simp only [List.cons_append, List.cons.injEq] at hm2
                obtain ⟨rfl, hm2⟩ := hm2
                have := e4 m y q2 hm2
                rw [hm1, replay_append]
                simp only [replay]
                rw [hdst]
                exact this
            · cases m with
              | nil =>
                simp only [List.nil_append, List.cons.injEq] at hm2
                exact absurd (by rw [hm2.1]) hl.2
              | cons z m =>
                simp only [List.cons_append, List.cons.injEq] at hm2
                obtain ⟨rfl, hm2⟩ := hm2
                obtain ⟨o, ho, hf⟩ := st.facts q1 y m hm1 hl.1
                refine ⟨o, ho, .inr ?_⟩
                rcases hf with ⟨h0, _⟩ | h
                · exact absurd h0 (hstill y (by rw [hm1]; simp) hl.1)
                · exact h
          · rw [replay_append]
            simp only [replay]
            rw [hdst]
            exact e3
          · cases k with
            | zero => exact .inl hC'
            | succ k =>
              refine .inr (fun y hy hl => ?_)
              rw [hset] at hl
              simp only [Bool.or_eq_false_iff, decide_eq_false_iff_not] at hl
              rcases List.mem_append.1 hy with hy | hy
              · have h := hrelp y hy
                simp only [Flow.rel, Bool.and_eq_true, Bool.or_eq_true, decide_eq_true_eq] at h
                rcases h.1.2 with h | h
                · omega
                · have := hreach _ (hnep y hy) h
                  rw [hl.1] at this; cases this
              · rcases List.mem_cons.1 hy with rfl | hy
                · simp
                · have h := (List.pairwise_cons.1 (List.pairwise_append.1 hpw).2.1).1 y.1 (by rw [e1]; simp only [List.mem_append, List.mem_map]; exact .inl ⟨y, hy, rfl⟩)
                  simp only [Flow.rel, Bool.and_eq_true, Bool.or_eq_true, decide_eq_true_eq] at h
                  rcases h.2 with h | h
                  · omega
                  · simpa using h
        unfold wpOp at hfl ⊢
        simp only [hoi] at hfl ⊢
        rw [← hwant]
        by_cases hw : Region.wanted oi (yielded ops (replay ops p a0).tmps) = true
        · simp only [hw, if_true] at hfl ⊢
          rcases hfl with hfl | ⟨hasks, b, u, hq⟩
          · left
            unfold Oper.wp at hfl ⊢
            rw [← hexec]
            generalize (execOp (replay ops p a0).eval oi).run P w = res at hfl ⊢
            cases res with
            | ok n w' =>
              cases n <;> simp only [Oper.upon] at hfl ⊢
              case value v => exact next v w' hfl
              case skip => exact next undef w' hfl
              case defer d =>
                have := hfl.2.1
                rw [put_def] at this
                exact absurd this (by intro e; have := congrArg List.length e; simp at this)
              case enter f args =>
                refine hfl.mono fun e w'' he => ?_
                cases e with
                | returned v => exact next v w'' he
                | panicked c => exact he a hdef
                | outgrown => obtain ⟨b, u, hq⟩ := he; exact ⟨b, u, hq⟩
              case row row args => exact hfl.mono fun v w'' he => next v w'' he
            | halt x w' =>
              cases x <;> simp only [Oper.upon] at hfl ⊢
              case panic v => exact hfl a hdef
          · right
            refine ⟨?_, b, u, hq⟩
            unfold Oper.asks at hasks ⊢
            rw [← hexec]
            exact hasks
        · simp only [hw] at hfl ⊢
          exact next undef w hfl

/-- ONE ORDER SERVES ALL. -/
theorem wp_region_flow {id : Nat} {l : List Oper} (s : List (Nat × Nat)) (C : World → Prop) (hm : P.follows .mixedOrders = true) (hB : chk l.toArray s = true) (hC : C { w with drawn := w.drawn + 1 })
    (h : flow P l.toArray C Q s a { w with drawn := w.drawn + 1 }) : (Code.region id l.toArray true).wp P Q a w := by
  have g := chk_good hB
  obtain ⟨q, r, e1, e2, e3, e4⟩ := advance s a _ (fun i hi => (g.all i).2 hi) h
  refine wp_region_any hm ?_
  refine St.wpAny (C := C) (a0 := a) g g.rel _ _ a _ q r ?_ ⟨e1, e2, ?_, ?_, fun q1 x q2 e _ => e4 q1 x q2 e, e3, .inl hC, by simp, ?_⟩
  · have := List.countP_le_length (p := fun i => !lst (Array.replicate l.toArray.size false) i) (l := List.range l.toArray.size)
    simpa using this
  · intro i _; exact getD_replicate_false _ _
  · have : q.filter (fun x => lst (Array.replicate l.toArray.size false) x.1.1) = [] := List.filter_eq_nil_iff.2 (fun y _ => by unfold lst; rw [getD_replicate_false]; simp)
    rw [this]; rfl
  · intro j o _ hl
    unfold lst at hl
    rw [getD_replicate_false] at hl
    cases hl

/-! ### the steps -/
variable {l : List Oper} {i : Nat} {o : Oper}
theorem flow_still (ho : l[i]? = some o) (h : ∀ K : Act → Prop, (∀ a', flow P l.toArray C Q r a' w → K a') → if Region.wanted o (yielded l.toArray a.tmps) then o.still P a w K else K (a.put o.dst undef)) :
    flow P l.toArray C Q ((i, 0) :: r) a w := by
  simp only [flow, stOp]
  have : l.toArray[i]? = some o := by simpa using ho
  rw [this]
  exact h _ (fun _ h => h)

theorem flow_sure (v : Value) (ho : l[i]? = some o) (hv : sure P l.toArray C o v a) (h : flow P l.toArray C Q r (a.put o.dst v) w) :
    flow P l.toArray C Q ((i, 1) :: r) a w := by
  have ho' : l.toArray[i]? = some o := by simpa using ho
  simp only [flow]
  refine ⟨v, fun o' h' => ?_, ?_⟩
  · rw [ho'] at h'; exact (Option.some.inj h') ▸ hv
  · simpa [dstOf, ho'] using h

/-- A copy that may come late. -/
theorem flow_move {dst : Option Tmp} {x : Operand} {ty : TypeId} {pos : String} {af : Array Edge} (ho : l[i]? = some ⟨dst, .move x, ty, pos, af, none⟩) (h : flow P l.toArray C Q r (a.put dst (a.eval x)) w) :
    flow P l.toArray C Q ((i, 1) :: r) a w :=
  flow_sure (a.eval x) ho (by simp [sure, Region.wanted, execOp, isv, pure]) h

theorem flow_eff {k : Nat} (ho : l[i]? = some o) (h : ∀ K : Act → World → Prop, (∀ a' w', CC k C w' → a'.defers = a.defers → flow P l.toArray C Q r a' w' → K a' w') → wpList P l.toArray (Exit.then K (inside Q)) [o] a w) :
    flow P l.toArray C Q ((i, k + 2) :: r) a w := by
  have ho' : l.toArray[i]? = some o := by simpa using ho
  have := h (fun a' w' => CC k C w' ∧ a'.defers = a.defers ∧ flow P l.toArray C Q r a' w') (fun _ _ h1 h2 h3 => ⟨h1, h2, h3⟩)
  simp only [flow, wpOp, ho']
  simp only [wpList] at this
  split <;> rename_i hw
  · simp only [hw, if_true] at this
    rcases this with this | this
    · left
      unfold Oper.wp at this ⊢
      generalize (execOp a.eval o).run P w = res at this ⊢
      cases res with
      | ok n w' =>
        cases n <;> simp only [Oper.upon] at this ⊢
        case value v => exact this
        case skip => exact this
        case defer d => exact this
        case enter f args => exact this.mono fun e w'' he => by cases e <;> exact he
        case row row args => exact this
      | halt x w' => cases x <;> simp only [Oper.upon] at this ⊢ <;> exact this
    · exact .inr this
  · simp only [hw] at this
    exact this
end
end Go.Flow
