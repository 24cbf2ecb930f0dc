/-
  The steps of a walk over slots that are known and a heap: the judgements and their rules for the code's forms.
-/
import Derived.Test.YtfomnjippakjpaaFlow
import Derived.WalkKit
namespace Go.S
open Go.Flow

abbrev Heap := Array Obj
abbrev Env := List (Nat × Value)

structure Sim (w0 w : World) : Prop where
  os : w.os = w0.os
  tape : w.tape = w0.tape
  output : w.output = w0.output
theorem Sim.refl (w : World) : Sim w w := ⟨rfl, rfl, rfl⟩
theorem Sim.trans {a b c : World} (h : Sim a b) (k : Sim b c) : Sim a c := ⟨k.os.trans h.os, k.tape.trans h.tape, k.output.trans h.output⟩

theorem beqF {i k : Nat} (h : ¬ i = k) : Nat.beq i k = false := by
  cases hb : Nat.beq i k with
  | false => rfl
  | true => exact absurd (Nat.eq_of_beq_eq_true hb) h

def get : Env → Nat → Option Value
  | [], _ => none
  | (i, v) :: r, k => bif Nat.beq i k then some v else get r k

def Sat (n : Nat) (env : Env) (a : Act) : Prop := a.tmps.size = n ∧ a.defers = [] ∧ ∀ k v, get env k = some v → a.tmps[k]? = some v

def opnd (env : Env) : Operand → Option Value
  | .tmp t => get env t
  | .const v => some v
  | .global g => some (.pointer (some ⟨g, 0, none⟩))
  | .func f => some (.func (.func f) #[] #[])

theorem Sat.eval {n : Nat} {env : Env} {a : Act} (h : Sat n env a) {x : Operand} {v : Value} (hx : opnd env x = some v) : a.eval x = v := by
  cases x with
  | tmp t => have := h.2.2 t v hx; simp [Act.eval, this]
  | const c => simpa [opnd, Act.eval] using hx
  | global g => simpa [opnd, Act.eval] using hx
  | func f => simpa [opnd, Act.eval] using hx

theorem Sat.put {n : Nat} {env : Env} {a : Act} (h : Sat n env a) {d : Nat} (v : Value) (hd : d < n) : Sat n ((d, v) :: env) (a.put (some d) v) := by
  refine ⟨by simp [Act.put, h.1], h.2.1, fun k u hk => ?_⟩
  by_cases e : d = k
  · subst e
    simp [get] at hk
    subst hk
    simp [Act.put, Array.getElem?_setIfInBounds, h.1, hd]
  · have : Nat.beq d k = false := beqF e
    simp only [get, this, cond_false] at hk
    simp [Act.put, Array.getElem?_setIfInBounds_ne e, h.2.2 k u hk]

/-- Less is known. -/
theorem Sat.weak {n : Nat} {env env' : Env} {a : Act} (h : Sat n env a) (he : ∀ k v, get env' k = some v → get env k = some v) : Sat n env' a :=
  ⟨h.1, h.2.1, fun k v hk => h.2.2 k v (he k v hk)⟩
/-- .. as a look that reckons. -/
def sub (env : Env) : Env → Prop
  | [] => True
  | (i, v) :: r => get env i = some v ∧ sub env r
theorem Sat.sub {n : Nat} {env env' : Env} {a : Act} (h : Sat n env a) (he : Go.S.sub env env') : Sat n env' a := by
  refine h.weak ?_
  induction env' with
  | nil => intro k v hk; simp [get] at hk
  | cons x r ih =>
    obtain ⟨i, u⟩ := x
    intro k v hk
    by_cases e : i = k
    · subst e
      simp [get] at hk
      subst hk
      exact he.1
    · have : Nat.beq i k = false := beqF e
      simp only [get, this, cond_false] at hk
      exact ih he.2 k v hk

/-! ### operations without their edges -/
structure SOp where
  dst : Option Nat
  op : Op
  ty : TypeId
  g : Option (Option Nat × Bool)

def SOp.oper (o : SOp) : Oper := ⟨o.dst, o.op, o.ty, "", #[], none⟩
def core (l : List Oper) (o : Oper) : SOp := ⟨o.dst, o.op, o.type, o.guard.map fun (j, b) => ((l[j]?).bind (·.dst), b)⟩

def wantedS (g : Option (Option Nat × Bool)) (a : Act) : Bool :=
  match g with
  | none => true
  | some (d, want) => (match d with
    | some t => (match a.tmps[t]? with | some (.bool b) => some b | _ => none)
    | none => none) == some want

theorem wanted_core {l : List Oper} {o : Oper} {a : Act} : wantedS (core l o).g a = Region.wanted o (yielded l.toArray a.tmps) := by
  unfold core wantedS Region.wanted
  cases hg : o.guard with
  | none => rfl
  | some gw =>
    obtain ⟨j, want⟩ := gw
    simp only [Option.map_some]
    congr 1
    unfold yielded
    simp only [List.getElem?_toArray]
    cases (l[j]?).bind (·.dst) with
    | none => rfl
    | some t => rfl

/-- What a read hands back in a world: nothing has turned. -/
def yl (P : Program) (o : SOp) (v : Value) (a : Act) (w : World) : Prop :=
  if wantedS o.g a then (execOp a.eval o.oper).run P w = .ok (.value v) w ∨ ((execOp a.eval o.oper).run P w = .ok .skip w ∧ v = undef) else v = undef

def fl (P : Program) (C : Heap → Prop) (Q : Exit → Act → World → Prop) : List (SOp × Nat) → Act → World → Prop
  | [], a, w => Q .normal a w
  | (o, 0) :: r, a, w => ∃ v, yl P o v a w ∧ fl P C Q r (a.put o.dst v) w
  | (o, 1) :: r, a, w => ∃ v, (if wantedS o.g a then ∀ W : World, C W.heap → (execOp a.eval o.oper).run P W = .ok (.value v) W else v = undef) ∧ fl P C Q r (a.put o.dst v) w
  | (o, k + 2) :: r, a, w =>
    if wantedS o.g a then o.oper.wp P a w (fun a' w' => CC k C w'.heap ∧ a'.defers = a.defers ∧ fl P C Q r a' w') (inside Q)
    else CC k C w.heap ∧ fl P C Q r (a.put o.dst undef) w

theorem exec_core (l : List Oper) (o : Oper) (ρ : Operand → Value) : execOp ρ (core l o).oper = execOp ρ o := rfl

def pick (l : List Oper) (i : Nat) : SOp := core l (l.getD i default)

theorem cc {C : Heap → Prop} {k : Nat} {w : World} (h : CC k C w.heap) : CC k (fun W : World => C W.heap) w := by cases k <;> exact h
theorem fl_flow {P : Program} {C : Heap → Prop} {Q : Exit → Act → World → Prop} {l : List Oper} : ∀ (s : List (Nat × Nat)) (a : Act) (w : World), (∀ x ∈ s, x.1 < l.length) →
    fl P C Q (s.map fun x => (pick l x.1, x.2)) a w → flow P l.toArray (fun W => C W.heap) Q s a w := by
  intro s
  induction s with
  | nil => intro a w _ h; exact h
  | cons x s ih =>
    intro a w hb h
    obtain ⟨i, k⟩ := x
    have hi : i < l.length := hb (i, k) (List.mem_cons_self ..)
    have hb' : ∀ x ∈ s, x.1 < l.length := fun y hy => hb y (List.mem_cons_of_mem _ hy)
    have ho : l.toArray[i]? = some l[i] := by simp [hi]
    have hp : pick l i = core l l[i] := by simp [pick, hi]
    have hd : dstOf l.toArray i = l[i].dst := by simp [dstOf, hi]
    match k, h with
    | 0, h =>
      simp only [List.map_cons, fl, hp] at h
      obtain ⟨v, hy, hk⟩ := h
      simp only [flow]
      refine YieldsAt.stOp (v := v) ho ?_ (ih _ _ hb' hk)
      unfold yl at hy
      rw [wanted_core, exec_core] at hy
      unfold YieldsAt
      by_cases hw : Region.wanted l[i] (yielded l.toArray a.tmps) = true
      · simp only [hw, if_true] at hy
        exact .inl ⟨hw, hy.elim .inl (fun h => .inr (.inl h))⟩
      · simp only [hw] at hy
        exact .inr ⟨by simpa using hw, hy⟩
    | 1, h =>
      simp only [List.map_cons, fl, hp] at h
      obtain ⟨v, hy, hk⟩ := h
      simp only [flow]
      refine ⟨v, fun o h' => ?_, by rw [hd]; exact ih _ _ hb' hk⟩
      rw [ho] at h'
      have := Option.some.inj h'
      subst this
      unfold sure
      by_cases hw : Region.wanted l[i] (yielded l.toArray a.tmps) = true
      · rw [if_pos hw]
        rw [wanted_core, if_pos hw] at hy
        intro W hW
        have := hy W hW
        rw [exec_core] at this
        rw [this]; exact ⟨rfl, rfl⟩
      · rw [if_neg hw]
        rw [wanted_core, if_neg hw] at hy
        exact hy
    | k + 2, h =>
      simp only [List.map_cons, fl, hp] at h
      simp only [flow, wpOp, ho]
      rw [wanted_core] at h
      by_cases hw : Region.wanted l[i] (yielded l.toArray a.tmps) = true
      · simp only [hw, if_true] at h ⊢
        left
        unfold Oper.wp at h ⊢
        rw [exec_core] at h
        generalize (execOp a.eval l[i]).run P w = res at h ⊢
        cases res with
        | ok n w' =>
          cases n <;> simp only [Oper.upon] at h ⊢
          case value v => exact ⟨cc h.1, h.2.1, ih _ _ hb' h.2.2⟩
          case skip => exact ⟨cc h.1, h.2.1, ih _ _ hb' h.2.2⟩
          case defer d => exact ⟨cc h.1, h.2.1, ih _ _ hb' h.2.2⟩
          case enter f args =>
            refine h.mono fun e w'' he => ?_
            cases e with
            | returned v => exact ⟨cc he.1, he.2.1, ih _ _ hb' he.2.2⟩
            | panicked c => exact he
            | outgrown => exact he
          case row row args => exact h.mono fun v w'' he => ⟨cc he.1, he.2.1, ih _ _ hb' he.2.2⟩
        | halt x w' => cases x <;> simp only [Oper.upon] at h ⊢ <;> exact h
      · rw [if_neg hw] at h ⊢
        exact ⟨cc h.1, put_def _ _ _, ih _ _ hb' h.2⟩

theorem fl_list {P : Program} {Q : Exit → Act → World → Prop} {l : List Oper} : ∀ (m : List Oper) (a : Act) (w : World),
    fl P (fun _ => True) Q (m.map fun o => (core l o, 3)) a w → wpList P l.toArray Q m a w := by
  intro m
  induction m with
  | nil => intro a w h; exact h
  | cons o m ih =>
    intro a w h
    simp only [List.map_cons, fl] at h
    simp only [wpList]
    rw [wanted_core] at h
    by_cases hw : Region.wanted o (yielded l.toArray a.tmps) = true
    · rw [if_pos hw] at h ⊢
      left
      unfold Oper.wp at h ⊢
      rw [exec_core] at h
      generalize (execOp a.eval o).run P w = res at h ⊢
      cases res with
      | ok n w' =>
        cases n <;> simp only [Oper.upon] at h ⊢
        case value v => exact ih _ _ h.2.2
        case skip => exact ih _ _ h.2.2
        case defer d => exact ih _ _ h.2.2
        case enter f args =>
          refine h.mono fun e w'' he => ?_
          cases e with
          | returned v => exact ih _ _ he.2.2
          | panicked c => exact he a rfl
          | outgrown => obtain ⟨b, u, hq⟩ := he; exact ⟨b, u, hq⟩
        case row row args => exact h.mono fun v w'' he => ih _ _ he.2.2
      | halt x w' =>
        cases x <;> simp only [Oper.upon] at h ⊢
        case panic v => exact h a rfl
    · rw [if_neg hw] at h ⊢
      exact ih _ _ h.2

/-! ### the judgements -/
def At (Q : Exit → Act → Heap → Prop) (e : Exit) (n : Nat) (env : Env) (H : Heap) : Prop := ∀ a, Sat n env a → Q e a H

def up (w0 : World) (Q : Exit → Act → Heap → Prop) : Exit → Act → World → Prop := fun e a w => Sim w0 w ∧ Q e a w.heap

def WC (P : Program) (c : Code) (Q : Exit → Act → Heap → Prop) (n : Nat) (env : Env) (H : Heap) : Prop :=
  ∀ a w0 w, Sat n env a → Sim w0 w → w.heap = H → c.wp P (up w0 Q) a w

def WF (P : Program) (C : Heap → Prop) (todo : List (SOp × Nat)) (Q : Exit → Act → Heap → Prop) (n : Nat) (env : Env) (H : Heap) : Prop :=
  ∀ a w0 w, Sat n env a → Sim w0 w → w.heap = H → fl P C (up w0 Q) todo a w

def FC (P : Program) (f : FuncId) (args : Array Value) (H : Heap) (R : Ending → Heap → Prop) : Prop :=
  ∀ w : World, w.heap = H → Calls P f args w fun e w' => Sim w w' ∧ R e w'.heap

section
variable {P : Program} {C : Heap → Prop} {Q : Exit → Act → Heap → Prop} {n : Nat} {env : Env} {H : Heap}

theorem FC.mono {f : FuncId} {args : Array Value} {R R' : Ending → Heap → Prop} (h : FC P f args H R) (hr : ∀ e H', R e H' → R' e H') : FC P f args H R' :=
  fun w hw => (h w hw).mono fun e w' ⟨h1, h2⟩ => ⟨h1, hr _ _ h2⟩

def thn (P : Program) (y : Code) (Q : Exit → Act → Heap → Prop) : Exit → Act → Heap → Prop
  | .normal, a, H => ∀ w0 w, Sim w0 w → w.heap = H → y.wp P (up w0 Q) a w
  | e, a, H => Q e a H
def inB (id : Nat) (Q : Exit → Act → Heap → Prop) : Exit → Act → Heap → Prop
  | .exit id', a, H => if id' = id then Q .normal a H else Q (.exit id') a H
  | e, a, H => Q e a H

theorem wc_seq {x y : Code} (h : WC P x (thn P y Q) n env H) : WC P (.seq x y) Q n env H := by
  intro a w0 w ha hs hw
  refine wp_seq (wp_mono (h a w0 w ha hs hw) ?_)
  rintro e a' w' ⟨h1, h2⟩
  cases e with
  | normal => exact h2 w0 w' h1 rfl
  | _ => exact ⟨h1, h2⟩
theorem wc_block {id : Nat} {c : Code} (h : WC P c (inB id Q) n env H) : WC P (.block id c) Q n env H := by
  intro a w0 w ha hs hw
  refine wp_block (wp_mono (h a w0 w ha hs hw) ?_)
  rintro e a' w' ⟨h1, h2⟩
  cases e with
  | exit id' =>
    simp only [Exit.inBlock]
    simp only [inB] at h2
    split <;> rename_i he
    · rw [if_pos he] at h2; exact ⟨h1, h2⟩
    · rw [if_neg he] at h2; exact ⟨h1, h2⟩
  | _ => exact ⟨h1, h2⟩
theorem wc_skip (h : At Q .normal n env H) : WC P .skip Q n env H := fun a _ _ ha hs hw => wp_skip ⟨hs, hw ▸ h a ha⟩
theorem wc_exit {id : Nat} (h : At Q (.exit id) n env H) : WC P (.exit id) Q n env H := fun a _ _ ha hs hw => wp_exit ⟨hs, hw ▸ h a ha⟩
theorem wc_ret (h : At Q .ret n env H) : WC P .ret Q n env H := fun a _ _ ha hs hw => wp_ret ⟨hs, hw ▸ h a ha⟩
theorem wc_cond {c : Operand} {x y : Code} {t : Bool} (hc : opnd env c = some (.bool t)) (h1 : t = true → WC P x Q n env H) (h2 : t = false → WC P y Q n env H) :
    WC P (.cond c x y) Q n env H :=
  fun a w0 w ha hs hw => wp_cond_split (ha.eval hc) (fun e => h1 e a w0 w ha hs hw) (fun e => h2 e a w0 w ha hs hw)
theorem wc_yes {c : Operand} {x y : Code} (hc : opnd env c = some (.bool true)) (h : WC P x Q n env H) : WC P (.cond c x y) Q n env H :=
  wc_cond hc (fun _ => h) (fun e => by cases e)
theorem wc_no {c : Operand} {x y : Code} (hc : opnd env c = some (.bool false)) (h : WC P y Q n env H) : WC P (.cond c x y) Q n env H :=
  wc_cond hc (fun e => by cases e) (fun _ => h)

theorem at_thn {y : Code} (h : WC P y Q n env H) : At (thn P y Q) .normal n env H := fun a ha w0 w hs hw => h a w0 w ha hs hw
theorem at_thn_ret {y : Code} (h : At Q .ret n env H) : At (thn P y Q) .ret n env H := h
theorem at_thn_exit {y : Code} {k : Nat} (h : At Q (.exit k) n env H) : At (thn P y Q) (.exit k) n env H := h
theorem at_thn_panic {y : Code} {c : List PanicEntry} (h : At Q (.panic c) n env H) : At (thn P y Q) (.panic c) n env H := h
theorem at_inB {id : Nat} (h : At Q .normal n env H) : At (inB id Q) .normal n env H := h
theorem at_inB_ret {id : Nat} (h : At Q .ret n env H) : At (inB id Q) .ret n env H := h
theorem at_inB_panic {id : Nat} {c : List PanicEntry} (h : At Q (.panic c) n env H) : At (inB id Q) (.panic c) n env H := h
theorem at_inB_out {id : Nat} (h : At Q .normal n env H) : At (inB id Q) (.exit id) n env H := fun a ha => by simp only [inB, if_true]; exact h a ha
theorem at_inB_exit {id k : Nat} (hne : Nat.beq k id = false) (h : At Q (.exit k) n env H) : At (inB id Q) (.exit k) n env H := fun a ha => by
  have : k ≠ id := fun e => by subst e; simp at hne
  simp only [inB, if_neg this]; exact h a ha

/-- A loop: its heads' states, told by ghosts. -/
def lp {ι : Type} (E : ι → Env) (I : ι → Heap → Prop) (μ : ι → Nat) (i : ι) (n : Nat) (Q : Exit → Act → Heap → Prop) : Exit → Act → Heap → Prop
  | .normal, a, H => ∃ j, μ j < μ i ∧ Sat n (E j) a ∧ I j H
  | e, a, H => Q e a H
theorem wc_loop {ι : Type} {body : Code} (E : ι → Env) (I : ι → Heap → Prop) (μ : ι → Nat) (i : ι) (h0 : sub env (E i)) (hI : I i H)
    (round : ∀ j H', I j H' → WC P body (lp E I μ j n Q) n (E j) H') : WC P (.loop body) Q n env H := by
  have key : ∀ m j a w0 w, μ j = m → Sat n (E j) a → Sim w0 w → I j w.heap → ∀ (b : Frame) (k : List Item) (cs : List Frame), ∃ e a' w', up w0 Q e a' w' ∧ Arrives P (lone (b.at a (.code body :: .inLoop body :: k)) cs w) b k cs e a' w' := by
    intro m
    induction m using Nat.strongRecOn with
    | _ m ih =>
      intro j a w0 w hm ha hs hI b k cs
      obtain ⟨e, a₁, w₁, ⟨hs1, hq⟩, harr⟩ := round j w.heap hI a w0 w ha hs rfl b (.inLoop body :: k) cs
      cases e with
      | normal =>
        obtain ⟨j', hlt, ha', hI'⟩ := hq
        obtain ⟨e₂, a₂, w₂, hq₂, harr₂⟩ := ih (μ j') (hm ▸ hlt) j' a₁ w0 w₁ rfl ha' hs1 hI' b k cs
        exact ⟨e₂, a₂, w₂, hq₂, .of_steps (Steps.trans harr (.one step_inLoop)) harr₂⟩
      | exit id => exact ⟨_, a₁, w₁, ⟨hs1, hq⟩, .pass (x := .inLoop body) rfl (fun _ _ => .inl (by simp)) harr⟩
      | goto l => exact ⟨_, a₁, w₁, ⟨hs1, hq⟩, .pass (x := .inLoop body) rfl (fun _ _ => .inl (by simp)) harr⟩
      | ret => exact ⟨_, a₁, w₁, ⟨hs1, hq⟩, .pass (x := .inLoop body) rfl (fun _ _ => .inl (by simp)) harr⟩
      | panic ch => exact ⟨_, a₁, w₁, ⟨hs1, hq⟩, .pass (x := .inLoop body) rfl (fun _ _ => .inl (by simp)) harr⟩
      | outgrown => exact ⟨_, a₁, w₁, ⟨hs1, hq⟩, .pass (x := .inLoop body) rfl (fun _ _ => .inl (by simp)) harr⟩
  intro a w0 w ha hs hw b k cs
  obtain ⟨e, a', w', q, r⟩ := key _ i a w0 w rfl (ha.sub h0) hs (hw ▸ hI) b k cs
  exact ⟨e, a', w', q, .of_steps (.one step_loop) r⟩
theorem at_lp {ι : Type} {E : ι → Env} {I : ι → Heap → Prop} {μ : ι → Nat} {i : ι} (j : ι) (hμ : μ j < μ i) (hs : sub env (E j)) (hI : I j H) : At (lp E I μ i n Q) .normal n env H :=
  fun _ ha => ⟨j, hμ, ha.sub hs, hI⟩
theorem at_lp_ret {ι : Type} {E : ι → Env} {I : ι → Heap → Prop} {μ : ι → Nat} {i : ι} (h : At Q .ret n env H) : At (lp E I μ i n Q) .ret n env H := h
theorem at_lp_exit {ι : Type} {E : ι → Env} {I : ι → Heap → Prop} {μ : ι → Nat} {i : ι} {k : Nat} (h : At Q (.exit k) n env H) : At (lp E I μ i n Q) (.exit k) n env H := h
theorem at_lp_panic {ι : Type} {E : ι → Env} {I : ι → Heap → Prop} {μ : ι → Nat} {i : ι} {c : List PanicEntry} (h : At Q (.panic c) n env H) : At (lp E I μ i n Q) (.panic c) n env H := h

/-! ### regions -/
theorem wc_plain {id : Nat} {l : List Oper} (h : WF P (fun _ => True) (l.map fun o => (core l o, 3)) Q n env H) : WC P (.region id l.toArray false) Q n env H :=
  fun a w0 w ha hs hw => wp_region_lit (fl_list l a w (h a w0 w ha hs hw))
theorem wc_drawn {id : Nat} {l : List Oper} (s : List (Nat × Nat)) (C : Heap → Prop) (hm : P.follows .mixedOrders = true) (hB : chk l.toArray s = true) (hC : C H)
    (h : WF P C (s.map fun x => (pick l x.1, x.2)) Q n env H) : WC P (.region id l.toArray true) Q n env H := by
  intro a w0 w ha hs hw
  have g := chk_good hB
  refine wp_region_flow s (fun W => C W.heap) hm hB (by rw [show ({ w with drawn := w.drawn + 1 } : World).heap = w.heap from rfl, hw]; exact hC) ?_
  refine fl_flow s a _ (fun x hx => by have := (g.all x.1).2 (List.mem_map.2 ⟨x, hx, rfl⟩); simpa using this) ?_
  exact h a w0 _ ha ⟨hs.os, hs.tape, hs.output⟩ hw

theorem wf_nil (h : At Q .normal n env H) : WF P C [] Q n env H := fun a _ _ ha hs hw => ⟨hs, hw ▸ h a ha⟩

/-- What a read hands back: in every world with that heap. -/
def RD (P : Program) (o : SOp) (n : Nat) (env : Env) (H : Heap) (v : Value) : Prop :=
  ∀ a (w : World), Sat n env a → w.heap = H → (execOp a.eval o.oper).run P w = .ok (.value v) w

def gd (g : Option (Option Nat × Bool)) (env : Env) : Option Bool :=
  match g with
  | none => some true
  | some (d, want) => match d.bind (get env) with
    | some (.bool b) => some (b == want)
    | some _ => some false
    | none => none
theorem gd_wanted {g : Option (Option Nat × Bool)} {b : Bool} {a : Act} (ha : Sat n env a) (h : gd g env = some b) : wantedS g a = b := by
  unfold gd at h
  unfold wantedS
  cases g with
  | none => simpa using h
  | some x =>
    obtain ⟨d, want⟩ := x
    cases d with
    | none => simp at h
    | some t =>
      simp only [Option.bind_some] at h
      split at h
      · rename_i c hc
        simp only [ha.2.2 t _ hc]
        simpa using h
      · rename_i v hn hc
        have hb : false = b := Option.some.inj h
        subst hb
        simp only [ha.2.2 t _ hc]
        cases v <;> first | rfl | exact absurd rfl (hn _)
      · cases h

def putE (d : Option Nat) (v : Value) (env : Env) : Env := match d with | some d => (d, v) :: env | none => env
def okD (d : Option Nat) (n : Nat) : Bool := match d with | some d => Nat.blt d n | none => true
theorem Sat.putE {a : Act} {d : Option Nat} (ha : Sat n env a) (v : Value) (hd : okD d n = true) : Sat n (Go.S.putE d v env) (a.put d v) := by
  cases d with
  | none => exact ha
  | some d => exact ha.put v (by simp [okD, Nat.blt] at hd; omega)

def kr : Nat → Bool
  | 0 => true
  | 1 | 2 => false
  | _ + 3 => true
theorem wf_rd {o : SOp} {k : Nat} {r : List (SOp × Nat)} (v : Value) (hg : gd o.g env = some true) (hd : okD o.dst n = true) (hv : RD P o n env H v) (hk : kr k = true)
    (h : WF P C r Q n (putE o.dst v env) H) : WF P C ((o, k) :: r) Q n env H := by
  intro a w0 w ha hs hw
  have hrun := hv a w ha hw
  have hwant := gd_wanted ha hg
  have hnext := h (a.put o.dst v) w0 w (ha.putE v hd) hs hw
  match k, hk with
  | 0, _ => exact ⟨v, by unfold yl; rw [if_pos hwant]; exact .inl hrun, hnext⟩
  | k + 3, _ =>
    simp only [fl, hwant, if_true, Oper.wp, hrun, Oper.upon]
    exact ⟨trivial, put_def _ _ _, hnext⟩
theorem wf_su {o : SOp} {r : List (SOp × Nat)} (v : Value) (hg : gd o.g env = some true) (hd : okD o.dst n = true) (hv : ∀ H', C H' → RD P o n env H' v)
    (h : WF P C r Q n (putE o.dst v env) H) : WF P C ((o, 1) :: r) Q n env H := by
  intro a w0 w ha hs hw
  exact ⟨v, by rw [if_pos (gd_wanted ha hg)]; exact fun W hW => hv _ hW a W ha rfl, h (a.put o.dst v) w0 w (ha.putE v hd) hs hw⟩
theorem wf_not {o : SOp} {k : Nat} {r : List (SOp × Nat)} (hg : gd o.g env = some false) (hd : okD o.dst n = true) (hk : Nat.beq k 2 = false) (h : WF P C r Q n (putE o.dst undef env) H) : WF P C ((o, k) :: r) Q n env H := by
  intro a w0 w ha hs hw
  have hwant := gd_wanted ha hg
  have hnext := h (a.put o.dst undef) w0 w (ha.putE undef hd) hs hw
  match k, hk with
  | 0, _ => exact ⟨undef, by unfold yl; rw [if_neg (by simp [hwant])], hnext⟩
  | 1, _ => exact ⟨undef, by rw [if_neg (by simp [hwant])], hnext⟩
  | k + 3, _ => simp only [fl, hwant]; exact ⟨trivial, hnext⟩
theorem wf_notE {o : SOp} {k : Nat} {r : List (SOp × Nat)} (hg : gd o.g env = some false) (hd : okD o.dst n = true) (hC : CC k C H) (h : WF P C r Q n (putE o.dst undef env) H) : WF P C ((o, k + 2) :: r) Q n env H := by
  intro a w0 w ha hs hw
  have hwant := gd_wanted ha hg
  have hnext := h (a.put o.dst undef) w0 w (ha.putE undef hd) hs hw
  simp only [fl, hwant]
  exact ⟨hw ▸ hC, hnext⟩

/-- What an effect does: it ends with a value and a heap, or it panics. -/
def EF (P : Program) (o : SOp) (n : Nat) (env : Env) (H : Heap) (K : Value → Heap → Prop) (X : List PanicEntry → Heap → Prop) : Prop :=
  ∀ a w0 (w : World), Sat n env a → Sim w0 w → w.heap = H → o.oper.wp P a w (fun a' w' => ∃ v, a' = a.put o.dst v ∧ Sim w0 w' ∧ K v w'.heap)
    (fun (e : Exit) (_ : Act) (w' : World) => match e with | .panic c => Sim w0 w' ∧ X c w'.heap | _ => False)

theorem wf_ef {o : SOp} {k : Nat} {r : List (SOp × Nat)} {K : Value → Heap → Prop} {X : List PanicEntry → Heap → Prop} (hg : gd o.g env = some true) (hd : okD o.dst n = true) (he : EF P o n env H K X)
    (hx : ∀ c H', X c H' → ∀ a : Act, a.defers = [] → Q (.panic c) a H')
    (h : ∀ v H', K v H' → CC k C H' ∧ WF P C r Q n (putE o.dst v env) H') : WF P C ((o, k + 2) :: r) Q n env H := by
  intro a w0 w ha hs hw
  have hwant := gd_wanted ha hg
  have := he a w0 w ha hs hw
  simp only [fl, hwant, if_true]
  unfold Oper.wp at this ⊢
  generalize (execOp a.eval o.oper).run P w = res at this ⊢
  have key : ∀ a' w', (∃ v, a' = a.put o.dst v ∧ Sim w0 w' ∧ K v w'.heap) → CC k C w'.heap ∧ a'.defers = a.defers ∧ fl P C (up w0 Q) r a' w' := by
    rintro a' w' ⟨v, rfl, h1, h2⟩
    obtain ⟨h3, h4⟩ := h v _ h2
    exact ⟨h3, put_def _ _ _, h4 _ w0 w' (ha.putE v hd) h1 rfl⟩
  have keyx : ∀ (c : List PanicEntry) (w' : World), (Sim w0 w' ∧ X c w'.heap) → ∀ b : Act, b.defers = a.defers → up w0 Q (.panic c) b w' := by
    rintro c w' ⟨h3, h4⟩ b hb
    exact ⟨h3, hx c _ h4 b (by rw [hb, ha.2.1])⟩
  cases res with
  | ok m w' =>
    cases m <;> simp only [Oper.upon] at this ⊢
    case value v => exact key _ _ this
    case skip => exact key _ _ this
    case defer d => exact key _ _ this
    case enter f args =>
      refine this.mono fun e w'' he => ?_
      cases e with
      | returned v => exact key _ _ he
      | panicked c => exact keyx c w'' he
      | outgrown => obtain ⟨_, _, hq⟩ := he; exact hq.elim
    case row row args => exact this.mono fun v w'' he => key _ _ he
  | halt x w' =>
    cases x <;> simp only [Oper.upon] at this ⊢
    case panic v => exact keyx _ w' this

/-! ### a function -/
def post (P : Program) (fn : Func) (R : Ending → Heap → Prop) : Exit → Act → Heap → Prop
  | .normal, a, H | .ret, a, H => a.defers = [] ∧ ∃ v, (∀ w : World, w.heap = H → (results fn a.tmps).run P w = .ok v w) ∧ R (.returned v) H
  | .panic c, a, H => a.defers = [] ∧ R (.panicked c) H
  | _, _, _ => False

def env0 : List Value → Nat → Env
  | [], _ => []
  | v :: r, i => (i, v) :: env0 r (i + 1)
theorem get_env0 : ∀ (l : List Value) (i k : Nat) (v : Value), get (env0 l i) k = some v → i ≤ k ∧ l[k - i]? = some v := by
  intro l
  induction l with
  | nil => intro i k v h; simp [env0, get] at h
  | cons x l ih =>
    intro i k v h
    by_cases e : i = k
    · subst e
      simp [env0, get] at h
      simp [h]
    · simp only [env0, get, beqF e, cond_false] at h
      obtain ⟨h1, h2⟩ := ih (i + 1) k v h
      refine ⟨by omega, ?_⟩
      have : k - i = (k - (i + 1)) + 1 := by omega
      rw [this]
      simpa using h2

theorem fc_intro {f : FuncId} {fn : Func} {c : Code} {args : List Value} {R : Ending → Heap → Prop} (n : Nat) (hf : P.funcs[f]? = some fn) (hb : fn.body = some c) (hn : fn.ntmps = n) (hs : Nat.ble args.length n = true)
    (h : WC P c (post P fn R) n (env0 args 0) H) : FC P f args.toArray H R := by
  intro w hw
  have hle : args.length ≤ n := Nat.le_of_ble_eq_true hs
  refine calls_of_wp hf hb (wp_mono (h _ w w ⟨by simp [hn]; omega, rfl, fun k v hk => ?_⟩ (Sim.refl w) hw) ?_)
  · obtain ⟨_, h2⟩ := get_env0 args 0 k v hk
    have h3 : args[k]? = some v := by simpa using h2
    have hlt : k < args.length := by
      rcases Nat.lt_or_ge k args.length with h | h
      · exact h
      · rw [List.getElem?_eq_none h] at h3; cases h3
    have h4 : args[k] = v := by simpa [hlt] using h3
    simp [Array.getElem?_append, hlt, h4]
  · rintro e a' w' ⟨h1, h2⟩
    cases e with
    | normal =>
      obtain ⟨h3, v, h4, h5⟩ := h2
      exact ⟨h3, v, h4 w' rfl, h1, h5⟩
    | ret =>
      obtain ⟨h3, v, h4, h5⟩ := h2
      exact ⟨h3, v, h4 w' rfl, h1, h5⟩
    | panic c => exact ⟨h2.1, h1, h2.2⟩
    | exit id => exact h2
    | goto l => exact h2
    | outgrown => exact h2.elim

def LD (P : Program) (H : Heap) (t : TypeId) (p : Addr) (v : Value) : Prop := ∀ w : World, w.heap = H → (loadVar t p).run P w = .ok v w

def ResV (P : Program) (env : Env) (H : Heap) : ResultVar → Value → Prop
  | .tmp t, v => get env t = some v
  | .cell t ty, v => ∃ p, get env t = some (.pointer (some p)) ∧ LD P H ty p v

theorem resV_tmp {a : Act} {t : Nat} {v : Value} (ha : Sat n env a) (h : ResV P env H (.tmp t) v) : a.tmps.getD t undef = v := by
  have := ha.2.2 t v h; simp [this]
theorem resV_cell {a : Act} {w : World} {t : Nat} {ty : TypeId} {v : Value} (ha : Sat n env a) (hw : w.heap = H) (h : ResV P env H (.cell t ty) v) :
    ∃ p, a.tmps.getD t undef = .pointer (some p) ∧ (loadVar ty p).run P w = .ok v w := by
  obtain ⟨p, hp, hl⟩ := h
  have := ha.2.2 t _ hp
  exact ⟨p, by simp [this], hl w hw⟩

theorem at_norm {fn : Func} {R : Ending → Heap → Prop} (h : At (post P fn R) .ret n env H) : At (post P fn R) .normal n env H := h
theorem at_ret0 {fn : Func} {R : Ending → Heap → Prop} (hr : fn.results = #[]) (hR : R (.returned (.tuple #[])) H) : At (post P fn R) .ret n env H := by
  intro a ha
  exact ⟨ha.2.1, _, fun w hw => results_none hr _ _ _, hR⟩
theorem at_ret1 {fn : Func} {R : Ending → Heap → Prop} {r0 : ResultVar} {v0 : Value} (hr : fn.results = #[r0]) (h0 : ResV P env H r0 v0) (hR : R (.returned v0) H) : At (post P fn R) .ret n env H := by
  intro a ha
  refine ⟨ha.2.1, v0, fun w hw => ?_, hR⟩
  cases r0 with
  | tmp t => rw [results_tmp hr, resV_tmp ha h0]
  | cell t ty =>
    obtain ⟨p, h1, h2⟩ := resV_cell ha hw h0
    simp only [results, hr]
    simp only [Array.getD_eq_getD_getElem?] at h1
    simp [Sem.run_bind, Result.andThen, h1, h2, asAddr]
theorem at_ret2 {fn : Func} {R : Ending → Heap → Prop} {r0 r1 : ResultVar} {v0 v1 : Value} (hr : fn.results = #[r0, r1]) (h0 : ResV P env H r0 v0) (h1 : ResV P env H r1 v1) (hR : R (.returned (.tuple #[v0, v1])) H) :
    At (post P fn R) .ret n env H := by
  intro a ha
  refine ⟨ha.2.1, .tuple #[v0, v1], fun w hw => ?_, hR⟩
  cases r0 with
  | tmp t =>
    have k0 := resV_tmp ha h0
    simp only [Array.getD_eq_getD_getElem?] at k0
    cases r1 with
    | tmp u =>
      have k1 := resV_tmp ha h1
      simp only [Array.getD_eq_getD_getElem?] at k1
      simp only [results, hr]
      simp [Sem.run_bind, Result.andThen, k0, k1]
    | cell u ty =>
      obtain ⟨p, k1, k2⟩ := resV_cell ha hw h1
      simp only [Array.getD_eq_getD_getElem?] at k1
      simp only [results, hr]
      simp [Sem.run_bind, Result.andThen, k0, k1, k2, asAddr]
  | cell t ty =>
    obtain ⟨p, k0, k2⟩ := resV_cell ha hw h0
    simp only [Array.getD_eq_getD_getElem?] at k0
    cases r1 with
    | tmp u =>
      have k1 := resV_tmp ha h1
      simp only [Array.getD_eq_getD_getElem?] at k1
      simp only [results, hr]
      simp [Sem.run_bind, Result.andThen, k0, k1, k2, asAddr]
    | cell u ty' =>
      obtain ⟨p', k1, k3⟩ := resV_cell ha hw h1
      simp only [Array.getD_eq_getD_getElem?] at k1
      simp only [results, hr]
      simp [Sem.run_bind, Result.andThen, k0, k1, k2, k3, asAddr]
theorem at_ret3 {fn : Func} {R : Ending → Heap → Prop} {t0 t1 t2 : Nat} {v0 v1 v2 : Value} (hr : fn.results = #[.tmp t0, .tmp t1, .tmp t2]) (h0 : ResV P env H (.tmp t0) v0) (h1 : ResV P env H (.tmp t1) v1) (h2 : ResV P env H (.tmp t2) v2)
    (hR : R (.returned (.tuple #[v0, v1, v2])) H) : At (post P fn R) .ret n env H := by
  intro a ha
  exact ⟨ha.2.1, _, fun w hw => by rw [results_tmp3 hr, resV_tmp ha h0, resV_tmp ha h1, resV_tmp ha h2], hR⟩
end
end Go.S
