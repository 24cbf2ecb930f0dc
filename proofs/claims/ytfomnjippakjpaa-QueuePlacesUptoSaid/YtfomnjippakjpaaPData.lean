/-
  QueuePlaces: the Seqs that are inside, beside the queue's state.
-/
import Derived.Test.YtfomnjippakjpaaGoneW
import Derived.Test.YtfomnjippakjpaaMkSl
namespace Go.S
/-- One call of a script. -/
structure OD where
  kind : Int
  n : Int
  copy : CD
  conf : CF
  can : List Int
def RInts (H : Heap) (Z : Nat → Prop) (v : Value) (ks : List Int) : Prop := RSl H Z 1 (fun cs k => cs = [.int .i64 k]) v ks
def OD.cells (o : OD) (h t cv : Value) : List Value := .int .i64 o.kind :: .int .i64 o.n :: (o.copy.cells h t ++ (o.conf.cells ++ [cv]))
def RO (f : Nat) : Rel OD := fun H Z cs o => ∃ h t cv, cs = o.cells h t cv ∧ RC f H Z (o.copy.cells h t) o.copy ∧ RInts H Z cv o.can ∧ o.can.length ≤ lim
theorem RO.mono (f : Nat) : RMono (RO f) := by
  intro H Z H' Z' x d hH hZ h
  obtain ⟨hv, t, cv, h1, h2, h3, h4⟩ := h
  exact ⟨hv, t, cv, h1, RC.mono f _ _ _ _ _ _ hH hZ h2, RSl.mono h3 hH hZ (fun _ _ _ h => h), h4⟩
theorem CF.one (c : CF) : ∀ u ∈ c.cells, u.oneCell' = true := by
  intro u hu
  simp only [CF.cells, List.mem_cons, List.not_mem_nil, or_false] at hu
  rcases hu with rfl | rfl | rfl | rfl | rfl | rfl | rfl | rfl | rfl | rfl <;> rfl
theorem RO.one {f : Nat} {H : Heap} {Z : Nat → Prop} {x : List Value} {o : OD} (h : RO f H Z x o) : (∀ u ∈ x, u.oneCell' = true) ∧ x.length = 38 := by
  obtain ⟨hv, t, cv, rfl, h2, h3, _⟩ := h
  refine ⟨fun u hu => ?_, rfl⟩
  unfold OD.cells at hu
  rcases List.mem_cons.1 hu with rfl | hu
  · rfl
  rcases List.mem_cons.1 hu with rfl | hu
  · rfl
  rcases List.mem_append.1 hu with hu | hu
  · exact h2.one u hu
  rcases List.mem_append.1 hu with hu | hu
  · exact o.conf.one u hu
  · have : u = cv := by simpa using hu
    subst this; exact RSl.one h3
section
variable {P : Program} {n : Nat} {env : Env} {H : Heap} {d : Option Nat} {ty : TypeId} {g : Option (Option Nat × Bool)}
/-- What '&' makes of two numbers. -/
def andI (p q : Int) : Int := IntKind.i64.wrap ((BitVec.ofInt IntKind.i64.bits p &&& BitVec.ofInt IntKind.i64.bits q).toNat : Int)
theorem RD.and {xt yt : TypeId} {x y : Operand} {p q : Int} (hx : opnd env x = some (.int .i64 p)) (hy : opnd env y = some (.int .i64 q)) : RD P ⟨d, .binOp .and xt x y yt, ty, g⟩ n env H (.int .i64 (andI p q)) := fun a w ha _ => by
  simp [execOp, SOp.oper, ha.eval hx, ha.eval hy, eqGuard, binOp, Op.intBits, Sem.run_bind, Result.andThen, andI]
end
section
open Go.Flow (CC)
variable {P : Program} {C : Heap → Prop} {Q : Exit → Act → Heap → Prop} {n : Nat} {env : Env} {H : Heap} {d : Option Nat} {ty : TypeId} {g : Option (Option Nat × Bool)}
/-- A row is appended to a row. -/
theorem wf_appendO {t e k bytes m0 m : Nat} {kk : Nat} {z : Value} {x y : Operand} {v u : Value} {xs news : List Value} {r : List (SOp × Nat)} (hE : ElTy P t e k z bytes)
    (hx : opnd env x = some v) (hy : opnd env y = some u) (hown : Own H e k v m0 xs) (hu : Own H e k u m news) (h1 : ∀ u ∈ news, u.oneCell' = true) (h63 : m0 + m ≤ 9223372036854775807) (hby : (m0 + m) * bytes ≤ 140737488355328) (hg : gd g env = some true) (hd : okD d n = true) (hC : CC kk C H)
    (h : ∀ v' H', Own H' e k v' (m0 + m) (xs ++ news) → Grw H H' v.ownBlock → (v'.ownBlock = v.ownBlock ∨ v'.ownBlock = some H.size) → CC kk C H' ∧ WF P C r Q n (putE d v' env) H') :
    WF P C ((⟨d, .call ⟨.builtin .append, #[x, y], #[t, t]⟩, ty, g⟩, kk + 2) :: r) Q n env H := by
  have hl := hu.1
  rcases hu.2 with ⟨rfl, h0⟩ | ⟨b, cap, cur, rfl, _, h3, h4, h5, h6, h7⟩
  · subst h0
    have hn : news = [] := List.eq_nil_of_length_eq_zero (by rw [hl]; simp)
    subst hn
    exact wf_append0 hE hx hy hown hg hd hC (h v H (by simpa using hown) ⟨Nat.le_refl _, fun _ _ _ => rfl⟩ (.inl rfl)).2
  · exact wf_append (b := b) (off := 0) (ss := cur.toList) hE hx hy hown (by simpa using h3) (by rw [List.drop_zero]; exact h7) (by simp [h6]; exact Nat.mul_le_mul_right _ h4) h1 h63 hby hg hd h
end
end Go.S
namespace Go.Proofs.Ytfomnjippakjpaa
open Go.S
section
variable {f : Nat} {D D' : Nat → Obj → Prop} {H H' : Heap} {q : Nat} {A : AS}
/-- What is none of the queue's turns, and something new comes. -/
theorem Qu.turn (h : Qu f D H q A) (hf : Frm (fun b => ∃ o, D b o) H H') (hd : ∀ b o, D' b o → H'[b]? = some o ∧ ((∃ o', D b o') ∨ H.size ≤ b)) : Qu f D' H' q A := by
  obtain ⟨B, S, Y, e, h⟩ := h
  refine ⟨B, S, Y, e, { h with inv := h.inv.frm hf (fun b hb ⟨o, ho⟩ => hb.elim (h.d b o ho).2.1 (h.d b o ho).2.2), d := fun b o hb => ?_ }⟩
  obtain ⟨h1, h2⟩ := hd b o hb
  refine ⟨h1, ?_⟩
  rcases h2 with ⟨o', h2⟩ | h2
  · exact (h.d b o' h2).2
  · exact ⟨fun hm => absurd (h.inv.lt hm) (Nat.not_lt.2 h2), fun ⟨k, hz⟩ => absurd (h.inv.z k b hz).1 (Nat.not_lt.2 h2)⟩
theorem Qu.re (h : Qu f D H q A) (hd : ∀ b o, D' b o → H[b]? = some o ∧ ∃ o', D b o') : Qu f D' H q A :=
  h.turn (Frm.refl _ _) (fun b o hb => ⟨(hd b o hb).1, .inl (hd b o hb).2⟩)
end
/-- The memory that was, the list's variable and the list. -/
def DQ (H0 : Heap) (bi : Nat) (v : Value) (H : Heap) : Nat → Obj → Prop := fun b o => H0[b]? = some o ∨ ((b = bi ∨ v.ownBlock = some b) ∧ H[b]? = some o)
structure PS (f : Nat) (H0 : Heap) (q bi i : Nat) (H : Heap) (A : AS) (v : Value) (ins : List Int) : Prop where
  qu : Qu f (DQ H0 bi v H) H q A
  cell : H[bi]? = some (.cells [v].toArray 46 (0, 0))
  own : Own H 3 1 v ins.length (ins.map ik)
  perm : ins.Perm (A.L.map It.s ++ A.ou)
  few : ins.length ≤ i
  last : A.last ≤ i
  nbi : H0.size ≤ bi
  nv : ∀ g, v.ownBlock = some g → g ≠ bi ∧ H0.size ≤ g
  size : H0.size ≤ H.size
section
variable {f : Nat} {H0 : Heap} {q bi i : Nat} {H : Heap} {A : AS} {v : Value} {ins : List Int}
theorem PS.nod (h : PS f H0 q bi i H A v ins) : ins.Nodup := by
  have hF := h.qu.facts
  refine h.perm.nodup_iff.2 (List.nodup_append.2 ⟨hF.nod, hF.nodo, fun a ha b hb e => ?_⟩)
  obtain ⟨c, hc, rfl⟩ := List.mem_map.1 ha
  exact hF.dis c hc (e ▸ hb)
/-- What a call on the queue leaves alone. -/
theorem PS.kept (h : PS f H0 q bi i H A v ins) {H' : Heap} {A' : AS} (hq : Qu f (DQ H0 bi v H) H' q A') : H'[bi]? = some (.cells [v].toArray 46 (0, 0)) ∧ Own H' 3 1 v ins.length (ins.map ik) ∧ Qu f (DQ H0 bi v H') H' q A' := by
  have hc := hq.mem (.inr ⟨.inl rfl, h.cell⟩)
  have hv : ∀ g, v.ownBlock = some g → H'[g]? = H[g]? := fun g hg => by
    have hl := h.own.lt hg
    rw [Array.getElem?_eq_getElem hl]
    exact hq.mem (.inr ⟨.inr hg, Array.getElem?_eq_getElem hl⟩)
  refine ⟨hc, h.own.keep hv, hq.re (fun b o hb => ?_)⟩
  rcases hb with hb | ⟨hb, ho⟩
  · exact ⟨hq.mem (.inl hb), o, .inl hb⟩
  · refine ⟨ho, o, .inr ⟨hb, ?_⟩⟩
    rcases hb with rfl | hb
    · rw [hc] at ho; rw [h.cell]; exact ho
    · rw [← hv b hb]; exact ho
theorem PS.go (h : PS f H0 q bi i H A v ins) {H' : Heap} {A' : AS} (hq : Qu f (DQ H0 bi v H) H' q A') (hs : H.size ≤ H'.size) (hp : ins.Perm (A'.L.map It.s ++ A'.ou)) (hl : A'.last ≤ A.last) : PS f H0 q bi i H' A' v ins :=
  have hk := h.kept hq
  ⟨hk.2.2, hk.1, hk.2.1, hp, h.few, Int.le_trans hl h.last, h.nbi, h.nv, Nat.le_trans h.size hs⟩
theorem PS.ext (h : PS f H0 q bi i H A v ins) {H' : Heap} (hx : Ext H H') : PS f H0 q bi i H' A v ins := h.go (h.qu.ext hx) hx.size h.perm (Int.le_refl _)
theorem PS.more (h : PS f H0 q bi i H A v ins) : PS f H0 q bi (i + 1) H A v ins := { h with few := by have := h.few; omega, last := by have := h.last; omega }
/-- The list is another one. -/
theorem PS.put (h : PS f H0 q bi i H A v ins) {H' : Heap} {A' : AS} (hq : Qu f (DQ H0 bi v H') H' q A') {H2 : Heap} {v2 : Value} {ins2 : List Int} {j : Nat} (hs0 : H0.size ≤ H'.size) (hf : Frm (fun b => b = bi ∨ v.ownBlock = some b) H' H2) (hc : H2[bi]? = some (.cells [v2].toArray 46 (0, 0)))
    (ho : Own H2 3 1 v2 ins2.length (ins2.map ik)) (hv : ∀ g, v2.ownBlock = some g → v.ownBlock = some g ∨ H'.size ≤ g) (hb : bi < H'.size) (hin : ∀ g, v.ownBlock = some g → g < H'.size) (hp : ins2.Perm (A'.L.map It.s ++ A'.ou)) (hfew : ins2.length ≤ j) (hl : A'.last ≤ j) : PS f H0 q bi j H2 A' v2 ins2 := by
  have hd0 : ∀ b o, H0[b]? = some o → H'[b]? = some o ∧ ∃ o', DQ H0 bi v H' b o' := fun b o hb => ⟨hq.mem (.inl hb), o, .inl hb⟩
  have hn0 : ∀ b o, H0[b]? = some o → ¬ (b = bi ∨ v.ownBlock = some b) := fun b o hb e => by
    have h1 := lt_of hb
    rcases e with rfl | e
    · have := h.nbi; omega
    · have := (h.nv b e).2; omega
  refine ⟨hq.turn (hf.mono (fun b hb e => ⟨_, .inr ⟨e, Array.getElem?_eq_getElem hb⟩⟩)) ?_, hc, ho, hp, hfew, hl, h.nbi, fun g hg => ?_, Nat.le_trans hs0 hf.size⟩
  · rintro b o (hb' | ⟨hb', ho'⟩)
    · exact ⟨hf.keep (hd0 b o hb').1 (hn0 b o hb'), .inl ⟨o, .inl hb'⟩⟩
    · refine ⟨ho', ?_⟩
      rcases hb' with rfl | hb'
      · exact .inl ⟨_, .inr ⟨.inl rfl, Array.getElem?_eq_getElem hb⟩⟩
      · rcases hv b hb' with e | e
        · exact .inl ⟨_, .inr ⟨.inr e, Array.getElem?_eq_getElem (hin b e)⟩⟩
        · exact .inr e
  · rcases hv g hg with e | e
    · exact h.nv g e
    · exact ⟨by omega, by omega⟩
end
/-! ### the list's permutations -/
theorem perm_pop {a : It} {L : List It} {ins ou : List Int} (h : ins.Perm ((a :: L).map It.s ++ ou)) : ins.Perm (L.map It.s ++ (ou ++ [a.s])) := by
  refine h.trans ?_
  rw [List.map_cons, List.cons_append, ← List.append_assoc]
  exact (List.perm_append_singleton _ _).symm
theorem perm_push {a : It} {L : List It} {ins ou : List Int} (h : ins.Perm (L.map It.s ++ ou)) : (ins ++ [a.s]).Perm ((Go.S.ins a L).map It.s ++ ou) := by
  refine (List.perm_append_singleton _ _).trans ?_
  have h1 := (ins_perm a L).map It.s
  exact (h.cons a.s).trans ((h1.append_right ou).symm)
theorem perm_ret {k : Int} {p : Int} {L : List It} {ins ou : List Int} (h : ins.Perm (L.map It.s ++ ou)) (hk : k ∈ ou) : ins.Perm ((Go.S.ins ⟨p, k, 0⟩ L).map It.s ++ ou.erase k) := by
  have h1 := (ins_perm ⟨p, k, 0⟩ L).map It.s
  refine h.trans (List.Perm.trans ?_ (h1.append_right (ou.erase k)).symm)
  rw [List.map_cons, List.cons_append]
  have h2 := List.perm_cons_erase hk
  exact (List.Perm.append_left _ h2).trans List.perm_middle
theorem perm_one {k : Int} {X ins : List Int} (h : ins.Perm X) (hn : ins.Nodup) : (ins.filter (fun s => !([k] : List Int).contains s)).Perm (X.erase k) := by
  have hX := h.nodup_iff.1 hn
  rw [hX.erase_eq_filter]
  have : (fun s => !([k] : List Int).contains s) = (fun s => s != k) := by
    funext s; simp [List.contains_eq_mem, bne]
    by_cases e : s = k <;> simp [e]
  rw [this]
  exact h.filter _
theorem gins_all {ins ks : List Int} : gins ins ks ks.length = ins.filter (fun s => !ks.contains s) := by unfold gins; rw [List.take_length]
theorem perm_settle {k : Int} {L : List It} {ins ou : List Int} (h : ins.Perm (L.map It.s ++ ou)) (hn : ins.Nodup) (hk : k ∈ ou) : (gins ins [k] 1).Perm (L.map It.s ++ ou.erase k) := by
  have := perm_one (k := k) h hn
  rw [show gins ins [k] 1 = ins.filter (fun s => !([k] : List Int).contains s) from gins_all]
  refine this.trans ?_
  have hX := h.nodup_iff.1 hn
  have hnk : k ∉ L.map It.s := fun hm => (List.nodup_append.1 hX).2.2 k hm k hk rfl
  rw [List.erase_append_right _ hnk]
theorem perm_over {a : It} {L : List It} {ins ou : List Int} (h : ins.Perm ((a :: L).map It.s ++ ou)) (hn : ins.Nodup) : (gins ins [a.s] 1).Perm (L.map It.s ++ ou) := by
  have := perm_one (k := a.s) h hn
  rw [show gins ins [a.s] 1 = ins.filter (fun s => !([a.s] : List Int).contains s) from gins_all]
  refine this.trans ?_
  rw [List.map_cons, List.cons_append, List.erase_cons_head]
theorem perm_exp {L : List It} {ins ou : List Int} (p : It → Bool) (h : ins.Perm (L.map It.s ++ ou)) (hn : ins.Nodup) : (gins ins ((L.filter p).map It.s) ((L.filter p).map It.s).length).Perm ((L.filter (fun a => !p a)).map It.s ++ ou) := by
  rw [gins_all]
  refine (h.filter _).trans ?_
  have hX := List.nodup_append.1 (h.nodup_iff.1 hn)
  rw [List.filter_append]
  have e1 : (L.map It.s).filter (fun s => !((L.filter p).map It.s).contains s) = (L.filter (fun a => !p a)).map It.s := by
    rw [List.filter_map]
    congr 1
    refine List.filter_congr (fun a ha => ?_)
    simp only [Function.comp, List.contains_eq_mem]
    congr 1
    by_cases hp : p a = true
    · rw [hp]; exact decide_eq_true (List.mem_map_of_mem (List.mem_filter.2 ⟨ha, hp⟩))
    · have hp' : p a = false := by simpa using hp
      rw [hp']
      refine decide_eq_false (fun hm => ?_)
      obtain ⟨b, hb, e⟩ := List.mem_map.1 hm
      obtain ⟨hb1, hb2⟩ := List.mem_filter.1 hb
      have : b = a := by
        have h3 := List.pairwise_map.1 (List.nodup_iff_pairwise_ne.1 hX.1)
        obtain ⟨i, hi⟩ := List.getElem?_of_mem hb1
        obtain ⟨j, hj⟩ := List.getElem?_of_mem ha
        obtain ⟨hi', ei⟩ := List.getElem?_eq_some_iff.1 hi
        obtain ⟨hj', ej⟩ := List.getElem?_eq_some_iff.1 hj
        rcases Nat.lt_trichotomy i j with h4 | h4 | h4
        · have := List.pairwise_iff_getElem.1 h3 i j hi' hj' h4
          rw [ei, ej] at this; exact absurd e this
        · subst h4; exact ei.symm.trans ej
        · have := List.pairwise_iff_getElem.1 h3 j i hj' hi' h4
          rw [ei, ej] at this; exact absurd e.symm this
      subst this
      exact hp hb2
  have e2 : ou.filter (fun s => !((L.filter p).map It.s).contains s) = ou := by
    refine List.filter_eq_self.2 (fun s hs => ?_)
    simp only [List.contains_eq_mem, Bool.not_eq_true', decide_eq_false_iff_not]
    intro hm
    obtain ⟨b, hb, e⟩ := List.mem_map.1 hm
    exact hX.2.2 b.s (List.mem_map_of_mem (List.mem_filter.1 hb).1) s hs e
  rw [e1, e2]
/-- Rows of copies, told by their Seqs. -/
theorem own_rows {H : Heap} {r : Value} {es : List (List Value)} {ks : List Int} (ho : Own H 35 25 r ks.length es.flatten) (hn : es.length = ks.length) (hl : ∀ x ∈ es, x.length = 25)
    (hx : ∀ (i : Nat) (x : List Value) (k : Int), es[i]? = some x → ks[i]? = some k → x[0]? = some (.int .i64 k) ∧ ∀ u ∈ x, u.oneCell' = true) :
    ∃ p c, r = .slice p ks.length c ∧ ∀ (j : Nat) (k : Int), ks[j]? = some k → ∃ g cs x, p = some ⟨g, 0, none⟩ ∧ H[g]? = some (.cells (cs : List Value).toArray 35 (0, 0)) ∧ 0 + j * 25 + 25 ≤ cs.length ∧ (cs.drop (0 + j * 25)).take 25 = x ∧ x[0]? = some (.int .i64 k) ∧ (∀ u ∈ x, u.oneCell' = true) ∧ x.length = 25 := by
  rcases ho.2 with ⟨rfl, h0⟩ | ⟨g, cap, cur, rfl, _, h3, h4, h5, h6, h7⟩
  · refine ⟨none, 0, by rw [h0], fun j k hj => ?_⟩
    have := (List.getElem?_eq_some_iff.1 hj).1
    omega
  · refine ⟨_, _, rfl, fun j k hj => ?_⟩
    have hlt := (List.getElem?_eq_some_iff.1 hj).1
    have hxj := List.getElem?_eq_getElem (show j < es.length by omega)
    obtain ⟨h8, h9⟩ := hx j _ k hxj hj
    have h10 := flat_take es j _ hl hxj
    have hle : (j + 1) * 25 ≤ ks.length * 25 := Nat.mul_le_mul_right _ hlt
    have hcl : ks.length * 25 ≤ cur.toList.length := by simp [h6]; exact Nat.mul_le_mul_right _ h4
    refine ⟨g, cur.toList, es[j], rfl, by simpa using h3, by omega, ?_, h8, h9, hl _ (List.getElem_mem _)⟩
    rw [← h7] at h10
    rw [← h10, Nat.zero_add, List.drop_take, List.take_take]
    congr 1
    omega
theorem rc_fst {f : Nat} {H : Heap} {Z : Nat → Prop} {x : List Value} {d : CD} (h : RC f H Z x d) : x[0]? = some (.int .i64 d.seq) := by
  obtain ⟨_, _, rfl, _⟩ := h; rfl
theorem seqs_of {cp : Int → Option CD} {L : List It} {ds : List CD} (h : ds.map some = L.map (fun a => cp a.s)) (hc : ∀ a ∈ L, ∃ d, cp a.s = some d ∧ d.seq = a.s) : ds.map CD.seq = L.map It.s := by
  have h1 : (ds.map some).map (Option.map CD.seq) = (L.map (fun a => cp a.s)).map (Option.map CD.seq) := by rw [h]
  rw [List.map_map, List.map_map] at h1
  have h2 : (L.map (Option.map CD.seq ∘ fun a => cp a.s)) = (L.map It.s).map some := by
    rw [List.map_map]
    refine List.map_congr_left (fun a ha => ?_)
    obtain ⟨d, e1, e2⟩ := hc a ha
    simp [e1, e2]
  rw [h2] at h1
  have h3 : (ds.map CD.seq).map some = (L.map It.s).map some := by rw [← h1, List.map_map]; rfl
  exact (List.map_inj_right (fun _ _ h => Option.some.inj h)).1 h3
theorem seqs_out {cp : Int → Option CD} {ks : List Int} {ds : List CD} (h : ds.map some = ks.map cp) (hc : ∀ k ∈ ks, ∃ d, cp k = some d ∧ d.seq = k) : ds.map CD.seq = ks := by
  have h1 : (ds.map some).map (Option.map CD.seq) = (ks.map cp).map (Option.map CD.seq) := by rw [h]
  rw [List.map_map, List.map_map] at h1
  have h2 : (ks.map (Option.map CD.seq ∘ cp)) = ks.map some := by
    refine List.map_congr_left (fun k hk => ?_)
    obtain ⟨d, e1, e2⟩ := hc k hk
    simp [e1, e2]
  rw [h2] at h1
  have h3 : (ds.map CD.seq).map some = ks.map some := by rw [← h1, List.map_map]; rfl
  exact (List.map_inj_right (fun _ _ h => Option.some.inj h)).1 h3
theorem u17 {f : Nat} {D : Nat → Obj → Prop} {H : Heap} {q : Nat} {A : AS} (h : Qu f D H q A) (now : Int) (hlim : A.L.length ≤ 2097152) : FN Try.prog 17 [.pointer (some ⟨q, 0, none⟩), .int .i64 now] H (fun r H' => ∃ (ds : List CD) (es : List (List Value)),
    ds.map some = (A.L.filter (pcA A.cp (exP now))).map (fun a => A.cp a.s) ∧ es.length = ds.length ∧ Own H' 35 25 r ds.length es.flatten ∧ (∀ x ∈ es, x.length = 25) ∧ (∀ g, r.ownBlock = some g → H.size ≤ g) ∧ H.size ≤ H'.size ∧
    ∃ Zs : Int → Nat → Prop, (∀ (i : Nat) (x : List Value) (d : CD), es[i]? = some x → ds[i]? = some d → RC f H' (Zs d.seq) x d) ∧ (∀ k b, Zs k b → b < H.size) ∧
      Qu f (handed D H' (fun b => (∃ k, k ∈ (A.L.filter (pcA A.cp (exP now))).map It.s ∧ Zs k b) ∨ r.ownBlock = some b)) H' q { A with L := A.L.filter (fun a => !pcA A.cp (exP now) a), cp := delAll A.cp ((A.L.filter (pcA A.cp (exP now))).map It.s) }) := by
  obtain ⟨B, S, Y, rfl, h⟩ := h
  refine (expire17 f H B S Y A.L now h.inv h.qa (by rw [← h.qa.line.perm.length_eq]; exact hlim)).mono ?_
  rintro r H' ⟨v, S', ds, es, hT⟩
  exact ⟨ds, es, uTake h hT⟩
end Go.Proofs.Ytfomnjippakjpaa
