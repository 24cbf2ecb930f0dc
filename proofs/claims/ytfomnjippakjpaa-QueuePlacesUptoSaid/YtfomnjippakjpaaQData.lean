/-
  A queue: its blocks, and what they say.
-/
import Derived.Test.YtfomnjippakjpaaHeaps
import Derived.Test.YtfomnjippakjpaaCData
namespace Go.S

structure CF where
  (ttl exp maxlen maxprio : Int) (dlx dlk alt : ByteArray) (b1 b2 b3 : Bool)
def CF.cells (c : CF) : List Value := [.int .i64 c.ttl, .int .i64 c.exp, .int .i64 c.maxlen, .int .i64 c.maxprio, .string c.dlx, .string c.dlk, .string c.alt, .bool c.b1, .bool c.b2, .bool c.b3]
def rankOf (mp prio : Int) : Int := max 0 (min prio (max 0 mp))

/-- A queue's blocks. -/
structure QB where
  (q l bm bc bo : Nat) (v t : Value)
def QB.mut (B : QB) (b : Nat) : Prop := b = B.q ∨ b = B.l ∨ b = B.bm ∨ b = B.bc ∨ b = B.bo ∨ B.v.ownBlock = some b ∨ B.t.ownBlock = some b
def QB.zone (B : QB) (H : Heap) (b : Nat) : Prop := b < H.size ∧ ¬ B.mut b
structure QB.Ok (B : QB) : Prop where
  ql : B.q ≠ B.l
  qm : B.q ≠ B.bm
  qc : B.q ≠ B.bc
  qo : B.q ≠ B.bo
  lm : B.l ≠ B.bm
  lc : B.l ≠ B.bc
  lo : B.l ≠ B.bo
  mc : B.bm ≠ B.bc
  mo : B.bm ≠ B.bo
  co : B.bc ≠ B.bo
  v : ∀ g, B.v.ownBlock = some g → g ≠ B.q ∧ g ≠ B.l ∧ g ≠ B.bm ∧ g ≠ B.bc ∧ g ≠ B.bo
  t : ∀ g, B.t.ownBlock = some g → g ≠ B.q ∧ g ≠ B.l ∧ g ≠ B.bm ∧ g ≠ B.bc ∧ g ≠ B.bo ∧ B.v.ownBlock ≠ some g
/-- What a queue is. -/
structure QS where
  cf : CF
  is : List It
  cp : Int → Option CD
  ou : List Int
  last : Int
  tn : List Int
def QB.cells (B : QB) (S : QS) : List Value := [.int .i64 S.cf.ttl, .int .i64 S.cf.exp, .int .i64 S.cf.maxlen, .int .i64 S.cf.maxprio, .string S.cf.dlx, .string S.cf.dlk, .string S.cf.alt, .bool S.cf.b1, .bool S.cf.b2, .bool S.cf.b3,
  .map (some B.bc), .pointer (some ⟨B.l, 0, none⟩), .map (some B.bo), .int .i64 S.last, B.t]
/-- Some copy's zone. -/
abbrev zn (Z : Int → Nat → Prop) (b : Nat) : Prop := ∃ k, Z k b
def CpM (f : Nat) (H : Heap) (Z : Int → Nat → Prop) (es : List MapEntry) (cp : Int → Option CD) : Prop :=
  ∀ k, match cp k with
    | none => look es k = none
    | some d => ∃ cs : List Value, look es k = some (.agg cs.toArray) ∧ RC f H (Z k) cs d
def OuM (es : List MapEntry) (ou : List Int) : Prop := (∀ k, look es k = if k ∈ ou then some (.int .i64 1) else none) ∧ es.length = ou.length ∧ ou.Nodup
structure QInv (f : Nat) (H : Heap) (B : QB) (S : QS) (Z : Int → Nat → Prop) : Prop where
  ok : B.Ok
  q : H[B.q]? = some (.cells (B.cells S).toArray 63 (0, 0))
  pile : Pile H B.l B.v B.bm S.is
  heap : HeapN S.is.length S.is
  cp : ∃ es c, H[B.bc]? = some (.map (es : List MapEntry).toArray c) ∧ MI es c ∧ CpM f H Z es S.cp
  ou : ∃ es c, H[B.bo]? = some (.map (es : List MapEntry).toArray c) ∧ MI es c ∧ OuM es S.ou
  tn : Own H 3 1 B.t S.tn.length (S.tn.map ik)
  z : ∀ k b, Z k b → b < H.size ∧ ¬ B.mut b
  zd : ∀ k k' b, Z k b → Z k' b → k = k'

theorem CpM.mono {f : Nat} {H H' : Heap} {Z Z' : Int → Nat → Prop} {es : List MapEntry} {cp : Int → Option CD} (h : CpM f H Z es cp) (hH : ∀ k b, Z k b → H'[b]? = H[b]?) (hZ : ∀ k b, cp k ≠ none → Z k b → Z' k b) : CpM f H' Z' es cp := by
  intro k
  have hh := h k
  have hz := hZ k
  revert hh hz
  cases cp k with
  | none => exact fun hh _ => hh
  | some d => rintro ⟨cs, h1, h2⟩ hz; exact ⟨cs, h1, RC.mono f _ _ _ _ _ _ (hH k) (fun b hb => hz b (by simp) hb) h2⟩
theorem QInv.lt {f : Nat} {H : Heap} {B : QB} {S : QS} {Z : Int → Nat → Prop} (h : QInv f H B S Z) {b : Nat} (hb : B.mut b) : b < H.size := by
  obtain ⟨_, h1, h2, _, ⟨es, c, h3, _⟩, ⟨es', c', h4, _⟩, h5, _, _⟩ := h
  rcases hb with rfl | rfl | rfl | rfl | rfl | hb | hb
  · exact lt_of h1
  · exact h2.lt (.inl rfl)
  · exact h2.lt (.inr (.inr rfl))
  · exact lt_of h3
  · exact lt_of h4
  · exact h2.lt (.inr (.inl hb))
  · exact h5.lt hb
theorem QInv.old {f : Nat} {H : Heap} {B : QB} {S : QS} {Z : Int → Nat → Prop} (h : QInv f H B S Z) {b : Nat} (hb : B.mut b ∨ zn Z b) : b < H.size := hb.elim h.lt (fun ⟨k, hz⟩ => (h.z k b hz).1)
/-- What turns no block of the queue's leaves it as it is. -/
theorem QInv.frm {f : Nat} {M : Nat → Prop} {H H' : Heap} {B : QB} {S : QS} {Z : Int → Nat → Prop} (h : QInv f H B S Z) (hx : Frm M H H') (hM : ∀ b, B.mut b ∨ zn Z b → ¬ M b) : QInv f H' B S Z := by
  have hk : ∀ b, B.mut b ∨ zn Z b → H'[b]? = H[b]? := fun b hb => hx.old b (h.old hb) (hM b hb)
  have m : ∀ b, B.mut b → ∀ {o : Obj}, H[b]? = some o → H'[b]? = some o := fun b hb o ho => (hk b (.inl hb)).trans ho
  have hz := h.z
  have hzd := h.zd
  obtain ⟨h0, h1, h2, h3, ⟨es, c, h4, h5, h6⟩, ⟨es', c', h7, h8⟩, h9, _, _⟩ := h
  refine ⟨h0, m _ (.inl rfl) h1, ?_, h3, ⟨es, c, m _ (.inr (.inr (.inr (.inl rfl)))) h4, h5, h6.mono (fun k b hb => hk b (.inr ⟨k, hb⟩)) (fun _ b _ hb => hb)⟩, ⟨es', c', m _ (.inr (.inr (.inr (.inr (.inl rfl))))) h7, h8⟩, h9.keep (fun g hg => hk g (.inl (.inr (.inr (.inr (.inr (.inr (.inr hg)))))))), fun k b hb => ⟨Nat.lt_of_lt_of_le (hz k b hb).1 hx.size, (hz k b hb).2⟩, hzd⟩
  exact h2.frm hx (fun j hj => hM j (.inl (by
    rcases hj with h | h | h
    · exact .inr (.inl h)
    · exact .inr (.inr (.inr (.inr (.inr (.inl h)))))
    · exact .inr (.inr (.inl h)))))
theorem QInv.ext {f : Nat} {H H' : Heap} {B : QB} {S : QS} {Z : Int → Nat → Prop} (h : QInv f H B S Z) (hx : Ext H H') : QInv f H' B S Z := h.frm (hx.frm (fun _ => False)) (fun _ _ h => h)
theorem QInv.wide {f : Nat} {H : Heap} {B : QB} {S : QS} {Z Z' : Int → Nat → Prop} (h : QInv f H B S Z) (hz : ∀ k b, S.cp k ≠ none → Z k b → Z' k b) (hz' : ∀ k b, Z' k b → b < H.size ∧ ¬ B.mut b) (hzd : ∀ k k' b, Z' k b → Z' k' b → k = k') : QInv f H B S Z' := by
  obtain ⟨h0, h1, h2, h3, ⟨es, c, h4, h5, h6⟩, h7, h9, _, _⟩ := h
  exact ⟨h0, h1, h2, h3, ⟨es, c, h4, h5, h6.mono (fun _ _ _ => rfl) hz⟩, h7, h9, hz', hzd⟩
theorem QInv.shrink {f : Nat} {H : Heap} {B : QB} {S : QS} {Z Z' : Int → Nat → Prop} (h : QInv f H B S Z) (hz : ∀ k b, S.cp k ≠ none → Z k b → Z' k b) (hz' : ∀ k b, Z' k b → Z k b) : QInv f H B S Z' :=
  h.wide hz (fun k b hb => h.z k b (hz' k b hb)) (fun k k' b h1 h2 => h.zd k k' b (hz' k b h1) (hz' k' b h2))

theorem CpM.get {f : Nat} {H : Heap} {Z : Int → Nat → Prop} {es : List MapEntry} {cp : Int → Option CD} (h : CpM f H Z es cp) {k : Int} {d : CD} (e : cp k = some d) : ∃ cs : List Value, look es k = some (.agg cs.toArray) ∧ RC f H (Z k) cs d := by
  have := h k; rw [e] at this; exact this
theorem CpM.no {f : Nat} {H : Heap} {Z : Int → Nat → Prop} {es : List MapEntry} {cp : Int → Option CD} (h : CpM f H Z es cp) {k : Int} (e : cp k = none) : look es k = none := by
  have := h k; rw [e] at this; exact this
def putF {α : Type} (cp : Int → Option α) (k : Int) (d : Option α) : Int → Option α := fun k' => if k' = k then d else cp k'
theorem CpM.put {f : Nat} {H : Heap} {Z : Int → Nat → Prop} {es es' : List MapEntry} {c' : Nat} {cp : Int → Option CD} (h : CpM f H Z es cp) {k : Int} {d : CD} {cs : List Value} (p : Put es k (.agg cs.toArray) es' c') (hd : RC f H (Z k) cs d) :
    CpM f H Z es' (putF cp k (some d)) := by
  intro k'
  unfold putF
  by_cases e : k' = k
  · rw [if_pos e]
    exact ⟨cs, by rw [p.look, if_pos e], e ▸ hd⟩
  · rw [if_neg e]
    have := h k'
    rw [p.look, if_neg e]; exact this
theorem CpM.del {f : Nat} {H : Heap} {Z : Int → Nat → Prop} {es es' : List MapEntry} {c' : Nat} {cp : Int → Option CD} (h : CpM f H Z es cp) {k : Int} (p : Del es k es' c') : CpM f H Z es' (putF cp k none) := by
  intro k'
  unfold putF
  by_cases e : k' = k
  · rw [if_pos e]
    show look es' k' = none
    rw [p.look, if_pos e]
  · rw [if_neg e]
    have := h k'
    rw [p.look, if_neg e]; exact this
theorem OuM.put {es es' : List MapEntry} {c' : Nat} {ou : List Int} (h : OuM es ou) {k : Int} (hk : k ∉ ou) (p : Put es k (.int .i64 1) es' c') : OuM es' (ou ++ [k]) := by
  obtain ⟨h1, h2, h3⟩ := h
  have hn : look es k = none := by rw [h1, if_neg hk]
  refine ⟨fun k' => ?_, ?_, ?_⟩
  · rw [p.look, h1]
    by_cases e : k' = k
    · simp [e]
    · simp [e]
  · rw [p.len, hn]; simp [h2]
  · rw [List.nodup_append]; exact ⟨h3, by simp, fun a ha b hb e => by simp at hb; subst hb; exact hk (e ▸ ha)⟩
theorem OuM.del {es es' : List MapEntry} {c' : Nat} {ou : List Int} (h : OuM es ou) {k : Int} (hk : k ∈ ou) (p : Del es k es' c') : OuM es' (ou.erase k) := by
  obtain ⟨h1, h2, h3⟩ := h
  have hn : look es k = some (.int .i64 1) := by rw [h1, if_pos hk]
  refine ⟨fun k' => ?_, ?_, h3.erase k⟩
  · rw [p.look, h1]
    by_cases e : k' = k
    · simp [e, h3.mem_erase_iff]
    · simp [e, h3.mem_erase_iff]
  · rw [p.len, hn, List.length_erase_of_mem hk]; simp [h2]
theorem QB.Ok.mov {B : QB} (h : B.Ok) {H : Heap} {v' : Value} (hm : mov H B.v v') (hl : ∀ b, B.mut b → b < H.size) : ({ B with v := v' } : QB).Ok := by
  have hq : B.q < H.size := hl _ (.inl rfl)
  have hll : B.l < H.size := hl _ (.inr (.inl rfl))
  have hbm : B.bm < H.size := hl _ (.inr (.inr (.inl rfl)))
  have hbc : B.bc < H.size := hl _ (.inr (.inr (.inr (.inl rfl))))
  have hbo : B.bo < H.size := hl _ (.inr (.inr (.inr (.inr (.inl rfl)))))
  have ht : ∀ g, B.t.ownBlock = some g → g < H.size := fun g hg => hl _ (.inr (.inr (.inr (.inr (.inr (.inr hg))))))
  refine ⟨h.ql, h.qm, h.qc, h.qo, h.lm, h.lc, h.lo, h.mc, h.mo, h.co, ?_, ?_⟩
  · intro g hg
    rcases hm with e | ⟨g', e, hg'⟩
    · exact h.v g (by rw [← e]; exact hg)
    · have : g = g' := Option.some.inj (hg.symm.trans e)
      subst this
      exact ⟨by show g ≠ B.q; omega, by show g ≠ B.l; omega, by show g ≠ B.bm; omega, by show g ≠ B.bc; omega, by show g ≠ B.bo; omega⟩
  · intro g hg
    obtain ⟨a1, a2, a3, a4, a5, a6⟩ := h.t g hg
    refine ⟨a1, a2, a3, a4, a5, ?_⟩
    rcases hm with e | ⟨g', e, hg'⟩
    · show v'.ownBlock ≠ some g; rw [e]; exact a6
    · show v'.ownBlock ≠ some g
      rw [e]; intro e'; have := Option.some.inj e'; have := ht g hg; omega
theorem mut_mov {B : QB} {H : Heap} {v' : Value} (hm : mov H B.v v') : ∀ b, b < H.size → ({ B with v := v' } : QB).mut b → B.mut b := by
  intro b hb h
  rcases h with h | h | h | h | h | h | h
  · exact .inl h
  · exact .inr (.inl h)
  · exact .inr (.inr (.inl h))
  · exact .inr (.inr (.inr (.inl h)))
  · exact .inr (.inr (.inr (.inr (.inl h))))
  · rcases hm with e | ⟨g, e, hg⟩
    · exact .inr (.inr (.inr (.inr (.inr (.inl (e ▸ h))))))
    · have : some g = some b := e ▸ h
      have := Option.some.inj this; omega
  · exact .inr (.inr (.inr (.inr (.inr (.inr h)))))
theorem pm_mut {B : QB} : ∀ b, pm B.l B.v B.bm b → B.mut b := by
  rintro b (h | h | h)
  · exact .inr (.inl h)
  · exact .inr (.inr (.inr (.inr (.inr (.inl h)))))
  · exact .inr (.inr (.inl h))
theorem zone_step {B : QB} {H H' : Heap} {v' : Value} (hx : Frm B.mut H H') (hm : mov H B.v v') : (∀ b, B.zone H b → H'[b]? = H[b]?) ∧ (∀ b, B.zone H b → ({ B with v := v' } : QB).zone H' b) :=
  ⟨fun b hb => hx.old b hb.1 hb.2, fun b hb => ⟨Nat.lt_of_lt_of_le hb.1 hx.size, fun h => hb.2 (mut_mov hm b hb.1 h)⟩⟩
theorem mov.mono {H H' : Heap} {v v' : Value} (h : mov H' v v') (hs : H.size ≤ H'.size) : mov H v v' := h.imp id (fun ⟨g, h1, h2⟩ => ⟨g, h1, Nat.le_trans hs h2⟩)
theorem QB.Ok.npm {B : QB} (h : B.Ok) : ¬ pm B.l B.v B.bm B.q ∧ ¬ pm B.l B.v B.bm B.bc ∧ ¬ pm B.l B.v B.bm B.bo ∧ ∀ g, B.t.ownBlock = some g → ¬ pm B.l B.v B.bm g := by
  refine ⟨?_, ?_, ?_, ?_⟩
  · rintro (e | e | e)
    · exact h.ql e
    · exact (h.v _ e).1 rfl
    · exact h.qm e
  · rintro (e | e | e)
    · exact h.lc e.symm
    · exact (h.v _ e).2.2.2.1 rfl
    · exact h.mc e.symm
  · rintro (e | e | e)
    · exact h.lo e.symm
    · exact (h.v _ e).2.2.2.2 rfl
    · exact h.mo e.symm
  · rintro g hg (e | e | e)
    · exact (h.t g hg).2.1 e
    · exact (h.t g hg).2.2.2.2.2 e
    · exact (h.t g hg).2.2.1 e
theorem QB.Ok.pmq {B : QB} (h : B.Ok) {j : Nat} (hj : pm B.l B.v B.bm j) : j ≠ B.q ∧ j ≠ B.bc ∧ j ≠ B.bo :=
  ⟨fun e => h.npm.1 (e ▸ hj), fun e => h.npm.2.1 (e ▸ hj), fun e => h.npm.2.2.1 (e ▸ hj)⟩
theorem QInv.cpTo {f : Nat} {H H' : Heap} {B : QB} {S : QS} {Z : Int → Nat → Prop} (h : QInv f H B S Z) (hf : Frm (fun j => j = B.bc) H H') {es' : List MapEntry} {c' : Nat} (hm : H'[B.bc]? = some (.map es'.toArray c')) (hM : MI es' c')
    {cp' : Int → Option CD} (hC : CpM f H Z es' cp') : QInv f H' B { S with cp := cp' } Z := by
  have hz := h.z
  have hzd := h.zd
  obtain ⟨h0, h1, h2, h3, _, ⟨eo, co, h7, h8⟩, h9, _, _⟩ := h
  have hn : ∀ k b, Z k b → b ≠ B.bc := fun k b hb e => (hz k b hb).2 (e ▸ .inr (.inr (.inr (.inl rfl))))
  exact ⟨h0, hf.keep h1 h0.qc, h2.frm hf (fun j hj => (h0.pmq hj).2.1), h3, ⟨es', c', hm, hM, hC.mono (fun k b hb => hf.old b (hz k b hb).1 (hn k b hb)) (fun _ _ _ h => h)⟩, ⟨eo, co, hf.keep h7 h0.co.symm, h8⟩, h9.keep (fun g hg => hf.old _ (h9.lt hg) (h0.t g hg).2.2.2.1), fun k b hb => ⟨Nat.lt_of_lt_of_le (hz k b hb).1 hf.size, (hz k b hb).2⟩, hzd⟩
theorem QInv.ouTo {f : Nat} {H H' : Heap} {B : QB} {S : QS} {Z : Int → Nat → Prop} (h : QInv f H B S Z) (hf : Frm (fun j => j = B.bo) H H') {es' : List MapEntry} {c' : Nat} (hm : H'[B.bo]? = some (.map es'.toArray c')) (hM : MI es' c')
    {ou' : List Int} (hO : OuM es' ou') : QInv f H' B { S with ou := ou' } Z := by
  have hz := h.z
  have hzd := h.zd
  obtain ⟨h0, h1, h2, h3, ⟨es, c, h4, h5, h6⟩, _, h9, _, _⟩ := h
  have hn : ∀ k b, Z k b → b ≠ B.bo := fun k b hb e => (hz k b hb).2 (e ▸ .inr (.inr (.inr (.inr (.inl rfl)))))
  exact ⟨h0, hf.keep h1 h0.qo, h2.frm hf (fun j hj => (h0.pmq hj).2.2), h3, ⟨es, c, hf.keep h4 h0.co, h5, h6.mono (fun k b hb => hf.old b (hz k b hb).1 (hn k b hb)) (fun _ _ _ h => h)⟩, ⟨es', c', hm, hM, hO⟩, h9.keep (fun g hg => hf.old _ (h9.lt hg) (h0.t g hg).2.2.2.2.1), fun k b hb => ⟨Nat.lt_of_lt_of_le (hz k b hb).1 hf.size, (hz k b hb).2⟩, hzd⟩
theorem QInv.pileTo {f : Nat} {H H' : Heap} {B : QB} {S : QS} {Z : Int → Nat → Prop} (h : QInv f H B S Z) {v' : Value} {js : List It} (hv : mov H B.v v') (hp : Pile H' B.l v' B.bm js) (hh : HeapN js.length js) (hf : Frm (pm B.l B.v B.bm) H H') :
    QInv f H' { B with v := v' } { S with is := js } Z := by
  have hl : ∀ b, B.mut b → b < H.size := fun b hb => h.lt hb
  have hz := h.z
  have hzd := h.zd
  have hn : ∀ k b, Z k b → ¬ pm B.l B.v B.bm b := fun k b hb e => (hz k b hb).2 (pm_mut b e)
  obtain ⟨h0, h1, h2, h3, ⟨es, c, h4, h5, h6⟩, ⟨eo, co, h7, h8⟩, h9, _, _⟩ := h
  obtain ⟨npq, npc, npo, npt⟩ := h0.npm
  exact ⟨h0.mov hv hl, hf.keep h1 npq, hp, hh, ⟨es, c, hf.keep h4 npc, h5, h6.mono (fun k b hb => hf.old b (hz k b hb).1 (hn k b hb)) (fun _ _ _ h => h)⟩, ⟨eo, co, hf.keep h7 npo, h8⟩, h9.keep (fun g hg => hf.old _ (h9.lt hg) (npt g hg)), fun k b hb => ⟨Nat.lt_of_lt_of_le (hz k b hb).1 hf.size, fun hm => (hz k b hb).2 (mut_mov hv b (hz k b hb).1 hm)⟩, hzd⟩
/-- The struct's own block is written. -/
theorem QInv.qTo {f : Nat} {H H' : Heap} {B : QB} {S S' : QS} {Z : Int → Nat → Prop} (h : QInv f H B S Z) (hf : Frm (fun j => j = B.q) H H') (hq : H'[B.q]? = some (.cells (B.cells S').toArray 63 (0, 0))) (h1 : S'.is = S.is) (h2 : S'.cp = S.cp) (h3 : S'.ou = S.ou) (h4 : S'.tn = S.tn) : QInv f H' B S' Z := by
  have hz := h.z
  have hzd := h.zd
  have hn : ∀ k b, Z k b → b ≠ B.q := fun k b hb e => (hz k b hb).2 (e ▸ .inl rfl)
  obtain ⟨h0, _, h5, h6, ⟨es, c, h7, h8, h9⟩, ⟨eo, co, h10, h11⟩, h12, _, _⟩ := h
  refine ⟨h0, hq, h1 ▸ h5.frm hf (fun j hj => (h0.pmq hj).1), h1 ▸ h6, ⟨es, c, hf.keep h7 h0.qc.symm, h8, h2 ▸ h9.mono (fun k b hb => hf.old b (hz k b hb).1 (hn k b hb)) (fun _ _ _ h => h)⟩, ⟨eo, co, hf.keep h10 h0.qo.symm, h3 ▸ h11⟩, h4 ▸ h12.keep (fun g hg => hf.old _ (h12.lt hg) (h0.t g hg).1), fun k b hb => ⟨Nat.lt_of_lt_of_le (hz k b hb).1 hf.size, (hz k b hb).2⟩, hzd⟩
theorem QB.Ok.movt {B : QB} (h : B.Ok) {H : Heap} {t' : Value} (hm : Go.S.mov H B.t t') (hl : ∀ b, B.mut b → b < H.size) : ({ B with t := t' } : QB).Ok := by
  have hq : B.q < H.size := hl _ (.inl rfl)
  have hll : B.l < H.size := hl _ (.inr (.inl rfl))
  have hbm : B.bm < H.size := hl _ (.inr (.inr (.inl rfl)))
  have hbc : B.bc < H.size := hl _ (.inr (.inr (.inr (.inl rfl))))
  have hbo : B.bo < H.size := hl _ (.inr (.inr (.inr (.inr (.inl rfl)))))
  have hv : ∀ g, B.v.ownBlock = some g → g < H.size := fun g hg => hl _ (.inr (.inr (.inr (.inr (.inr (.inl hg))))))
  refine ⟨h.ql, h.qm, h.qc, h.qo, h.lm, h.lc, h.lo, h.mc, h.mo, h.co, h.v, ?_⟩
  intro g hg
  rcases hm with e | ⟨g', e, hg'⟩
  · exact h.t g (by rw [← e]; exact hg)
  · have : g = g' := Option.some.inj (hg.symm.trans e)
    subst this
    exact ⟨by show g ≠ B.q; omega, by show g ≠ B.l; omega, by show g ≠ B.bm; omega, by show g ≠ B.bc; omega, by show g ≠ B.bo; omega, fun e' => by have := hv g e'; omega⟩
theorem mut_movt {B : QB} {H : Heap} {t' : Value} (hm : mov H B.t t') : ∀ b, b < H.size → ({ B with t := t' } : QB).mut b → B.mut b := by
  intro b hb h
  rcases h with h | h | h | h | h | h | h
  · exact .inl h
  · exact .inr (.inl h)
  · exact .inr (.inr (.inl h))
  · exact .inr (.inr (.inr (.inl h)))
  · exact .inr (.inr (.inr (.inr (.inl h))))
  · exact .inr (.inr (.inr (.inr (.inr (.inl h)))))
  · rcases hm with e | ⟨g, e, hg⟩
    · exact .inr (.inr (.inr (.inr (.inr (.inr (e ▸ h))))))
    · have : some g = some b := e ▸ h
      have := Option.some.inj this; omega
/-- The turn is another. -/
theorem QInv.tTo {f : Nat} {H H' : Heap} {B : QB} {S S' : QS} {Z : Int → Nat → Prop} {t' : Value} (h : QInv f H B S Z) (hf : Frm (fun j => j = B.q ∨ B.t.ownBlock = some j) H H') (hm : mov H B.t t')
    (hq : H'[B.q]? = some (.cells (({ B with t := t' } : QB).cells S').toArray 63 (0, 0))) (h1 : S'.is = S.is) (h2 : S'.cp = S.cp) (h3 : S'.ou = S.ou) (ht : Own H' 3 1 t' S'.tn.length (S'.tn.map ik)) : QInv f H' { B with t := t' } S' Z := by
  have hl : ∀ b, B.mut b → b < H.size := fun b hb => h.lt hb
  have hz := h.z
  have hzd := h.zd
  have hn : ∀ k b, Z k b → ¬ (b = B.q ∨ B.t.ownBlock = some b) := fun k b hb e => (hz k b hb).2 (e.elim .inl (fun e => .inr (.inr (.inr (.inr (.inr (.inr e)))))))
  obtain ⟨h0, _, h5, h6, ⟨es, c, h7, h8, h9⟩, ⟨eo, co, h10, h11⟩, _, _, _⟩ := h
  have nt : ∀ b, (b = B.l ∨ b = B.bm ∨ b = B.bc ∨ b = B.bo ∨ B.v.ownBlock = some b) → ¬ (b = B.q ∨ B.t.ownBlock = some b) := by
    rintro b hb (e | e)
    · subst e
      rcases hb with e | e | e | e | e
      · exact h0.ql e
      · exact h0.qm e
      · exact h0.qc e
      · exact h0.qo e
      · exact (h0.v _ e).1 rfl
    · have a := h0.t b e
      rcases hb with e | e | e | e | e
      · exact a.2.1 e
      · exact a.2.2.1 e
      · exact a.2.2.2.1 e
      · exact a.2.2.2.2.1 e
      · exact a.2.2.2.2.2 e
  refine ⟨h0.movt hm hl, hq, h1 ▸ h5.frm hf (fun j hj => nt j ?_), h1 ▸ h6, ⟨es, c, hf.keep h7 (nt _ (.inr (.inr (.inl rfl)))), h8, h2 ▸ h9.mono (fun k b hb => hf.old b (hz k b hb).1 (hn k b hb)) (fun _ _ _ h => h)⟩, ⟨eo, co, hf.keep h10 (nt _ (.inr (.inr (.inr (.inl rfl))))), h3 ▸ h11⟩, ht, fun k b hb => ⟨Nat.lt_of_lt_of_le (hz k b hb).1 hf.size, fun hm' => (hz k b hb).2 (mut_movt hm b (hz k b hb).1 hm')⟩, hzd⟩
  rcases hj with e | e | e
  · exact .inl e
  · exact .inr (.inr (.inr (.inr e)))
  · exact .inr (.inl e)
/-- What a copy's coming makes of a queue. -/
structure Came (S : QS) (c : CD) (S' : QS) : Prop where
  cf : S'.cf = S.cf
  is : Come S.is ⟨rankOf S.cf.maxprio c.prio, c.seq, 0⟩ S'.is
  cp : S'.cp = putF S.cp c.seq (some c)
  ou : S'.ou = S.ou
  last : S'.last = max S.last c.seq
  tn : S'.tn = S.tn
end Go.S
