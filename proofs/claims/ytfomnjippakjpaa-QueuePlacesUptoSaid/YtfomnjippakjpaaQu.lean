/-
  A queue as an abstract state, and what it leaves alone: the functions' contracts in these words.
-/
import Derived.Test.YtfomnjippakjpaaQCalls
namespace Go.Proofs.Ytfomnjippakjpaa
open Go.S

structure AS where
  cf : CF
  L : List It
  cp : Int → Option CD
  ou : List Int
  last : Int
  tn : List Int
structure QuB (f : Nat) (D : Nat → Obj → Prop) (H : Heap) (A : AS) (B : QB) (S : QS) (Y : Int → Nat → Prop) : Prop where
  inv : QInv f H B S Y
  qa : QA S A.L
  cf : S.cf = A.cf
  cp : S.cp = A.cp
  ou : S.ou = A.ou
  last : S.last = A.last
  tn : S.tn = A.tn
  d : ∀ b o, D b o → H[b]? = some o ∧ ¬ B.mut b ∧ ¬ zn Y b
/-- At q lies a queue that is A; what D tells of the memory stands and is none of the queue's. -/
def Qu (f : Nat) (D : Nat → Obj → Prop) (H : Heap) (q : Nat) (A : AS) : Prop := ∃ B S Y, B.q = q ∧ QuB f D H A B S Y

theorem Qu.mem {f : Nat} {D : Nat → Obj → Prop} {H : Heap} {q : Nat} {A : AS} (h : Qu f D H q A) {b : Nat} {o : Obj} (hb : D b o) : H[b]? = some o := by
  obtain ⟨_, _, _, _, h⟩ := h; exact (h.d b o hb).1
theorem Qu.weak {f : Nat} {D D' : Nat → Obj → Prop} {H : Heap} {q : Nat} {A : AS} (h : Qu f D H q A) (hd : ∀ b o, D' b o → D b o) : Qu f D' H q A := by
  obtain ⟨B, S, Y, e, h⟩ := h
  exact ⟨B, S, Y, e, { h with d := fun b o hb => h.d b o (hd b o hb) }⟩
theorem Qu.ext {f : Nat} {D : Nat → Obj → Prop} {H H' : Heap} {q : Nat} {A : AS} (h : Qu f D H q A) (hx : Ext H H') : Qu f D H' q A := by
  obtain ⟨B, S, Y, e, h⟩ := h
  exact ⟨B, S, Y, e, { h with inv := h.inv.ext hx, d := fun b o hb => ⟨hx.keep (h.d b o hb).1, (h.d b o hb).2⟩ }⟩
/-- What is new is none of the queue's. -/
theorem Qu.add {f : Nat} {D : Nat → Obj → Prop} {H H' : Heap} {q : Nat} {A : AS} (h : Qu f D H q A) (hx : Ext H H') : Qu f (fun b o => D b o ∨ (fresh H H' b ∧ H'[b]? = some o)) H' q A := by
  obtain ⟨B, S, Y, e, h⟩ := h
  refine ⟨B, S, Y, e, { h with inv := h.inv.ext hx, d := ?_ }⟩
  rintro b o (hb | ⟨hb, ho⟩)
  · exact ⟨hx.keep (h.d b o hb).1, (h.d b o hb).2⟩
  · exact ⟨ho, fun hm => absurd (h.inv.lt hm) (Nat.not_lt.2 hb.1), fun ⟨k, hy⟩ => absurd (h.inv.z k b hy).1 (Nat.not_lt.2 hb.1)⟩
/-- A block of D is written. -/
theorem Qu.wrote {f : Nat} {D D' : Nat → Obj → Prop} {H H' : Heap} {q : Nat} {A : AS} (h : Qu f D H q A) {b0 : Nat} {o0 : Obj} (h0 : D b0 o0) (hs : H'.size = H.size) (hk : ∀ j, j ≠ b0 → H'[j]? = H[j]?)
    (hd : ∀ b o, D' b o → (b ≠ b0 ∧ D b o) ∨ (b = b0 ∧ H'[b]? = some o)) : Qu f D' H' q A := by
  obtain ⟨B, S, Y, e, h⟩ := h
  have hn := (h.d b0 o0 h0).2
  refine ⟨B, S, Y, e, { h with inv := h.inv.frm (M := fun b => b = b0) (Frm.wrote hs hk (fun _ => rfl)) (fun b hb e => by subst e; exact hb.elim hn.1 hn.2), d := ?_ }⟩
  rintro b o hb
  rcases hd b o hb with ⟨hne, hb⟩ | ⟨rfl, ho⟩
  · exact ⟨(hk b hne).trans (h.d b o hb).1, (h.d b o hb).2⟩
  · exact ⟨ho, hn⟩
section
variable {f : Nat} {D : Nat → Obj → Prop} {H H' : Heap} {B : QB} {Y Y' : Int → Nat → Prop}
theorem dstep (hd : ∀ b o, D b o → H[b]? = some o ∧ ¬ B.mut b ∧ ¬ zn Y b) (hf : Frm B.mut H H') {B' : QB} (hB : ∀ b, b < H.size → B'.mut b → B.mut b) (hY : ∀ k b, Y' k b → Y k b ∨ H.size ≤ b) : ∀ b o, D b o → H'[b]? = some o ∧ ¬ B'.mut b ∧ ¬ zn Y' b :=
  fun b o h => by
    obtain ⟨h1, h2, h3⟩ := hd b o h
    exact ⟨hf.keep h1 h2, fun hm => h2 (hB b (lt_of h1) hm), fun ⟨k, hy⟩ => (hY k b hy).elim (fun h => h3 ⟨k, h⟩) (fun hle => absurd (lt_of h1) (Nat.not_lt.2 hle))⟩
end

theorem u6 (f : Nat) (D : Nat → Obj → Prop) (H : Heap) (cf : CF) (hD : ∀ b o, D b o → H[b]? = some o) : FN Try.prog 6 [.agg cf.cells.toArray] H (fun r H' => ∃ q, r = .pointer (some ⟨q, 0, none⟩) ∧ Qu f D H' q ⟨cf, [], fun _ => none, [], 0, []⟩ ∧ H.size ≤ H'.size) := by
  refine (new6 f H cf).mono ?_
  rintro r H' ⟨B, rfl, h1, h2, h3⟩
  exact ⟨B.q, rfl, ⟨B, _, _, rfl, ⟨h1, QA.empty cf [], rfl, rfl, rfl, rfl, rfl, fun b o hb => ⟨h3.keep (hD b o hb), fun hm => absurd (h2 b hm) (Nat.not_le.2 (lt_of (hD b o hb))), fun ⟨_, h⟩ => h⟩⟩⟩, h3.size⟩
section
variable {f : Nat} {D : Nat → Obj → Prop} {H : Heap} {q : Nat} {A : AS}
theorem u7 (h : Qu f D H q A) {Z : Nat → Prop} {cs : List Value} {c : CD} (hc : RC f H Z cs c) (hZ : ∀ b, Z b → b < H.size) (hlt : A.L.length < 4194304) (hlast : A.last < 4611686018427387904) :
    FN Try.prog 7 [.pointer (some ⟨q, 0, none⟩), .agg cs.toArray] H (fun r H' => r = .int .i64 (A.last + 1) ∧
      Qu f D H' q { A with L := ins ⟨rankOf A.cf.maxprio c.prio, A.last + 1, 0⟩ A.L, cp := putF A.cp (A.last + 1) (some { c with seq := A.last + 1 }), last := A.last + 1 } ∧ H.size ≤ H'.size) := by
  obtain ⟨B, S, Y, rfl, h⟩ := h
  have e1 := h.cf; have e2 := h.last; have e3 := h.cp; have e4 := h.ou; have e5 := h.tn
  refine (qpush f H Z Y B S A.L cs c h.inv h.qa hc hZ hlt (e2 ▸ hlast)).mono ?_
  rintro r H' ⟨rfl, S', v', Y', h1, h2, h3, h4, h5, h6, h7, h8, h9, h10⟩
  rw [e1, e2] at h3
  refine ⟨by rw [e2], ⟨{ B with v := v' }, S', Y', rfl, ⟨h1, h3, h4.trans e1, ?_, h6.trans e4, ?_, h8.trans e5, dstep h.d h10 (mut_mov h9) h2⟩⟩, h10.size⟩
  · rw [h5, e2, e3]
  · rw [h7, e2]
theorem u9 (h : Qu f D H q A) {a : It} {L : List It} (hL : A.L = a :: L) (hlt : L.length < 4194304) :
    FN Try.prog 9 [.pointer (some ⟨q, 0, none⟩)] H (fun r H' => ∃ (cs : List Value) (d : CD), r = .tuple [.agg cs.toArray, .bool true].toArray ∧ A.cp a.s = some d ∧ d.seq = a.s ∧ RC f H' (fresh H H') cs d ∧
      Qu f D H' q { A with L := L, ou := A.ou ++ [a.s] } ∧ H.size ≤ H'.size ∧ (∀ b, fresh H H' b → ∀ o, H'[b]? = some o → True)) := by
  obtain ⟨B, S, Y, rfl, h⟩ := h
  have hqa := h.qa
  rw [hL] at hqa
  refine (qpop f H B S Y a L h.inv hqa hlt).mono ?_
  rintro r H' ⟨cs, d, js, v', rfl, h1, h2, h3, h4, h5, h6, h7⟩
  exact ⟨cs, d, rfl, h.cp ▸ h1, h2, h3, ⟨{ B with v := v' }, _, Y, rfl, ⟨h4, h5, h.cf, h.cp, by show S.ou ++ [a.s] = _; rw [h.ou], h.last, h.tn, dstep h.d h7 (mut_mov h6) (fun _ b hb => .inl hb)⟩⟩, h7.size, fun _ _ _ _ => trivial⟩
theorem u8 (h : Qu f D H q A) (hlim : A.L.length ≤ 2097152) :
    FN Try.prog 8 [.pointer (some ⟨q, 0, none⟩)] H (fun r H' => ∃ ds : List CD, ds.map some = A.L.map (fun a => A.cp a.s) ∧ (∃ es, Accum H H' 35 25 (RC f) r ds es) ∧ Ext H H') := by
  obtain ⟨B, S, Y, rfl, h⟩ := h
  refine (qready f H B S Y A.L h.inv h.qa hlim).mono ?_
  rintro r H' ⟨ds, h1, h2, h3, h4⟩
  refine ⟨ds, List.ext_getElem? fun j => ?_, h3, h4⟩
  rw [List.getElem?_map, List.getElem?_map]
  rcases Nat.lt_or_ge j ds.length with hj | hj
  · have := h2 j A.L[j] ds[j] (List.getElem?_eq_getElem (by omega)) (List.getElem?_eq_getElem hj)
    rw [List.getElem?_eq_getElem hj, List.getElem?_eq_getElem (by omega)]
    simp only [Option.map_some]
    rw [← h.cp, this]
  · rw [List.getElem?_eq_none hj, List.getElem?_eq_none (by omega)]; rfl
theorem u12 (h : Qu f D H q A) {k : Int} (hk : k ∈ A.ou) (hlt : A.L.length < 4194304) :
    FN Try.prog 12 [.pointer (some ⟨q, 0, none⟩), .int .i64 k] H (fun r H' => r = .bool true ∧ ∃ d, A.cp k = some d ∧
      Qu f D H' q { A with L := ins ⟨rankOf A.cf.maxprio d.prio, k, 0⟩ A.L, cp := putF (putF A.cp k none) k (some { d with red := true }), ou := A.ou.erase k } ∧ H.size ≤ H'.size) := by
  obtain ⟨B, S, Y, rfl, h⟩ := h
  have e1 := h.cf; have e2 := h.last; have e3 := h.cp; have e4 := h.ou; have e5 := h.tn
  refine (qreturn f H B S Y A.L k h.inv h.qa (e4 ▸ hk) hlt).mono ?_
  rintro r H' ⟨rfl, S', v', d, h1, h2, h3, h4, h5, h6, h7, h8, h9, h10⟩
  refine ⟨rfl, d, e3 ▸ h1, ⟨{ B with v := v' }, S', Y, rfl, ⟨h2, e1 ▸ h3, h4.trans e1, ?_, ?_, h7.trans e2, h8.trans e5, dstep h.d h10 (mut_mov h9) (fun _ b hb => .inl hb)⟩⟩, h10.size⟩
  · rw [h5, e3]
  · rw [h6, e4]
theorem u10 (h : Qu f D H q A) : FN Try.prog 10 [.pointer (some ⟨q, 0, none⟩)] H (fun r H' => r = .tuple [.int .i64 A.L.length, .int .i64 A.ou.length].toArray ∧ H = H') := by
  obtain ⟨B, S, Y, rfl, h⟩ := h
  refine (counts10 f H B S Y h.inv).mono ?_
  rintro r H' ⟨rfl, rfl⟩
  rw [h.ou, ← h.qa.line.perm.length_eq]
  exact ⟨rfl, rfl⟩
theorem u11 (h : Qu f D H q A) (hlim : A.ou.length ≤ 2097152) (hlast : A.last ≤ 4611686018427387904) :
    FN Try.prog 11 [.pointer (some ⟨q, 0, none⟩)] H (fun r H' => ∃ (ks : List Int) (ds : List CD), ks.Perm A.ou ∧ ks.Pairwise (fun x y => x ≤ y) ∧ ds.map some = ks.map A.cp ∧ (∃ es, Accum H H' 35 25 (RC f) r ds es) ∧ Ext H H') := by
  obtain ⟨B, S, Y, rfl, h⟩ := h
  refine (out11 f H B S Y h.inv (fun a ha => by obtain ⟨d, h1, _⟩ := h.qa.covo a ha; exact ⟨d, h1⟩) (h.ou ▸ hlim) (fun a ha => by have := h.qa.rngo a ha; have := h.last; omega)).mono ?_
  rintro r H' ⟨ks, ds, h1, h2, h3, h4, h5, h6⟩
  refine ⟨ks, ds, h.ou ▸ h1, h2, List.ext_getElem? fun j => ?_, h5, h6⟩
  rw [List.getElem?_map, List.getElem?_map]
  rcases Nat.lt_or_ge j ds.length with hj | hj
  · have := h4 j ks[j] ds[j] (List.getElem?_eq_getElem (by omega)) (List.getElem?_eq_getElem hj)
    rw [List.getElem?_eq_getElem hj, List.getElem?_eq_getElem (by omega)]
    simp only [Option.map_some]
    rw [← h.cp, this]
  · rw [List.getElem?_eq_none hj, List.getElem?_eq_none (by omega)]; rfl
theorem u19 (h : Qu f D H q A) {x : Int} (hx : x ∉ A.tn) (hl : A.tn.length ≤ 4194000) :
    FN Try.prog 19 [.pointer (some ⟨q, 0, none⟩), .int .i64 x] H (fun r H' => r = .bool true ∧ Qu f D H' q { A with tn := A.tn ++ [x] } ∧ H.size ≤ H'.size) := by
  obtain ⟨B, S, Y, rfl, h⟩ := h
  refine (join19 f H B S Y x h.inv (h.tn ▸ hx) (h.tn ▸ hl)).mono ?_
  rintro r H' ⟨rfl, t', h1, h2, h3⟩
  exact ⟨rfl, ⟨{ B with t := t' }, _, Y, rfl, ⟨h1, ⟨h.qa.line, h.qa.cov, h.qa.covo, h.qa.dis, h.qa.rng, h.qa.rngo, h.qa.last, h.qa.dom⟩, h.cf, h.cp, h.ou, h.last, by show S.tn ++ [x] = _; rw [h.tn], dstep h.d h3 (mut_movt h2) (fun _ b hb => .inl hb)⟩⟩, h3.size⟩
theorem u20 (h : Qu f D H q A) {g : Nat} {caps : List Value} {P : Int → Bool} {x : Int} {j0 : Nat} (hl : A.tn.length ≤ 4194000)
    (hent : ∀ A w, (callFunc g A).run Try.prog w = .ok (.enter g A) w) (hcan : ∀ H y, FN Try.prog g ([.int .i64 y] ++ caps) H (fun r H' => r = .bool (P y) ∧ H = H'))
    (hx0 : A.tn[j0]? = some x) (hpx : P x = true) (hno : ∀ k y, k < j0 → A.tn[k]? = some y → P y = false) :
    FN Try.prog 20 [.pointer (some ⟨q, 0, none⟩), .func (.func g) #[] caps.toArray] H (fun r H' => r = .tuple [.int .i64 x, .bool true].toArray ∧ Qu f D H' q { A with tn := A.tn.filter (· != x) ++ [x] } ∧ H.size ≤ H'.size) := by
  obtain ⟨B, S, Y, rfl, h⟩ := h
  refine (turn20 f H B S Y g caps P x j0 h.inv (h.tn ▸ hl) hent hcan (h.tn ▸ hx0) hpx (h.tn ▸ hno)).mono ?_
  rintro r H' ⟨rfl, t', h1, h2, h3⟩
  exact ⟨rfl, ⟨{ B with t := t' }, _, Y, rfl, ⟨h1, ⟨h.qa.line, h.qa.cov, h.qa.covo, h.qa.dis, h.qa.rng, h.qa.rngo, h.qa.last, h.qa.dom⟩, h.cf, h.cp, h.ou, h.last, by show S.tn.filter (· != x) ++ [x] = _; rw [h.tn], dstep h.d h3 (mut_movt h2) (fun _ b hb => .inl hb)⟩⟩, h3.size⟩
theorem u23 (h : Qu f D H q A) (hl : A.tn.length ≤ 2097152) :
    FN Try.prog 23 [.pointer (some ⟨q, 0, none⟩)] H (fun r H' => Own H' 3 1 r A.tn.length (A.tn.map ik) ∧ Ext H H') := by
  obtain ⟨B, S, Y, rfl, h⟩ := h
  refine (consumers23 f H B S Y h.inv (h.tn ▸ hl)).mono ?_
  rintro r H' ⟨h1, _, h3⟩
  exact ⟨h.tn ▸ h1, h3⟩
end

/-- The first two of a row of copies. -/
theorem rsl_two {f : Nat} {H : Heap} {Z : Nat → Prop} {v : Value} {ds : List CD} (h : RSl H Z 25 (RC f H Z) v ds) {da db : CD} (h0 : ds[0]? = some da) (h1 : ds[1]? = some db) :
    ∃ b off c cs T fz, v = .slice (some ⟨b, off, none⟩) ds.length c ∧ Z b ∧ H[b]? = some (.cells (cs : List Value).toArray T fz) ∧ cs[off + 0 * 25 + 0]? = some (.int .i64 da.seq) ∧ cs[off + 0 * 25 + 24]? = some (.bool da.red) ∧ cs[off + 1 * 25 + 0]? = some (.int .i64 db.seq) := by
  have key : ∀ (cs xs : List Value) (o i : Nat), (cs.drop o).take 25 = xs → i < 25 → cs[o + i]? = xs[i]? := by
    intro cs xs o i e hi
    rw [← e, List.getElem?_take, if_pos hi, List.getElem?_drop]
  rcases h with ⟨_, rfl⟩ | ⟨b, off, c, cs, T, fz, rfl, h2, h3, h4, h5⟩
  · simp at h0
  · refine ⟨b, off, c, cs, T, fz, rfl, h2, h3, ?_⟩
    obtain ⟨x1, x2, e1, _⟩ := h5 0 da h0
    obtain ⟨y1, y2, e2, _⟩ := h5 1 db h1
    exact ⟨key _ _ _ 0 e1 (by decide), key _ _ _ 24 e1 (by decide), key _ _ _ 0 e2 (by decide)⟩
/-- What holds of a queue's state. -/
structure AF (A : AS) : Prop where
  sorted : InL A.L
  nod : (A.L.map It.s).Nodup
  cov : ∀ a ∈ A.L, ∃ d, A.cp a.s = some d ∧ d.seq = a.s ∧ a.p = rankOf A.cf.maxprio d.prio ∧ a.d = 0
  covo : ∀ k ∈ A.ou, ∃ d, A.cp k = some d ∧ d.seq = k
  dis : ∀ a ∈ A.L, a.s ∉ A.ou
  rng : ∀ a ∈ A.L, 1 ≤ a.s ∧ a.s ≤ A.last
  rngo : ∀ k ∈ A.ou, 1 ≤ k ∧ k ≤ A.last
  last : 0 ≤ A.last
  nodo : A.ou.Nodup
  dom : ∀ k, A.cp k ≠ none → (∃ a ∈ A.L, a.s = k) ∨ k ∈ A.ou
theorem Qu.facts {f : Nat} {D : Nat → Obj → Prop} {H : Heap} {q : Nat} {A : AS} (h : Qu f D H q A) : AF A := by
  obtain ⟨B, S, Y, e, h⟩ := h
  obtain ⟨_, _, _, _, ho⟩ := h.inv.ou
  exact ⟨h.qa.line.sorted, h.qa.line.nod, by rw [← h.cp, ← h.cf]; exact h.qa.cov, by rw [← h.ou, ← h.cp]; exact h.qa.covo, by rw [← h.ou]; exact h.qa.dis, by rw [← h.last]; exact h.qa.rng, by rw [← h.ou, ← h.last]; exact h.qa.rngo, by rw [← h.last]; exact h.qa.last, by rw [← h.ou]; exact ho.2.2, by rw [← h.cp, ← h.ou]; exact h.qa.dom⟩
def rd (d : CD) : CD := { d with red := true }
/-- A line whose copies all came back is as it was. -/
theorem line_back {A A' : AS} (h : AF A) (h' : AF A') (hcf : A'.cf = A.cf) (hp : (A'.L.map It.s).Perm (A.L.map It.s)) (hcp : ∀ a ∈ A.L, A'.cp a.s = (A.cp a.s).map rd) : A'.L = A.L := by
  have key : ∀ a ∈ A'.L, ∀ b ∈ A.L, a.s = b.s → a = b := by
    intro a ha b hb e
    obtain ⟨d', h1, _, h3, h4⟩ := h'.cov a ha
    obtain ⟨d, k1, _, k3, k4⟩ := h.cov b hb
    rw [e, hcp b hb, k1] at h1
    have h1 : rd d = d' := Option.some.inj h1
    subst h1
    obtain ⟨p, s, x⟩ := a
    obtain ⟨p', s', x'⟩ := b
    dsimp only at *
    rw [hcf] at h3
    subst e h3 h4 k3 k4
    rfl
  refine inl_unique ?_ h'.sorted h.sorted h'.nod
  refine (List.perm_ext_iff_of_nodup (nod_of_map h'.nod) (nod_of_map h.nod)).2 (fun a => ⟨fun ha => ?_, fun ha => ?_⟩)
  · obtain ⟨b, hb, e⟩ := List.mem_map.1 (hp.mem_iff.1 (List.mem_map_of_mem ha))
    rw [key a ha b hb e.symm]; exact hb
  · obtain ⟨b, hb, e⟩ := List.mem_map.1 (hp.mem_iff.2 (List.mem_map_of_mem ha))
    rw [← key b hb a ha e]; exact hb
theorem ready_back {A A' : AS} (h : AF A) (h' : AF A') (hcf : A'.cf = A.cf) (hp : (A'.L.map It.s).Perm (A.L.map It.s)) (hcp : ∀ a ∈ A.L, A'.cp a.s = (A.cp a.s).map rd) {ds ds' : List CD}
    (h1 : ds.map some = A.L.map (fun a => A.cp a.s)) (h2 : ds'.map some = A'.L.map (fun a => A'.cp a.s)) : ds' = ds.map rd := by
  rw [line_back h h' hcf hp hcp] at h2
  have h3 : A.L.map (fun a => A'.cp a.s) = (A.L.map (fun a => A.cp a.s)).map (Option.map rd) := by
    rw [List.map_map]; exact List.map_congr_left (fun a ha => hcp a ha)
  rw [h3, ← h1] at h2
  have h4 : ds'.map some = (ds.map rd).map some := by rw [h2, List.map_map, List.map_map]; rfl
  exact (List.map_inj_right (fun _ _ h => Option.some.inj h)).1 h4
/-- What D holds of an old memory stands. -/
theorem Qu.same {f : Nat} {D : Nat → Obj → Prop} {H H' : Heap} {q : Nat} {A : AS} (h : Qu f D H' q A) {b : Nat} (hb : b < H.size) (hD : ∀ o, H[b]? = some o → D b o) : H'[b]? = H[b]? := by
  rw [Array.getElem?_eq_getElem hb]
  exact h.mem (hD _ (Array.getElem?_eq_getElem hb))
end Go.Proofs.Ytfomnjippakjpaa
