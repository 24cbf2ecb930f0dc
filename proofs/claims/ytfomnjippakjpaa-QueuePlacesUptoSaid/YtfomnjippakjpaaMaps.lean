/-
  Maps from int and what is found in them.
-/
import Derived.Test.YtfomnjippakjpaaData
namespace Go.S
open Go.Flow (CC)

def ik (k : Int) : Value := .int .i64 k
/-- A map's entries: int keys, each once. -/
structure MK (es : List MapEntry) : Prop where
  int : ∀ e ∈ es, ∃ k, e.key = ik k
  nod : (es.map (·.key)).Nodup
def look (es : List MapEntry) (k : Int) : Option Value := (mfind (ik k) es 0).map (·.2)

theorem MK.nil : MK [] := ⟨by simp, by simp⟩
theorem MK.ok {es : List MapEntry} (h : MK es) (k : Int) : KeysOk (.int .i64) (ik k) es := by
  intro e he
  obtain ⟨k', h'⟩ := h.int e he
  rw [h']
  simp [Instr.sameNow, ik, same]
theorem MK.eq {es : List MapEntry} (h : MK es) (k : Int) : ∀ e ∈ es, same (ik k) e.key = true → keyEq e.key (ik k) = true := by
  intro e he hs
  obtain ⟨k', h'⟩ := h.int e he
  rw [h'] at hs ⊢
  simp [same, ik] at hs
  subst hs
  simp [keyEq, ik, Instr.sameBits]
theorem same_ik (a b : Int) : same (ik a) (ik b) = (a == b) := rfl
theorem ik_inj {a b : Int} : ik a = ik b ↔ a = b := by simp [ik]
theorem MK.tail {e : MapEntry} {es : List MapEntry} (h : MK (e :: es)) : MK es := ⟨fun x hx => h.int x (List.mem_cons_of_mem _ hx), (List.nodup_cons.1 h.nod).2⟩

theorem mfind_shift {k : Value} : ∀ (es : List MapEntry) (i : Nat), mfind k es i = (mfind k es 0).map (fun x => (x.1 + i, x.2)) := by
  intro es
  induction es with
  | nil => intro i; rfl
  | cons e es ih =>
    intro i
    simp only [mfind]
    by_cases h : same k e.key = true
    · simp [h]
    · simp only [h, Bool.false_eq_true, if_false]
      rw [ih (i + 1), ih (0 + 1)]
      cases mfind k es 0 with
      | none => rfl
      | some x => simp; omega
theorem look_nil (k : Int) : look [] k = none := rfl
theorem look_cons (e : MapEntry) (es : List MapEntry) (k : Int) : look (e :: es) k = if same (ik k) e.key = true then some e.val else look es k := by
  simp only [look, mfind]
  split
  · rfl
  · rw [mfind_shift]
    cases mfind (ik k) es 0 <;> rfl
theorem look_mem {es : List MapEntry} (h : MK es) {k : Int} {v : Value} : look es k = some v ↔ ∃ e ∈ es, e.key = ik k ∧ e.val = v := by
  induction es with
  | nil => simp [look_nil]
  | cons e es ih =>
    rw [look_cons]
    obtain ⟨k', hk⟩ := h.int e (List.mem_cons_self ..)
    have hn := (List.nodup_cons.1 h.nod).1
    rw [hk, same_ik]
    by_cases he : k = k'
    · subst he
      simp only [beq_self_eq_true, if_true, Option.some.injEq]
      constructor
      · intro hv; exact ⟨e, List.mem_cons_self .., hk, hv⟩
      · rintro ⟨x, hx, h1, h2⟩
        rcases List.mem_cons.1 hx with rfl | hx
        · exact h2
        · exact absurd (List.mem_map.2 ⟨x, hx, h1.trans hk.symm⟩) hn
    · have : (k == k') = false := by simpa using he
      rw [this]
      simp only [Bool.false_eq_true, if_false]
      rw [ih h.tail]
      constructor
      · rintro ⟨x, hx, h1⟩; exact ⟨x, List.mem_cons_of_mem _ hx, h1⟩
      · rintro ⟨x, hx, h1, h2⟩
        rcases List.mem_cons.1 hx with rfl | hx
        · rw [hk] at h1; exact absurd (ik_inj.1 h1).symm he
        · exact ⟨x, hx, h1, h2⟩
theorem look_none {es : List MapEntry} (h : MK es) {k : Int} : look es k = none ↔ ∀ e ∈ es, e.key ≠ ik k := by
  constructor
  · intro hn e he hk
    have := (look_mem h).2 ⟨e, he, hk, rfl⟩
    rw [hn] at this; cases this
  · intro hn
    cases hl : look es k with
    | none => rfl
    | some v => obtain ⟨e, he, hk, _⟩ := (look_mem h).1 hl; exact absurd hk (hn e he)

theorem mfind_get {es : List MapEntry} {k : Int} {i : Nat} {v : Value} (h : MK es) (hf : mfind (ik k) es 0 = some (i, v)) : ∃ e, es[i]? = some e ∧ e.val = v ∧ e.key = ik k := by
  obtain ⟨_, e, h2, h3, h4⟩ := mfind_some es 0 i v hf
  obtain ⟨k', hk⟩ := h.int e (List.mem_of_getElem? h2)
  refine ⟨e, h2, h3, ?_⟩
  rw [hk, same_ik] at h4
  have h5 : k = k' := by simpa using h4
  rw [hk, h5]

theorem MK.put {es : List MapEntry} (h : MK es) (k : Int) (v : Value) (c : Nat) : MK (mput (ik k) v c es).1 ∧ (∀ k', look (mput (ik k) v c es).1 k' = if k' = k then some v else look es k') ∧
    (mput (ik k) v c es).1.length = es.length + (if look es k = none then 1 else 0) := by
  unfold mput
  cases hf : mfind (ik k) es 0 with
  | none =>
    have hl : look es k = none := by simp [look, hf]
    have hn := (look_none h).1 hl
    have hM : MK (es ++ [⟨ik k, v, c⟩]) := by
      refine ⟨?_, ?_⟩
      · intro e he
        rcases List.mem_append.1 he with he | he
        · exact h.int e he
        · simp at he; subst he; exact ⟨k, rfl⟩
      · rw [List.map_append, List.nodup_append]
        refine ⟨h.nod, by simp, ?_⟩
        intro a ha b hb e
        obtain ⟨x, hx, rfl⟩ := List.mem_map.1 ha
        simp at hb
        exact hn x hx (e.trans hb)
    refine ⟨hM, ?_, by simp [hl]⟩
    intro k'
    by_cases he : k' = k
    · subst he
      rw [if_pos rfl]
      exact (look_mem hM).2 ⟨⟨ik k', v, c⟩, by simp, rfl, rfl⟩
    · rw [if_neg he]
      cases hl' : look es k' with
      | none =>
        refine (look_none hM).2 ?_
        intro e hm
        rcases List.mem_append.1 hm with hm | hm
        · exact (look_none h).1 hl' e hm
        · simp at hm; subst hm; intro hh; exact he (ik_inj.1 hh).symm
      | some u =>
        obtain ⟨e, hm, h1, h2⟩ := (look_mem h).1 hl'
        exact (look_mem hM).2 ⟨e, List.mem_append_left _ hm, h1, h2⟩
  | some x =>
    obtain ⟨i, u⟩ := x
    obtain ⟨e, he, hv, hk⟩ := mfind_get h hf
    have hl : look es k = some u := by simp [look, hf]
    have hi : i < es.length := (List.getElem?_eq_some_iff.1 he).1
    have hkeys : (es.modify i fun e => { e with key := ik k, val := v }).map (·.key) = es.map (·.key) := by
      apply List.ext_getElem?
      intro j
      simp only [List.getElem?_map, List.getElem?_modify]
      by_cases hj : i = j
      · subst hj; simp [he, hk]
      · simp [hj]
    have hM : MK (es.modify i fun e => { e with key := ik k, val := v }) := by
      refine ⟨?_, by rw [hkeys]; exact h.nod⟩
      intro x hx
      have : x.key ∈ es.map (·.key) := hkeys ▸ List.mem_map_of_mem hx
      obtain ⟨y, hy, h2⟩ := List.mem_map.1 this
      obtain ⟨k', h3⟩ := h.int y hy
      exact ⟨k', h2.symm.trans h3⟩
    refine ⟨hM, ?_, by simp [hl]⟩
    intro k'
    by_cases hk' : k' = k
    · subst hk'
      rw [if_pos rfl]
      refine (look_mem hM).2 ⟨{ e with key := ik k', val := v }, ?_, rfl, rfl⟩
      refine List.mem_of_getElem? (i := i) ?_
      simp [List.getElem?_modify, he]
    · rw [if_neg hk']
      cases hl' : look es k' with
      | none =>
        refine (look_none hM).2 ?_
        intro x hx hxk
        have : ik k' ∈ es.map (·.key) := hkeys ▸ hxk ▸ List.mem_map_of_mem hx
        obtain ⟨y, hy, h2⟩ := List.mem_map.1 this
        exact (look_none h).1 hl' y hy h2
      | some u' =>
        obtain ⟨x, hx, h1, h2⟩ := (look_mem h).1 hl'
        obtain ⟨j, hj⟩ := List.getElem?_of_mem hx
        refine (look_mem hM).2 ⟨x, ?_, h1, h2⟩
        refine List.mem_of_getElem? (i := j) ?_
        have hij : i ≠ j := by
          intro hij; subst hij
          rw [he] at hj
          have := Option.some.inj hj
          subst this
          exact hk' (ik_inj.1 (h1.symm.trans hk))
        simp [List.getElem?_modify, hij, hj]

theorem nodup_erase {es : List MapEntry} (h : MK es) {i : Nat} {e : MapEntry} (he : es[i]? = some e) : ∀ x, x ∈ es.eraseIdx i ↔ x ∈ es ∧ x.key ≠ e.key := by
  intro x
  have hi : i < es.length := (List.getElem?_eq_some_iff.1 he).1
  constructor
  · intro hx
    obtain ⟨j, hj⟩ := List.getElem?_of_mem hx
    rw [List.getElem?_eraseIdx] at hj
    have hnd : ∀ a b, a < b → b < (es.map (·.key)).length → (es.map (·.key))[a]? ≠ (es.map (·.key))[b]? := fun a b h1 h2 h3 => by
      have h4 := h.nod
      rw [List.nodup_iff_pairwise_ne] at h4
      rw [List.getElem?_eq_getElem h2, List.getElem?_eq_getElem (Nat.lt_trans h1 h2)] at h3
      exact List.pairwise_iff_getElem.1 h4 a b _ _ h1 (Option.some.inj h3)
    split at hj
    · rename_i hlt
      refine ⟨List.mem_of_getElem? hj, fun hk => ?_⟩
      exact hnd j i hlt (by simpa using hi) (by simp [hj, he, hk])
    · rename_i hlt
      refine ⟨List.mem_of_getElem? hj, fun hk => ?_⟩
      have hj1 : j + 1 < es.length := (List.getElem?_eq_some_iff.1 hj).1
      exact hnd i (j + 1) (by omega) (by simpa using hj1) (by simp [hj, he, hk])
  · rintro ⟨hx, hk⟩
    obtain ⟨j, hj⟩ := List.getElem?_of_mem hx
    have hij : j ≠ i := by
      rintro rfl; rw [he] at hj; exact hk (congrArg _ (Option.some.inj hj).symm)
    rcases Nat.lt_or_gt_of_ne hij with hlt | hgt
    · refine List.mem_of_getElem? (i := j) ?_
      rw [List.getElem?_eraseIdx, if_pos hlt]; exact hj
    · refine List.mem_of_getElem? (i := j - 1) ?_
      rw [List.getElem?_eraseIdx, if_neg (by omega), show j - 1 + 1 = j by omega]; exact hj
theorem MK.del {es : List MapEntry} (h : MK es) (k : Int) : MK (mdel (ik k) es) ∧ (∀ k', look (mdel (ik k) es) k' = if k' = k then none else look es k') ∧
    (mdel (ik k) es).length = es.length - (if look es k = none then 0 else 1) := by
  unfold mdel
  cases hf : mfind (ik k) es 0 with
  | none =>
    have hl : look es k = none := by simp [look, hf]
    refine ⟨h, ?_, by simp [hl]⟩
    intro k'
    by_cases hk : k' = k
    · subst hk; simp [hl]
    · simp [hk]
  | some x =>
    obtain ⟨i, u⟩ := x
    obtain ⟨e, he, hv, hk⟩ := mfind_get h hf
    have hl : look es k = some u := by simp [look, hf]
    have hi : i < es.length := (List.getElem?_eq_some_iff.1 he).1
    have hm := nodup_erase h he
    have hM : MK (es.eraseIdx i) := by
      refine ⟨fun x hx => h.int x ((hm x).1 hx).1, ?_⟩
      exact (List.Sublist.map _ (List.eraseIdx_sublist es i)).nodup h.nod
    refine ⟨hM, ?_, by simp [hl, List.length_eraseIdx, hi]⟩
    intro k'
    by_cases hk' : k' = k
    · subst hk'
      rw [if_pos rfl]
      exact (look_none hM).2 (fun x hx hxk => ((hm x).1 hx).2 (hxk.trans hk.symm))
    · rw [if_neg hk']
      cases hl' : look es k' with
      | none => exact (look_none hM).2 (fun x hx hxk => (look_none h).1 hl' x ((hm x).1 hx).1 hxk)
      | some u' =>
        obtain ⟨x, hx, h1, h2⟩ := (look_mem h).1 hl'
        exact (look_mem hM).2 ⟨x, (hm x).2 ⟨hx, fun hxe => hk' (ik_inj.1 (h1.symm.trans (hxe.trans hk)))⟩, h1, h2⟩

/-- Keys each once, stamps each once and below the clock. -/
structure MI (es : List MapEntry) (c : Nat) : Prop where
  k : MK es
  lt : ∀ e ∈ es, e.born < c
  nod : (es.map (·.born)).Nodup
theorem MI.nil (c : Nat) : MI [] c := ⟨MK.nil, by simp, by simp⟩
/-- What a map is turned to: the entry of a key is put. -/
structure Put (es : List MapEntry) (k : Int) (v : Value) (es' : List MapEntry) (c' : Nat) : Prop where
  mi : MI es' c'
  look : ∀ k', look es' k' = if k' = k then some v else look es k'
  len : es'.length = es.length + (if Go.S.look es k = none then 1 else 0)
structure Del (es : List MapEntry) (k : Int) (es' : List MapEntry) (c' : Nat) : Prop where
  mi : MI es' c'
  look : ∀ k', look es' k' = if k' = k then none else look es k'
  len : es'.length = es.length - (if Go.S.look es k = none then 0 else 1)
theorem map_modify_same {α : Type} (f : MapEntry → α) (g : MapEntry → MapEntry) (h : ∀ e, f (g e) = f e) (es : List MapEntry) (i : Nat) : (es.modify i g).map f = es.map f := by
  apply List.ext_getElem?
  intro j
  simp only [List.getElem?_map, List.getElem?_modify]
  cases es[j]? with
  | none => rfl
  | some e => by_cases hj : i = j <;> simp [hj, h]
theorem mem_map_lt {es : List MapEntry} {c : Nat} : (∀ e ∈ es, e.born < c) ↔ ∀ b ∈ es.map (·.born), b < c := by simp
theorem nod_push {es : List MapEntry} {c : Nat} (h : MI es c) (k v : Value) : ((es ++ [(⟨k, v, c⟩ : MapEntry)]).map (·.born)).Nodup ∧ ∀ e ∈ es ++ [(⟨k, v, c⟩ : MapEntry)], e.born < c + 1 := by
  constructor
  · rw [List.map_append, List.nodup_append]
    refine ⟨h.nod, by simp, ?_⟩
    intro a ha b hb e
    obtain ⟨x, hx, rfl⟩ := List.mem_map.1 ha
    simp at hb
    have := h.lt x hx
    have e' : x.born = c := e.trans hb
    omega
  · intro e he
    rcases List.mem_append.1 he with he | he
    · have := h.lt e he; omega
    · simp at he; subst he; simp
theorem MI.put {es : List MapEntry} {c : Nat} (h : MI es c) (k : Int) (v : Value) : Put es k v (mput (ik k) v c es).1 (mput (ik k) v c es).2 := by
  obtain ⟨h1, h2, h3⟩ := h.k.put k v c
  refine ⟨⟨h1, ?_, ?_⟩, h2, h3⟩
  · unfold mput
    cases hf : mfind (ik k) es 0 with
    | none => exact (nod_push h _ _).2
    | some x =>
      rw [mem_map_lt]
      show ∀ b ∈ (es.modify x.1 fun e => { e with key := ik k, val := v }).map (·.born), b < c
      rw [map_modify_same (·.born) (fun e => { e with key := ik k, val := v }) (fun _ => rfl)]
      exact mem_map_lt.1 h.lt
  · unfold mput
    cases hf : mfind (ik k) es 0 with
    | none => exact (nod_push h _ _).1
    | some x =>
      show ((es.modify x.1 fun e => { e with key := ik k, val := v }).map (·.born)).Nodup
      rw [map_modify_same (·.born) (fun e => { e with key := ik k, val := v }) (fun _ => rfl)]
      exact h.nod
theorem MI.del {es : List MapEntry} {c : Nat} (h : MI es c) (k : Int) : Del es k (mdel (ik k) es) c := by
  obtain ⟨h1, h2, h3⟩ := h.k.del k
  have hs : (mdel (ik k) es).Sublist es := by
    unfold mdel
    split
    · exact List.eraseIdx_sublist _ _
    · exact List.Sublist.refl _
  exact ⟨⟨h1, fun e he => h.lt e (hs.subset he), (hs.map _).nodup h.nod⟩, h2, h3⟩

section
variable {P : Program} {C : Heap → Prop} {Q : Exit → Act → Heap → Prop} {n : Nat} {env : Env} {H : Heap} {d : Option Nat} {ty : TypeId} {g : Option (Option Nat × Bool)} {r : List (SOp × Nat)} {kk : Nat}
variable {t K E : TypeId} {x y z : Operand} {m c : Nat} {es : List MapEntry} {k : Int} {v : Value}

theorem RD.lkY {ok : Bool} (hx : opnd env x = some (.map (some m))) (hy : opnd env y = some (ik k)) (hu : P.underlying t = some (.map K E))
    (hK : P.underlying K = some (.int .i64)) (hb : H[m]? = some (.map es.toArray c)) (hM : MI es c) (hf : look es k = some v) :
    RD P ⟨d, .lookup t x y ok, ty, g⟩ n env H (if ok then .tuple [v, .bool true].toArray else v) := by
  cases hf' : mfind (ik k) es 0 with
  | none => simp [look, hf'] at hf
  | some u =>
    obtain ⟨i, u⟩ := u
    have : u = v := by simpa [look, hf'] using hf
    subst this
    exact RD.lookY hx hy hu ⟨hK, rfl⟩ hb (hM.k.ok k) hf'
theorem RD.lkN {ok : Bool} {zv : Value} (hx : opnd env x = some (.map (some m))) (hy : opnd env y = some (ik k)) (hu : P.underlying t = some (.map K E))
    (hK : P.underlying K = some (.int .i64)) (hb : H[m]? = some (.map es.toArray c)) (hM : MI es c) (hz : ∀ w, (zeroValue E).run P w = .ok zv w) (hf : look es k = none) :
    RD P ⟨d, .lookup t x y ok, ty, g⟩ n env H (if ok then .tuple [zv, .bool false].toArray else zv) := by
  cases hf' : mfind (ik k) es 0 with
  | some u => simp [look, hf'] at hf
  | none => exact RD.lookN hx hy hu ⟨hK, rfl⟩ hb (hM.k.ok k) hf' hz
theorem wf_put (hx : opnd env x = some (.map (some m))) (hy : opnd env y = some (ik k)) (hv : opnd env z = some v) (hg : gd g env = some true) (hu : P.underlying t = some (.map K E))
    (hK : P.underlying K = some (.int .i64)) (hb : H[m]? = some (.map es.toArray c)) (hM : MI es c)
    (h : ∀ (H1 : Heap) es' c', H1.size = H.size → H1[m]? = some (.map (es' : List MapEntry).toArray c') → (∀ j, j ≠ m → H1[j]? = H[j]?) → Put es k v es' c' → CC kk C H1 ∧ WF P C r Q n env H1) :
    WF P C ((⟨none, .mapUpdate t x y z, ty, g⟩, kk + 2) :: r) Q n env H :=
  wf_mapPut hx hy hv hg hu ⟨hK, rfl⟩ hb (hM.k.ok k) (hM.k.eq k) (fun H1 h1 h2 h3 => h H1 _ _ h1 h2 h3 (hM.put k v))
theorem wf_del {u : TypeId} (hx : opnd env x = some (.map (some m))) (hy : opnd env y = some (ik k)) (hg : gd g env = some true) (hd : okD d n = true) (hu : P.underlying t = some (.map K E))
    (hK : P.underlying K = some (.int .i64)) (hb : H[m]? = some (.map es.toArray c)) (hM : MI es c)
    (h : ∀ (H1 : Heap) es' c', H1.size = H.size → H1[m]? = some (.map (es' : List MapEntry).toArray c') → (∀ j, j ≠ m → H1[j]? = H[j]?) → Del es k es' c' → CC kk C H1 ∧ WF P C r Q n (putE d (.tuple #[]) env) H1) :
    WF P C ((⟨d, .call ⟨.builtin .delete, #[x, y], #[t, u]⟩, ty, g⟩, kk + 2) :: r) Q n env H :=
  wf_mapDel hx hy hg hd hu ⟨hK, rfl⟩ hb (hM.k.ok k) (fun H1 h1 h2 h3 => h H1 _ _ h1 h2 h3 (hM.del k))

/-- The entry that waits for its value. -/
def Slot (es : List MapEntry) (c : Nat) (k : Int) (es1 : List MapEntry) (c1 s : Nat) : Prop :=
  ∃ i, es1.findIdx? (fun e => (e.born : Int) == (s : Int)) = some i ∧ ∀ v, es1.modify i (fun e => { e with val := v }) = (mput (ik k) v c es).1 ∧ c1 = (mput (ik k) v c es).2
theorem find_born {es : List MapEntry} {c : Nat} (hn : (es.map (·.born)).Nodup) {i : Nat} {e : MapEntry} (he : es[i]? = some e) : es.findIdx? (fun x => (x.born : Int) == (e.born : Int)) = some i := by
  have hi : i < es.length := (List.getElem?_eq_some_iff.1 he).1
  rw [List.findIdx?_eq_some_iff_getElem]
  rw [List.getElem?_eq_getElem hi] at he
  have he := Option.some.inj he
  refine ⟨hi, by simp [he], ?_⟩
  intro j hj
  have hp := List.nodup_iff_pairwise_ne.1 hn
  have := List.pairwise_iff_getElem.1 hp j i (by simp; omega) (by simpa using hi) hj
  simp only [List.getElem_map, he] at this
  simp
  omega
theorem wf_entry {zv : Value} (hx : opnd env x = some (.map (some m))) (hy : opnd env y = some (ik k)) (hg : gd g env = some true) (hd : okD d n = true) (hu : P.underlying t = some (.map K E))
    (hK : P.underlying K = some (.int .i64)) (hb : H[m]? = some (.map es.toArray c)) (hM : MI es c) (hz : ∀ w, (zeroValue E).run P w = .ok zv w)
    (h : ∀ (H1 : Heap) es1 c1 s, H1.size = H.size → H1[m]? = some (.map (es1 : List MapEntry).toArray c1) → (∀ j, j ≠ m → H1[j]? = H[j]?) → Slot es c k es1 c1 s →
      CC kk C H1 ∧ WF P C r Q n (putE d (.tuple [(look es k).getD zv, .int .i64 (s : Int)].toArray) env) H1) :
    WF P C ((⟨d, .mapEntry t x y, ty, g⟩, kk + 2) :: r) Q n env H := by
  cases hf : mfind (ik k) es 0 with
  | none =>
    have hl : look es k = none := by simp [look, hf]
    have hs : Slot es c k (es ++ [(⟨ik k, zv, c⟩ : MapEntry)]) (c + 1) c := by
      refine ⟨es.length, ?_, ?_⟩
      · exact find_born (c := c) (nod_push hM _ _).1 (e := ⟨ik k, zv, c⟩) (by simp)
      · intro v
        simp only [mput, hf]
        refine ⟨?_, trivial⟩
        apply List.ext_getElem?
        intro j
        rw [List.getElem?_modify]
        by_cases hj : es.length = j
        · subst hj; simp
        · simp only [hj, if_false, id_map']
          rcases Nat.lt_or_gt_of_ne hj with h1 | h1
          · rw [List.getElem?_eq_none (by simp; omega), List.getElem?_eq_none (by simp; omega)]
          · rw [List.getElem?_append_left h1, List.getElem?_append_left h1]
    obtain ⟨h1, h2⟩ := h (wr H m (.map (es ++ [(⟨ik k, zv, c⟩ : MapEntry)]).toArray (c + 1))) _ _ c wr_size (wr_same (lt_of hb)) (fun j hj => wr_ne hj) hs
    rw [hl] at h2
    refine wf_do hg hd ?_ h1 h2
    intro a w ha hw
    have hg1 := run_getMap (P := P) hw hb
    refine ⟨{ w with heap := wr H m (.map (es ++ [(⟨ik k, zv, c⟩ : MapEntry)]).toArray (c + 1)) }, ⟨rfl, rfl, rfl⟩, rfl, .inl ?_⟩
    have hset := setObj_run (P := P) (o := .map (es ++ [(⟨ik k, zv, c⟩ : MapEntry)]).toArray (c + 1)) hw hb
    have : (Instr.mapEntry t (.map (some m)) (ik k)).run P w = .ok (.tuple #[zv, .int .i64 (c : Int)]) { w with heap := wr H m (.map (es ++ [(⟨ik k, zv, c⟩ : MapEntry)]).toArray (c + 1)) } := by
      simp only [Instr.mapEntry, run_underlying hu, Sem.run_bind, Result.andThen, hg1, run_checkKey ⟨hK, rfl⟩, run_findKey ⟨hK, rfl⟩ (hM.k.ok k), hf, hz]
      simp only [List.push_toArray, hset, goInt]
      simp
    simp [execOp, SOp.oper, ha.eval hx, ha.eval hy, Sem.run_bind, Result.andThen, this]
  | some u =>
    obtain ⟨i, u⟩ := u
    obtain ⟨e, he, hv, hk⟩ := mfind_get hM.k hf
    have hl : look es k = some u := by simp [look, hf]
    have hs : Slot es c k (es.modify i fun e => { e with key := ik k }) c e.born := by
      refine ⟨i, ?_, ?_⟩
      · exact find_born (c := c) (e := { e with key := ik k }) (by rw [map_modify_same (·.born) (fun e => { e with key := ik k }) (fun _ => rfl)]; exact hM.nod) (by simp [List.getElem?_modify, he])
      · intro v
        simp only [mput, hf, List.modify_modify_eq]
        exact ⟨rfl, trivial⟩
    obtain ⟨h1, h2⟩ := h (wr H m (.map (es.modify i fun e => { e with key := ik k }).toArray c)) _ _ e.born wr_size (wr_same (lt_of hb)) (fun j hj => wr_ne hj) hs
    rw [hl] at h2
    refine wf_do hg hd ?_ h1 h2
    intro a w ha hw
    have hg1 := run_getMap (P := P) hw hb
    refine ⟨{ w with heap := wr H m (.map (es.modify i fun e => { e with key := ik k }).toArray c) }, ⟨rfl, rfl, rfl⟩, rfl, .inl ?_⟩
    have hset := setObj_run (P := P) (o := .map (es.modify i fun e => { e with key := ik k }).toArray c) hw hb
    have hkey : ((es.toArray[i]?).map (·.key)).getD (ik k) = e.key := by simp [he]
    have hbo : ((es.toArray[i]?).map (·.born)).getD 0 = e.born := by simp [he]
    have hkt : (Instr.keyThatStays e.key (ik k)).run P w = .ok (ik k) w := by
      have := hM.k.eq k e (List.mem_of_getElem? he) (by rw [hk, same_ik]; simp)
      unfold keyEq at this
      simp [Instr.keyThatStays, this]
    have : (Instr.mapEntry t (.map (some m)) (ik k)).run P w = .ok (.tuple #[u, .int .i64 (e.born : Int)]) { w with heap := wr H m (.map (es.modify i fun e => { e with key := ik k }).toArray c) } := by
      simp only [Instr.mapEntry, run_underlying hu, Sem.run_bind, Result.andThen, hg1, run_checkKey ⟨hK, rfl⟩, run_findKey ⟨hK, rfl⟩ (hM.k.ok k), hf, hkey, hkt, hbo]
      simp only [List.modify_toArray, hset, goInt]
      simp [he]
    simp [execOp, SOp.oper, ha.eval hx, ha.eval hy, Sem.run_bind, Result.andThen, this]
theorem wf_entryStore {es1 : List MapEntry} {c1 s : Nat} (hx : opnd env x = some (.map (some m))) (hy : opnd env y = some (.int .i64 (s : Int))) (hv : opnd env z = some v) (hg : gd g env = some true)
    (hb : H[m]? = some (.map es1.toArray c1)) (hM : MI es c) (hs : Slot es c k es1 c1 s)
    (h : ∀ (H1 : Heap) es' c', H1.size = H.size → H1[m]? = some (.map (es' : List MapEntry).toArray c') → (∀ j, j ≠ m → H1[j]? = H[j]?) → Put es k v es' c' → CC kk C H1 ∧ WF P C r Q n env H1) :
    WF P C ((⟨none, .entryStore t x y z, ty, g⟩, kk + 2) :: r) Q n env H := by
  obtain ⟨i, hi, hs⟩ := hs
  obtain ⟨e1, e2⟩ := hs v
  obtain ⟨h1, h2⟩ := h (wr H m (.map (mput (ik k) v c es).1.toArray (mput (ik k) v c es).2)) _ _ wr_size (wr_same (lt_of hb)) (fun j hj => wr_ne hj) (hM.put k v)
  refine wf_do (v := undef) hg rfl ?_ h1 h2
  intro a w ha hw
  have hg1 := run_getMap (P := P) hw hb
  refine ⟨{ w with heap := wr H m (.map (mput (ik k) v c es).1.toArray (mput (ik k) v c es).2) }, ⟨rfl, rfl, rfl⟩, rfl, .inr ⟨?_, rfl⟩⟩
  have hset := setObj_run (P := P) (o := .map (mput (ik k) v c es).1.toArray (mput (ik k) v c es).2) hw hb
  have hi' : es1.toArray.findIdx? (fun e => (e.born : Int) == (s : Int)) = some i := by simpa using hi
  have : (Instr.entryStore t (.map (some m)) (.int .i64 (s : Int)) v).run P w = .ok () { w with heap := wr H m (.map (mput (ik k) v c es).1.toArray (mput (ik k) v c es).2) } := by
    simp only [Instr.entryStore, Sem.run_bind, Result.andThen, hg1, asInt, asIntOf, Sem.run_pure, hi']
    simp only [List.modify_toArray, e1, e2, hset]
  simp [execOp, SOp.oper, ha.eval hx, ha.eval hy, ha.eval hv, Sem.run_bind, Result.andThen, this]
end
end Go.S
