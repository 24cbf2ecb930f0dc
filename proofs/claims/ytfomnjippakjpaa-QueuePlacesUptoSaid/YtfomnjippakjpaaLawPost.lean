/-
  What a law's claim asks of a call that answers true and leaves all that was there as it was.
-/
import Derived.Test.YtfomnjippakjpaaData
import Derived.OpenShut
import Derived.ProofKit
import Derived.ReadAgain
import Derived.ChangeArms
import Derived.JoinedCond
namespace Go.S
open Go.ChangeShapes Go.WideShapes Go.ChangeAt Go.RowKit
section
variable {H : Type} {enc : TypeId × Value → H} {P : Program}

theorem trodAll_carry {w w' : World} {base : Nat} {sp : Nat → Bool} {hd : Bool} : ∀ {ts : List TypeId} {vs : List Value} {ds : List (DataW H)} {ps : List MemPlace}, DataW.TrodAll enc P w base sp hd ts vs ds ps → (∀ p ∈ ps, w.sameAt w' p) → DataW.TrodAll enc P w' base sp hd ts vs ds ps
  | [], [], [], _, h, _ => h
  | _ :: _, _ :: _, _ :: _, _, ⟨p, q, ⟨n, h1⟩, h2, e⟩, hs => ⟨p, q, ⟨n, DataW.trod_carry n _ _ _ h1 (fun x hx => hs x (by rw [e]; exact List.mem_append_left _ hx))⟩, trodAll_carry h2 (fun x hx => hs x (by rw [e]; exact List.mem_append_right _ hx)), e⟩

theorem same_place {w w' : World} (hx : ∀ b, b < w.heap.size → w'.heap[b]? = w.heap[b]?) {p : MemPlace} (hp : p.block < w.heap.size) : w.sameAt w' p := by
  cases p with
  | cell b off =>
    have : w'.heap[b]? = w.heap[b]? := hx b hp
    show w'.cell? ⟨b, off, none⟩ = w.cell? ⟨b, off, none⟩
    simp only [World.cell?, this]
  | map b => exact hx b hp

theorem kept_ext {w w' : World} (hos : w'.os = w.os) (hout : w'.output = w.output) (hx : ∀ b, b < w.heap.size → w'.heap[b]? = w.heap[b]?) (may : MemPlace → Prop) : w.keptBut w' may := by
  refine ⟨hos, hout, fun i hi => ?_⟩
  rw [hx i hi]
  cases w.heap[i]? with
  | none => exact rfl
  | some o =>
    cases o
    case cells c t fr => exact ⟨rfl, rfl, rfl, fun _ _ => rfl⟩
    case map es clock => exact .inr ⟨rfl, rfl⟩
    all_goals exact rfl

/-- True, and each argument reads as it read. -/
theorem law_post {f : Func} {s : ChangeSpec} {apart fresh handsOn again : Bool} {W W' : World} {args : Array Value} {ds gs : List (DataW H)} {before : List MemPlace} {tb : TypeId}
    (hlaid : laidOutB P = true) (hmaps : mapsRowed P = true) (hfull : ((List.range P.types.size).all fun t => match P.underlying t with | some (.slice e) => decide (0 < P.cellsOf e) | _ => true) = true)
    (hts : f.params.all (fun t => decide (t < P.types.size)) = true) (hvars : s.vars = []) (hr : f.resultTypes = #[tb]) (hb : P.underlying tb = some .bool)
    (hfn : ∀ gs', (s.fn H (ds ++ gs')).results = [.lit (.bool true)] ∧ (s.fn H (ds ++ gs')).args = ds ∨ gs' ≠ []) (hfv : ∀ gs', (s.fn H (ds ++ gs')).vars = [])
    (hW : DataW.Whole enc P f.params.toList s.vars apart W args.toList ds gs before)
    (hos : W'.os = W.os) (hout : W'.output = W.output) (hx : ∀ b, b < W.heap.size → W'.heap[b]? = W.heap[b]?) :
    s.post enc P f apart fresh handsOn again W args (.bool true) W' := by
  have hlt := hW.lt
  have hW' := hW
  obtain ⟨p, q, hA, hV, hpq, hfz, hnd⟩ := hW
  have hV0 := hV
  rw [hvars] at hV
  obtain ⟨rfl, rfl⟩ := trodVars_none hV
  obtain ⟨e1, e2⟩ := (hfn []).resolve_right (fun h => h rfl)
  have e3 := hfv []
  rw [List.append_nil] at hpq
  subst hpq
  have hT : ∀ t ∈ f.params.toList, t < P.types.size := fun t ht => by
    have := Array.all_eq_true_iff_forall_mem.1 hts t (by simpa using ht)
    simpa using this
  have hargs : ∀ sp : Nat → Bool, (∀ x ∈ before, sp x.block = true) → DataW.TrodAll enc P W' 0 sp true f.params.toList args.toList (s.fn H (ds ++ [])).args before := by
    intro sp hsp
    rw [e2]
    exact trodAll_carry (hA.respare (kids_rows hlaid hmaps) (fun t e hl ht => slices_full_of P hfull t e hl ht) hT hsp) (fun x hx' => same_place hx (hlt x hx'))
  have hres : ∀ (b : Nat) (sp : Nat → Bool) (hd : Bool), DataW.TrodAll enc P W' b sp hd f.resultTypes.toList ((Value.bool true).resultList f.resultTypes.size) (s.fn H (ds ++ [])).results [] := by
    intro b sp hd
    rw [e1, hr]
    exact trodAll_cons_mk (shut_bool hb true) trodAll_mk0
  have hvv : ∀ sp : Nat → Bool, DataW.TrodVars enc P W' sp s.vars (s.fn H (ds ++ [])).vars [] := by
    intro sp
    rw [hvars, e3]; rfl
  have hold : ∀ x ∈ before, (fun b => decide (b < W.heap.size)) x.block = true := fun x hx' => by simpa using hlt x hx'
  refine ⟨ds, [], before, [], before, [], hW', hres _ _ _, hargs _ hold, hvv _, World.keptBut_mono (fun x hx' => ⟨hx', .inr (.inl hx')⟩) (kept_ext hos hout hx (· ∈ before)), fun _ => ?_⟩
  refine ⟨ok_one hr rfl (okWide_bool_mk hb true), _, _, ([] ++ before) ++ [], ⟨[] ++ before, [], trodAll_append (hargs _ (fun _ _ => rfl)) (hres _ _ _), hvv _, rfl, ?_, ?_⟩, ?_⟩
  · intro b off hp
    have hp' : MemPlace.cell b off ∈ before := by simpa using hp
    have h1 := hfz b off hp'
    have h2 : W'.heap[b]? = W.heap[b]? := hx b (hlt _ hp')
    simpa only [World.frozen?, h2] using h1
  · intro ha
    have := hnd ha
    simpa using this
  · intro x hx' _
    simpa using hx'
end

/-! ### reading what comes in -/
theorem list_of {α : Type} {Q : Nat → α → Prop} : ∀ n, (∀ j, j < n → ∃ d, Q j d) → ∃ ds : List α, ds.length = n ∧ ∀ j d, ds[j]? = some d → Q j d := by
  intro n
  induction n with
  | zero => intro _; exact ⟨[], rfl, fun j d h => by simp at h⟩
  | succ n ih =>
    intro h
    obtain ⟨ds, h1, h2⟩ := ih (fun j hj => h j (by omega))
    obtain ⟨d, hd⟩ := h n (by omega)
    refine ⟨ds ++ [d], by simp [h1], fun j c hc => ?_⟩
    rcases Nat.lt_or_ge j ds.length with hlt | hge
    · rw [List.getElem?_append_left hlt] at hc; exact h2 j c hc
    · rw [List.getElem?_append_right hge] at hc
      have : j - ds.length = 0 := by
        have := (List.getElem?_eq_some_iff.1 hc).1
        simp at this; omega
      rw [this] at hc
      simp at hc
      subst hc
      have : j = n := by omega
      exact this ▸ hd
section
variable {H : Type} {enc : TypeId × Value → H} {P : Program} {w : World} {base : Nat} {spare : Nat → Bool} {held : Bool}
/-- A slice that reads: its elements, one by one. -/
theorem rsl_read {α : Type} {t e k fuel : Nat} {cs : List Value} {x : DataW H × List MemPlace} (R : Nat → List Value → α → Prop) (ht : P.underlying t = some (.slice e)) (hk : P.cellsOf e = k) (hk0 : 0 < k) (h : DataW.trod enc P w base spare held fuel t cs = some x)
    (hel : ∀ n cs' y els sp, fuel = n + 1 → x.1 = .slice els sp → y.1 ∈ els → DataW.trod enc P w base spare held n e cs' = some y → ∃ d, R n cs' d) :
    ∃ v ds, cs = [v] ∧ (ds = [] ∨ ∃ n, fuel = n + 1 ∧ ∃ els sp, x.1 = .slice els sp ∧ els.length = ds.length) ∧ (∀ n, fuel = n + 1 → RSl w.heap (fun b => b < w.heap.size) k (R n) v ds) := by
  rcases DataW.trod_slice ht h with ⟨rfl, rfl⟩ | ⟨a, len, cap, elems, rest, n, hn, rfl, rfl, hb, hl, hm, hlen, hel2, hsp, hns⟩
  · exact ⟨_, [], rfl, .inl rfl, fun n _ => .inl ⟨.inl rfl, rfl⟩⟩
  by_cases h0 : len = 0
  · subst h0
    exact ⟨_, [], rfl, .inl rfl, fun n _ => .inl ⟨.inr ⟨_, _, rfl⟩, rfl⟩⟩
  have hone : ∀ j, j < len → ∃ cs' y, w.cells? base (a.add (j * k)) k = some cs' ∧ DataW.trod enc P w base spare held n e cs' = some y ∧ y ∈ elems := by
    intro j hj
    have h1 := hel2 j hj
    rw [List.getElem?_eq_getElem (by omega), hk] at h1
    obtain ⟨cs', h2, h3⟩ := Option.bind_eq_some_iff.1 h1
    exact ⟨cs', _, h2, h3, List.getElem_mem _⟩
  obtain ⟨cs0, y0, h1, _, _⟩ := hone 0 (by omega)
  obtain ⟨_, _, h2⟩ := World.cells?_some h1
  have h3 := h2 0 hk0
  have hc0 : ∃ v0, w.cell? a = some v0 := by
    rw [Nat.zero_mul] at h3
    have e0 : (a.add 0).add 0 = a := rfl
    rw [e0] at h3
    have hl0 : cs0.length = k := (World.cells?_some h1).2.1
    rw [List.getElem?_eq_getElem (by omega)] at h3
    exact ⟨_, h3⟩
  obtain ⟨v0, hc0⟩ := hc0
  obtain ⟨b, off, spot⟩ := a
  have hblk : ∃ c T fz, w.heap[b]? = some (.cells (c : List Value).toArray T fz) ∧ spot = none := by
    unfold World.cell? at hc0
    split at hc0
    · rename_i c T fz hcb
      refine ⟨c.toList, T, fz, by simpa using hcb, ?_⟩
      cases spot with
      | none => rfl
      | some s => simp at hc0
    · cases hc0
  obtain ⟨c, T, fz, hcb, rfl⟩ := hblk
  have hcell : ∀ o, w.cell? ⟨b, o, none⟩ = c[o]? := fun o => cell_of rfl hcb
  have hrow : ∀ j, j < len → ∃ cs' y, (c.drop (off + j * k)).take k = cs' ∧ off + j * k + k ≤ c.length ∧ DataW.trod enc P w base spare held n e cs' = some y ∧ y ∈ elems := by
    intro j hj
    obtain ⟨cs', y, h4, h5, h6⟩ := hone j hj
    obtain ⟨_, h7, h8⟩ := World.cells?_some h4
    have h9 : ∀ i, i < k → c[off + j * k + i]? = cs'[i]? := by
      intro i hi
      rw [← h8 i hi, add_off, add_off, hcell]
    have hle : off + j * k + k ≤ c.length := by
      have := h9 (k - 1) (by omega)
      rw [List.getElem?_eq_getElem (show k - 1 < cs'.length by omega)] at this
      have := (List.getElem?_eq_some_iff.1 this).1
      omega
    refine ⟨cs', y, ?_, hle, h5, h6⟩
    apply List.ext_getElem?
    intro i
    rcases Nat.lt_or_ge i k with hi | hi
    · rw [List.getElem?_take, if_pos hi, List.getElem?_drop, h9 i hi]
    · rw [List.getElem?_eq_none (by simp; omega), List.getElem?_eq_none (by omega)]
  obtain ⟨ds, hdl, hds⟩ := list_of (Q := fun j d => R n ((c.drop (off + j * k)).take k) d) len (fun j hj => by
    obtain ⟨cs', y, h4, _, h5, h6⟩ := hrow j hj
    rw [h4]
    exact hel n cs' y _ _ hn rfl (List.mem_map_of_mem h6) h5)
  refine ⟨_, ds, rfl, .inr ⟨n, hn, _, _, rfl, by simp [hlen, hdl]⟩, fun n' hn' => ?_⟩
  have : n' = n := by omega
  subst this
  refine .inr ⟨b, off, cap, c, T, fz, by rw [hdl], lt_of hcb, hcb, ?_, hds⟩
  obtain ⟨_, _, _, h4, _⟩ := hrow (len - 1) (by omega)
  have h5 : len * k = (len - 1) * k + k := by
    have : len = (len - 1) + 1 := by omega
    rw [this, Nat.add_mul]; simp
  rw [hdl]
  omega
end
end Go.S
