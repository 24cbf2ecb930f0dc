/-
  The heap's order: what the ways up and down keep.
-/
import Derived.Test.YtfomnjippakjpaaPile
namespace Go.S

def Ok (js : List It) (k : Nat) : Prop := ∀ a b, js[k]? = some a → js[(k - 1) / 2]? = some b → ahd a b = false
def HeapN (n : Nat) (js : List It) : Prop := ∀ k, 0 < k → k < n → Ok js k
/-- Nothing under a place stands ahead of what is over it. -/
def Under (n : Nat) (js : List It) (i : Nat) : Prop := ∀ k, 0 < k → k < n → (k - 1) / 2 = i → 0 < i → ∀ a b, js[k]? = some a → js[(i - 1) / 2]? = some b → ahd a b = false
def UpI (n : Nat) (js : List It) (j : Nat) : Prop := (∀ k, 0 < k → k < n → k ≠ j → Ok js k) ∧ Under n js j
def DnI (n i0 : Nat) (js : List It) (i : Nat) : Prop := (∀ k, 0 < k → k < n → (k - 1) / 2 ≠ i → (k ≠ i0 ∨ i ≠ i0) → Ok js k) ∧ Under n js i

theorem UpI.root {n : Nat} {js : List It} (h : UpI n js 0) : HeapN n js := fun k h0 hk => h.1 k h0 hk (by omega)
theorem UpI.done {n : Nat} {js : List It} {j : Nat} {a b : It} (h : UpI n js j) (ha : js[j]? = some a) (hb : js[(j - 1) / 2]? = some b) (hx : ahd a b = false) : HeapN n js := by
  intro k h0 hk
  by_cases e : k = j
  · subst e
    intro a' b' ha' hb'
    rw [ha] at ha'; rw [hb] at hb'
    cases ha'; cases hb'; exact hx
  · exact h.1 k h0 hk e
theorem UpI.step {n : Nat} {js : List It} {j : Nat} {a b : It} (h : UpI n js j) (hj : 0 < j) (ha : js[j]? = some a) (hb : js[(j - 1) / 2]? = some b) (hx : ahd a b = true) :
    UpI n (swp js ((j - 1) / 2) j b a) ((j - 1) / 2) := by
  have hlt : (j - 1) / 2 < j := by omega
  constructor
  · intro k h0 hk hne x y hx' hy'
    rw [swp_get hb ha] at hx' hy'
    by_cases e : k = j
    · subst e
      rw [if_pos rfl] at hx'
      rw [if_neg (by omega), if_pos rfl] at hy'
      cases hx'; cases hy'
      exact ahd_asymm hx
    · rw [if_neg e, if_neg hne] at hx'
      by_cases e1 : (k - 1) / 2 = j
      · rw [if_pos e1] at hy'
        cases hy'
        exact h.2 k h0 hk e1 hj x b hx' hb
      · rw [if_neg e1] at hy'
        by_cases e2 : (k - 1) / 2 = (j - 1) / 2
        · rw [if_pos e2] at hy'
          cases hy'
          have := h.1 k h0 hk e x b hx' (by rw [e2]; exact hb)
          exact nb_trans (ahd_asymm hx) this
        · rw [if_neg e2] at hy'
          exact h.1 k h0 hk e x y hx' hy'
  · intro k h0 hk hpar hpos x y hx' hy'
    rw [swp_get hb ha] at hx' hy'
    rw [if_neg (by omega), if_neg (by omega)] at hy'
    have hpok := h.1 ((j - 1) / 2) hpos (by omega) (by omega) b y hb hy'
    by_cases e : k = j
    · rw [if_pos e] at hx'
      cases hx'; exact hpok
    · rw [if_neg e, if_neg (by omega)] at hx'
      have := h.1 k h0 hk e x b hx' (by rw [hpar]; exact hb)
      exact nb_trans hpok this

theorem DnI.step {n i0 : Nat} {js : List It} {i j : Nat} {a b : It} (h : DnI n i0 js i) (hi0 : i0 ≤ i) (hj : j < n) (hp : (j - 1) / 2 = i) (hj0 : 0 < j) (ha : js[i]? = some a) (hb : js[j]? = some b) (hx : ahd b a = true)
    (hbest : ∀ k c, 0 < k → k < n → (k - 1) / 2 = i → js[k]? = some c → ahd c b = false) : DnI n i0 (swp js i j a b) j := by
  have hlt : i < j := by omega
  constructor
  · intro k h0 hk hpar hne x y hx' hy'
    rw [swp_get ha hb] at hx' hy'
    rw [if_neg hpar] at hy'
    by_cases e : k = j
    · subst e
      rw [if_pos rfl] at hx'
      rw [if_pos hp] at hy'
      cases hx'; cases hy'
      exact ahd_asymm hx
    · rw [if_neg e] at hx'
      by_cases e1 : k = i
      · subst e1
        rw [if_pos rfl] at hx'
        cases hx'
        rw [if_neg (by omega)] at hy'
        exact h.2 j hj0 hj hp h0 b y hb hy'
      · rw [if_neg e1] at hx'
        by_cases e2 : (k - 1) / 2 = i
        · rw [if_pos e2] at hy'
          cases hy'
          exact hbest k x h0 hk e2 hx'
        · rw [if_neg e2] at hy'
          exact h.1 k h0 hk e2 (by omega) x y hx' hy'
  · intro k h0 hk hpar hpos x y hx' hy'
    rw [swp_get ha hb] at hx' hy'
    rw [hp, if_neg (by omega), if_pos rfl] at hy'
    cases hy'
    rw [if_neg (by omega), if_neg (by omega)] at hx'
    exact h.1 k h0 hk (by omega) (by omega) x b hx' (by rw [hpar]; exact hb)
/-- The way down is at its end. -/
theorem DnI.done {n i0 : Nat} {js : List It} {i : Nat} {a : It} (h : DnI n i0 js i) (ha : js[i]? = some a) (hbest : ∀ k c, 0 < k → k < n → (k - 1) / 2 = i → js[k]? = some c → ahd c a = false) :
    (i ≠ i0 → HeapN n js) ∧ (i = i0 → UpI n js i0) := by
  have hk' : ∀ k, 0 < k → k < n → (k ≠ i0 ∨ i ≠ i0) → Ok js k := by
    intro k h0 hk hne
    by_cases e : (k - 1) / 2 = i
    · intro x y hx hy
      rw [e, ha] at hy
      cases hy
      exact hbest k x h0 hk e hx
    · exact h.1 k h0 hk e hne
  exact ⟨fun e k h0 hk => hk' k h0 hk (.inr e), fun e => ⟨fun k h0 hk hne => hk' k h0 hk (.inl hne), e ▸ h.2⟩⟩

/-- The head is ahead of all. -/
theorem HeapN.head {n : Nat} {js : List It} (h : HeapN n js) (hn : n ≤ js.length) {a : It} (ha : js[0]? = some a) : ∀ k b, k < n → js[k]? = some b → ahd b a = false := by
  intro k
  induction k using Nat.strongRecOn with
  | _ k ih =>
    intro b hk hb
    by_cases h0 : k = 0
    · subst h0; rw [ha] at hb; cases hb; exact ahd_irrefl a
    · have hlt : (k - 1) / 2 < k := by omega
      have hp : (k - 1) / 2 < js.length := by omega
      have h1 := ih _ hlt js[(k - 1) / 2] (by omega) (List.getElem?_eq_getElem hp)
      have h2 := h k (by omega) hk b _ hb (List.getElem?_eq_getElem hp)
      exact nb_trans h1 h2
theorem HeapN.take {n : Nat} {js : List It} (h : HeapN n js) (m : Nat) : HeapN n (js.take m) := by
  intro k h0 hk a b ha hb
  rw [List.getElem?_take] at ha hb
  split at ha
  · split at hb
    · exact h k h0 hk a b ha hb
    · cases hb
  · cases ha
theorem HeapN.push {js : List It} (h : HeapN js.length js) (a : It) : UpI (js.length + 1) (js ++ [a]) js.length := by
  constructor
  · intro k h0 hk hne x y hx hy
    rw [List.getElem?_append_left (by omega)] at hx
    rw [List.getElem?_append_left (by omega)] at hy
    exact h k h0 (by omega) x y hx hy
  · intro k h0 hk hpar
    omega
/-- Taking the last into a place. -/
theorem HeapN.put {js : List It} {n i : Nat} {a b : It} (h : HeapN (n + 1) js) (hi : i < n) (ha : js[i]? = some a) (hb : js[n]? = some b) : DnI n i (swp js i n a b) i := by
  constructor
  · intro k h0 hk hpar hne x y hx hy
    rw [swp_get ha hb] at hx hy
    rw [if_neg (by omega), if_neg (by omega)] at hx
    rw [if_neg (by omega), if_neg hpar] at hy
    exact h k h0 (by omega) x y hx hy
  · intro k h0 hk hpar hpos x y hx hy
    rw [swp_get ha hb] at hx hy
    rw [if_neg (by omega), if_neg (by omega)] at hx
    rw [if_neg (by omega), if_neg (by omega)] at hy
    have h1 := h k h0 (by omega) x a hx (by rw [hpar]; exact ha)
    have h2 := h i hpos (by omega) a y ha hy
    exact nb_trans h2 h1
theorem HeapN.mono {js : List It} {n m : Nat} (h : HeapN n js) (hm : m ≤ n) : HeapN m js := fun k h0 hk => h k h0 (by omega)

/-- The same items, and the same from a place on. -/
structure Sh (n : Nat) (is js : List It) : Prop where
  len : js.length = is.length
  mem : ∀ c, c ∈ js ↔ c ∈ is
  tail : ∀ x, n ≤ x → js[x]? = is[x]?
theorem Sh.refl (n : Nat) (is : List It) : Sh n is is := ⟨rfl, fun _ => Iff.rfl, fun _ _ => rfl⟩
theorem Sh.trans {n : Nat} {a b c : List It} (h : Sh n a b) (k : Sh n b c) : Sh n a c := ⟨k.len.trans h.len, fun x => (k.mem x).trans (h.mem x), fun x hx => (k.tail x hx).trans (h.tail x hx)⟩
theorem Sh.swap {n : Nat} {is js : List It} {i j : Nat} {a b : It} (h : Sh n is js) (hi : js[i]? = some a) (hj : js[j]? = some b) (h1 : i < n) (h2 : j < n) : Sh n is (swp js i j a b) :=
  ⟨by rw [swp_len]; exact h.len, fun c => (swp_mem hi hj c).trans (h.mem c), fun x hx => by rw [swp_get hi hj, if_neg (by omega), if_neg (by omega)]; exact h.tail x hx⟩
/-- An item is out of a pile. -/
structure Gone (is : List It) (a : It) (js : List It) : Prop where
  heap : HeapN js.length js
  len : js.length + 1 = is.length
  mem : ∀ c, c ∈ js ↔ c ∈ is ∧ c ≠ a
theorem last_split {js : List It} {n : Nat} {a : It} (hl : js.length = n + 1) (ha : js[n]? = some a) : js = js.take n ++ [a] := by
  have h1 : js.take (n + 1) = js.take n ++ js[n]?.toList := List.take_add_one
  rw [ha, List.take_of_length_le (by omega)] at h1
  simpa using h1
theorem gone_of {is js : List It} {n : Nat} {a : It} (hs : ∀ c, c ∈ js ++ [a] ↔ c ∈ is) (hl : is.length = n + 1) (hl' : js.length = n) (hn : ((js ++ [a]).map It.s).Nodup) (hh : HeapN n js) : Gone is a js := by
  refine ⟨hl' ▸ hh, by omega, fun c => ?_⟩
  have hna : a ∉ js := by
    intro ha
    rw [List.map_append, List.nodup_append] at hn
    exact hn.2.2 _ (List.mem_map_of_mem ha) a.s (by simp) rfl
  rw [← hs c]
  simp only [List.mem_append, List.mem_singleton]
  constructor
  · intro h; exact ⟨.inl h, fun e => hna (e ▸ h)⟩
  · rintro ⟨h | h, hne⟩
    · exact h
    · exact absurd h hne
theorem Frm.trans' {M M' : Nat → Prop} {a b c : Heap} (h : Frm M a b) (k : Frm M' b c) (hm : ∀ j, j < a.size → M' j → M j) : Frm M a c :=
  ⟨Nat.le_trans h.size k.size, fun j hj hn => (k.old j (Nat.lt_of_lt_of_le hj h.size) (fun x => hn (hm j hj x))).trans (h.old j hj hn)⟩
def mov (H : Heap) (v v' : Value) : Prop := v'.ownBlock = v.ownBlock ∨ ∃ g, v'.ownBlock = some g ∧ H.size ≤ g
theorem pm_mov {H : Heap} {l bm : Nat} {v v' : Value} (h : mov H v v') : ∀ j, j < H.size → pm l v' bm j → pm l v bm j := by
  rintro j hj (h1 | h1 | h1)
  · exact .inl h1
  · rcases h with h | ⟨g, h2, h3⟩
    · exact .inr (.inl (h ▸ h1))
    · rw [h2] at h1; have := Option.some.inj h1; omega
  · exact .inr (.inr h1)
/-- An item is in a pile. -/
structure Come (is : List It) (a : It) (js : List It) : Prop where
  heap : HeapN js.length js
  len : js.length = is.length + 1
  mem : ∀ c, c ∈ js ↔ c ∈ is ∨ c = a
end Go.S
