import Derived.Test.YtfomnjippakjpaaHeaps
import Derived.Test.YtfomnjippakjpaaRanks
import Derived.Test.YtfomnjippakjpaaRows
namespace Go.Proofs.Ytfomnjippakjpaa
open Go.S

theorem ivLess (p : Addr) (i j : Int) (w : World) : (callMethod (.iface 94 (.pointer (some p))) "Less" [.int .i64 i, .int .i64 j].toArray).run Try.prog w = .ok (.enter 117 [.pointer (some p), .int .i64 i, .int .i64 j].toArray) w := by kernel_rfl
theorem ivSwap (p : Addr) (i j : Int) (w : World) : (callMethod (.iface 94 (.pointer (some p))) "Swap" [.int .i64 i, .int .i64 j].toArray).run Try.prog w = .ok (.enter 120 [.pointer (some p), .int .i64 i, .int .i64 j].toArray) w := by kernel_rfl
theorem ivLen (p : Addr) (w : World) : (callMethod (.iface 94 (.pointer (some p))) "Len" ([] : List Value).toArray).run Try.prog w = .ok (.enter 116 [.pointer (some p)].toArray) w := by kernel_rfl
theorem ivPop (p : Addr) (w : World) : (callMethod (.iface 94 (.pointer (some p))) "Pop" ([] : List Value).toArray).run Try.prog w = .ok (.enter 118 [.pointer (some p)].toArray) w := by kernel_rfl
theorem ivPush (p : Addr) (v : Value) (w : World) : (callMethod (.iface 94 (.pointer (some p))) "Push" [v].toArray).run Try.prog w = .ok (.enter 119 [.pointer (some p), v].toArray) w := by kernel_rfl

set_option maxRecDepth 100000 in
theorem up66 (H : Heap) (l bm m : Nat) (v : Value) (is : List It) (j : Nat) (hp : Pile H l v bm is) (hm : m ≤ is.length) (hlim : is.length ≤ 4194304) (hj : j < m) (hu : UpI m is j) :
    FN Try.prog 66 [.iface 94 (.pointer (some ⟨l, 0, none⟩)), .int .i64 j] H (fun _ H' => ∃ js, Pile H' l v bm js ∧ HeapN m js ∧ Sh m is js ∧ Frm (pm l v bm) H H') := by
  refine fn_intro 23 Try.func66 rfl Try.ntmps66 rfl ?_
  refine wc_block ?_
  refine wc_loop (fun i : List It × Nat => [(0, .iface 94 (.pointer (some ⟨l, 0, none⟩))), (1, .int .i64 (i.2 : Int))]) (fun i H1 => i.2 < m ∧ Pile H1 l v bm i.1 ∧ UpI m i.1 i.2 ∧ Sh m is i.1 ∧ Frm (pm l v bm) H H1) (fun i => i.2) (is, j) ⟨rfl, rfl, trivial⟩ ⟨hj, hp, hu, Sh.refl _ _, Frm.refl _ _⟩ ?_
  rintro ⟨js, j⟩ H1 ⟨hj, hp, hu, hs, hf⟩
  dsimp only at hj hp hu hs hf
  show WC _ _ _ _ [(0, .iface 94 (.pointer (some ⟨l, 0, none⟩))), (1, .int .i64 (j : Int))] H1
  have hlen := hs.len
  obtain ⟨a, ha⟩ : ∃ a, js[j]? = some a := ⟨_, List.getElem?_eq_getElem (by omega)⟩
  refine wc_block ?_
  refine wc_seq ?_
  refine wc_plain ?_
  refine wf_rd _ rfl rfl (RD.move rfl) rfl ?_
  refine wf_rd _ rfl rfl (RD.sub64 rfl rfl (by omega)) rfl ?_
  refine wf_rd _ rfl rfl (RD.quoPar rfl rfl (by omega)) rfl ?_
  refine wf_rd _ rfl rfl (RD.assign rfl) rfl ?_
  refine wf_nil ?_
  refine at_thn ?_
  refine wc_seq ?_
  refine wc_seq ?_
  rcases Nat.eq_zero_or_pos j with h0 | h0
  ·
    subst h0
    refine wc_plain ?_
    refine wf_rd _ rfl rfl (RD.move rfl) rfl ?_
    refine wf_rd _ rfl rfl (RD.move rfl) rfl ?_
    refine wf_rd _ rfl rfl (RD.cmp true rfl rfl rfl) rfl ?_
    refine wf_rd _ rfl rfl (RD.move rfl) rfl ?_
    refine wf_not rfl rfl rfl ?_
    refine wf_not rfl rfl rfl ?_
    refine wf_not rfl rfl rfl ?_
    refine wf_not rfl rfl rfl ?_
    refine wf_not rfl rfl rfl ?_
    refine wf_rd _ rfl rfl (RD.pickT rfl rfl) rfl ?_
    refine wf_nil ?_
    refine at_thn ?_
    refine wc_yes rfl ?_
    refine wc_exit ?_
    refine at_thn_exit ?_
    refine at_inB_exit rfl ?_
    refine at_lp_exit ?_
    refine at_inB_out ?_
    refine at_norm ?_
    refine at_ret0 rfl  ?_
    exact ⟨js, hp, hu.root, hs, hf⟩
  ·
    obtain ⟨b, hb⟩ : ∃ b, js[(j - 1) / 2]? = some b := ⟨_, List.getElem?_eq_getElem (by omega)⟩
    refine wc_plain ?_
    refine wf_rd _ rfl rfl (RD.move rfl) rfl ?_
    refine wf_rd _ rfl rfl (RD.move rfl) rfl ?_
    refine wf_rd _ rfl rfl (RD.cmp false rfl rfl (congrArg some (beq_eq_false_iff_ne.2 (by omega)))) rfl ?_
    refine wf_rd _ rfl rfl (RD.move rfl) rfl ?_
    refine wf_rd _ rfl rfl (RD.move rfl) rfl ?_
    refine wf_rd _ rfl rfl (RD.move rfl) rfl ?_
    refine wf_rd _ rfl rfl (RD.move rfl) rfl ?_
    refine wf_invoke (rv := .pointer (some ⟨l, 0, none⟩)) rfl rfl (ivLess _ _ _) rfl rfl (less117 _ l bm v js hp j ((j - 1) / 2) a b ha hb) ?_
    rintro _ H11 ⟨rfl, hx11⟩
    replace hp := hp.ext hx11
    replace hf := hf.trans (hx11.frm _)
    refine ⟨trivial, ?_⟩
    refine wf_rd _ rfl rfl (RD.not rfl) rfl ?_
    refine wf_rd _ rfl rfl (RD.pickF rfl rfl) rfl ?_
    refine wf_nil ?_
    refine at_thn ?_
    refine wc_cond rfl (fun hc17 => ?_) (fun hc17 => ?_)
    ·
      have hc : ahd a b = false := by simpa using hc17
      refine wc_exit ?_
      refine at_thn_exit ?_
      refine at_inB_exit rfl ?_
      refine at_lp_exit ?_
      refine at_inB_out ?_
      refine at_norm ?_
      refine at_ret0 rfl  ?_
      exact ⟨js, hp, hu.done ha hb hc, hs, hf⟩
    ·
      have hc : ahd a b = true := by simpa using hc17
      refine wc_skip ?_
      refine at_thn ?_
      refine wc_seq ?_
      refine wc_plain ?_
      refine wf_rd _ rfl rfl (RD.move rfl) rfl ?_
      refine wf_rd _ rfl rfl (RD.move rfl) rfl ?_
      refine wf_rd _ rfl rfl (RD.move rfl) rfl ?_
      refine wf_invoke (rv := .pointer (some ⟨l, 0, none⟩)) rfl rfl (ivSwap _ _ _) rfl rfl (swap120 _ l bm v js hp ((j - 1) / 2) j _ _ hb ha) ?_
      rintro _ H22 ⟨hp22, hf22⟩
      replace hf := hf.trans hf22
      refine ⟨trivial, ?_⟩
      refine wf_nil ?_
      refine at_thn ?_
      refine wc_plain ?_
      refine wf_rd _ rfl rfl (RD.move rfl) rfl ?_
      refine wf_rd _ rfl rfl (RD.assign rfl) rfl ?_
      refine wf_nil ?_
      refine at_inB ?_
      refine at_lp (swp js ((j - 1) / 2) j b a, (j - 1) / 2) (by dsimp only; omega) ⟨rfl, rfl, trivial⟩ ⟨by dsimp only; omega, hp22, hu.step h0 ha hb hc, hs.swap hb ha (by omega) hj, hf⟩

set_option maxRecDepth 100000 in
theorem down59 (H : Heap) (l bm m : Nat) (v : Value) (is : List It) (i0 : Nat) (hp : Pile H l v bm is) (hm : m ≤ is.length) (hlim : is.length ≤ 4194304) (hi0 : i0 < is.length) (hd : DnI m i0 is i0) :
    FN Try.prog 59 [.iface 94 (.pointer (some ⟨l, 0, none⟩)), .int .i64 i0, .int .i64 m] H (fun r H' => ∃ js b, r = .bool b ∧ Pile H' l v bm js ∧ Sh m is js ∧ Frm (pm l v bm) H H' ∧ (b = true → HeapN m js) ∧ (b = false → UpI m js i0)) := by
  refine fn_intro 48 Try.func59 rfl Try.ntmps59 rfl ?_
  refine wc_seq ?_
  refine wc_plain ?_
  refine wf_rd _ rfl rfl (RD.assign rfl) rfl ?_
  refine wf_nil ?_
  refine at_thn ?_
  refine wc_seq ?_
  refine wc_plain ?_
  refine wf_rd _ rfl rfl (RD.move rfl) rfl ?_
  refine wf_rd _ rfl rfl (RD.assign rfl) rfl ?_
  refine wf_nil ?_
  refine at_thn ?_
  refine wc_seq ?_
  refine wc_block ?_
  refine wc_loop (fun i : List It × Nat => [(0, .iface 94 (.pointer (some ⟨l, 0, none⟩))), (1, .int .i64 (i0 : Int)), (2, .int .i64 (m : Int)), (6, .bool false), (7, .int .i64 (i.2 : Int))]) (fun i H1 => i.2 < is.length ∧ i0 ≤ i.2 ∧ Pile H1 l v bm i.1 ∧ DnI m i0 i.1 i.2 ∧ Sh m is i.1 ∧ Frm (pm l v bm) H H1) (fun i => is.length - i.2) (is, i0) ⟨rfl, rfl, rfl, rfl, rfl, trivial⟩ ⟨hi0, Nat.le_refl _, hp, hd, Sh.refl _ _, Frm.refl _ _⟩ ?_
  rintro ⟨js, i⟩ H1 ⟨hi, hii, hp, hd, hs, hf⟩
  dsimp only at hi hii hp hd hs hf
  show WC _ _ _ _ [(0, .iface 94 (.pointer (some ⟨l, 0, none⟩))), (1, .int .i64 (i0 : Int)), (2, .int .i64 (m : Int)), (6, .bool false), (7, .int .i64 (i : Int))] H1
  have hlen := hs.len
  obtain ⟨a, ha⟩ : ∃ a, js[i]? = some a := ⟨_, List.getElem?_eq_getElem (by omega)⟩
  refine wc_block ?_
  refine wc_seq ?_
  refine wc_plain ?_
  refine wf_rd _ rfl rfl (RD.move rfl) rfl ?_
  refine wf_rd _ rfl rfl (RD.mul64 rfl rfl (by omega)) rfl ?_
  refine wf_rd _ rfl rfl (RD.cast (q := ((2 * i + 1 : Nat) : Int)) (RD.add64 rfl rfl (by omega)) (by omega)) rfl ?_
  refine wf_rd _ rfl rfl (RD.assign rfl) rfl ?_
  refine wf_nil ?_
  refine at_thn ?_
  refine wc_seq ?_
  refine wc_seq ?_
  rcases Nat.lt_or_ge (2 * i + 1) m with hb1 | hb1
  ·
    obtain ⟨x1, hx1⟩ : ∃ x1, js[2 * i + 1]? = some x1 := ⟨_, List.getElem?_eq_getElem (by omega)⟩
    refine wc_plain ?_
    refine wf_rd _ rfl rfl (RD.move rfl) rfl ?_
    refine wf_rd _ rfl rfl (RD.move rfl) rfl ?_
    refine wf_rd _ rfl rfl (RD.cmp false rfl rfl (congrArg some (decide_eq_false (by omega)))) rfl ?_
    refine wf_rd _ rfl rfl (RD.move rfl) rfl ?_
    refine wf_rd _ rfl rfl (RD.move rfl) rfl ?_
    refine wf_rd _ rfl rfl (RD.cmp false rfl rfl (congrArg some (decide_eq_false (by omega)))) rfl ?_
    refine wf_rd _ rfl rfl (RD.pickF rfl rfl) rfl ?_
    refine wf_nil ?_
    refine at_thn ?_
    refine wc_no rfl ?_
    refine wc_skip ?_
    refine at_thn ?_
    refine wc_seq ?_
    refine wc_plain ?_
    refine wf_rd _ rfl rfl (RD.move rfl) rfl ?_
    refine wf_rd _ rfl rfl (RD.assign rfl) rfl ?_
    refine wf_nil ?_
    refine at_thn ?_
    refine wc_seq ?_
    refine wc_seq ?_
    refine wc_plain ?_
    refine wf_rd _ rfl rfl (RD.move rfl) rfl ?_
    refine wf_rd _ rfl rfl (RD.cast (q := ((2 * i + 2 : Nat) : Int)) (RD.add64 rfl rfl (by omega)) (by omega)) rfl ?_
    refine wf_rd _ rfl rfl (RD.assign rfl) rfl ?_
    refine wf_nil ?_
    refine at_thn ?_
    refine wc_seq ?_
    rcases Nat.lt_or_ge (2 * i + 2) m with hb2 | hb2
    ·
      obtain ⟨x2, hx2⟩ : ∃ x2, js[2 * i + 2]? = some x2 := ⟨_, List.getElem?_eq_getElem (by omega)⟩
      refine wc_plain ?_
      refine wf_rd _ rfl rfl (RD.move rfl) rfl ?_
      refine wf_rd _ rfl rfl (RD.move rfl) rfl ?_
      refine wf_rd _ rfl rfl (RD.cmp true rfl rfl (congrArg some (decide_eq_true (by omega)))) rfl ?_
      refine wf_rd _ rfl rfl (RD.move rfl) rfl ?_
      refine wf_rd _ rfl rfl (RD.move rfl) rfl ?_
      refine wf_rd _ rfl rfl (RD.move rfl) rfl ?_
      refine wf_rd _ rfl rfl (RD.move rfl) rfl ?_
      refine wf_invoke (rv := .pointer (some ⟨l, 0, none⟩)) rfl rfl (ivLess _ _ _) rfl rfl (less117 _ l bm v js hp (2 * i + 2) (2 * i + 1) x2 x1 hx2 hx1) ?_
      rintro _ H11 ⟨rfl, hx11⟩
      replace hp := hp.ext hx11
      replace hf := hf.trans (hx11.frm _)
      refine ⟨trivial, ?_⟩
      refine wf_rd _ rfl rfl (RD.pickT rfl rfl) rfl ?_
      refine wf_nil ?_
      refine at_thn ?_
      refine wc_cond rfl (fun hc33 => ?_) (fun hc33 => ?_)
      ·
        obtain ⟨jb, hjbe⟩ : ∃ jb, 2 * i + 2 = jb := ⟨_, rfl⟩
        obtain ⟨b, hbe⟩ : ∃ b, x2 = b := ⟨_, rfl⟩
        have hbest : ∀ k c, 0 < k → k < m → (k - 1) / 2 = i → js[k]? = some c → ahd c b = false := by
          intro k c h0 hk hpk hck
          subst hbe
          have hk2 : k = 2 * i + 1 ∨ k = 2 * i + 2 := by omega
          rcases hk2 with rfl | rfl
          · rw [hx1] at hck; cases hck; exact ahd_asymm hc33
          · rw [hx2] at hck; cases hck; exact ahd_irrefl _
        have hjb : jb < m := by omega
        have hpar : (jb - 1) / 2 = i := by omega
        have hj0 : 0 < jb := by omega
        have hb : js[jb]? = some b := by rw [← hjbe, ← hbe]; assumption
        rw [hjbe]
        refine wc_plain ?_
        refine wf_rd _ rfl rfl (RD.move rfl) rfl ?_
        refine wf_rd _ rfl rfl (RD.assign rfl) rfl ?_
        refine wf_nil ?_
        refine at_thn ?_
        refine wc_seq ?_
        refine wc_seq ?_
        refine wc_plain ?_
        refine wf_rd _ rfl rfl (RD.move rfl) rfl ?_
        refine wf_rd _ rfl rfl (RD.move rfl) rfl ?_
        refine wf_rd _ rfl rfl (RD.move rfl) rfl ?_
        refine wf_invoke (rv := .pointer (some ⟨l, 0, none⟩)) rfl rfl (ivLess _ _ _) rfl rfl (less117 _ l bm v js hp jb i b a hb ha) ?_
        rintro _ H21 ⟨rfl, hx21⟩
        replace hp := hp.ext hx21
        replace hf := hf.trans (hx21.frm _)
        refine ⟨trivial, ?_⟩
        refine wf_rd _ rfl rfl (RD.not rfl) rfl ?_
        refine wf_nil ?_
        refine at_thn ?_
        refine wc_cond rfl (fun hc39 => ?_) (fun hc39 => ?_)
        ·
          have hc : ahd b a = false := by simpa using hc39
          have hbesta : ∀ k c, 0 < k → k < m → (k - 1) / 2 = i → js[k]? = some c → ahd c a = false := fun k c h0 hk hpk hck => nb_trans hc (hbest k c h0 hk hpk hck)
          refine wc_exit ?_
          refine at_thn_exit ?_
          refine at_inB_exit rfl ?_
          refine at_lp_exit ?_
          refine at_inB_out ?_
          refine at_thn ?_
          refine wc_seq ?_
          refine wc_plain ?_
          refine wf_rd _ rfl rfl (RD.move rfl) rfl ?_
          refine wf_rd _ rfl rfl (RD.move rfl) rfl ?_
          refine wf_rd _ rfl rfl (RD.cmp _ rfl rfl rfl) rfl ?_
          refine wf_rd _ rfl rfl (RD.assign rfl) rfl ?_
          refine wf_nil ?_
          refine at_thn ?_
          refine wc_ret ?_
          refine at_ret1 rfl rfl ?_
          have hd' := hd.done ha hbesta
          refine ⟨js, decide (i0 < i), congrArg Value.bool (by simp), hp, hs, hf, fun h => hd'.1 (by have := of_decide_eq_true h; omega), fun h => hd'.2 (by have := of_decide_eq_false h; omega)⟩
        ·
          have hc : ahd b a = true := by simpa using hc39
          refine wc_skip ?_
          refine at_thn ?_
          refine wc_seq ?_
          refine wc_plain ?_
          refine wf_rd _ rfl rfl (RD.move rfl) rfl ?_
          refine wf_rd _ rfl rfl (RD.move rfl) rfl ?_
          refine wf_rd _ rfl rfl (RD.move rfl) rfl ?_
          refine wf_invoke (rv := .pointer (some ⟨l, 0, none⟩)) rfl rfl (ivSwap _ _ _) rfl rfl (swap120 _ l bm v js hp i jb _ _ ha hb) ?_
          rintro _ H30 ⟨hp30, hf30⟩
          replace hf := hf.trans hf30
          refine ⟨trivial, ?_⟩
          refine wf_nil ?_
          refine at_thn ?_
          refine wc_plain ?_
          refine wf_rd _ rfl rfl (RD.move rfl) rfl ?_
          refine wf_rd _ rfl rfl (RD.assign rfl) rfl ?_
          refine wf_nil ?_
          refine at_inB ?_
          refine at_lp (swp js i jb a b, jb) (by dsimp only; omega) ⟨rfl, rfl, rfl, rfl, rfl, trivial⟩ ⟨by dsimp only; omega, by dsimp only; omega, hp30, hd.step hii hjb hpar hj0 ha hb hc hbest, hs.swap ha hb (by omega) hjb, hf⟩
      ·
        obtain ⟨jb, hjbe⟩ : ∃ jb, 2 * i + 1 = jb := ⟨_, rfl⟩
        obtain ⟨b, hbe⟩ : ∃ b, x1 = b := ⟨_, rfl⟩
        have hbest : ∀ k c, 0 < k → k < m → (k - 1) / 2 = i → js[k]? = some c → ahd c b = false := by
          intro k c h0 hk hpk hck
          subst hbe
          have hk2 : k = 2 * i + 1 ∨ k = 2 * i + 2 := by omega
          rcases hk2 with rfl | rfl
          · rw [hx1] at hck; cases hck; exact ahd_irrefl _
          · rw [hx2] at hck; cases hck; exact hc33
        have hjb : jb < m := by omega
        have hpar : (jb - 1) / 2 = i := by omega
        have hj0 : 0 < jb := by omega
        have hb : js[jb]? = some b := by rw [← hjbe, ← hbe]; assumption
        rw [hjbe]
        refine wc_skip ?_
        refine at_thn ?_
        refine wc_seq ?_
        refine wc_seq ?_
        refine wc_plain ?_
        refine wf_rd _ rfl rfl (RD.move rfl) rfl ?_
        refine wf_rd _ rfl rfl (RD.move rfl) rfl ?_
        refine wf_rd _ rfl rfl (RD.move rfl) rfl ?_
        refine wf_invoke (rv := .pointer (some ⟨l, 0, none⟩)) rfl rfl (ivLess _ _ _) rfl rfl (less117 _ l bm v js hp jb i b a hb ha) ?_
        rintro _ H21 ⟨rfl, hx21⟩
        replace hp := hp.ext hx21
        replace hf := hf.trans (hx21.frm _)
        refine ⟨trivial, ?_⟩
        refine wf_rd _ rfl rfl (RD.not rfl) rfl ?_
        refine wf_nil ?_
        refine at_thn ?_
        refine wc_cond rfl (fun hc39 => ?_) (fun hc39 => ?_)
        ·
          have hc : ahd b a = false := by simpa using hc39
          have hbesta : ∀ k c, 0 < k → k < m → (k - 1) / 2 = i → js[k]? = some c → ahd c a = false := fun k c h0 hk hpk hck => nb_trans hc (hbest k c h0 hk hpk hck)
          refine wc_exit ?_
          refine at_thn_exit ?_
          refine at_inB_exit rfl ?_
          refine at_lp_exit ?_
          refine at_inB_out ?_
          refine at_thn ?_
          refine wc_seq ?_
          refine wc_plain ?_
          refine wf_rd _ rfl rfl (RD.move rfl) rfl ?_
          refine wf_rd _ rfl rfl (RD.move rfl) rfl ?_
          refine wf_rd _ rfl rfl (RD.cmp _ rfl rfl rfl) rfl ?_
          refine wf_rd _ rfl rfl (RD.assign rfl) rfl ?_
          refine wf_nil ?_
          refine at_thn ?_
          refine wc_ret ?_
          refine at_ret1 rfl rfl ?_
          have hd' := hd.done ha hbesta
          refine ⟨js, decide (i0 < i), congrArg Value.bool (by simp), hp, hs, hf, fun h => hd'.1 (by have := of_decide_eq_true h; omega), fun h => hd'.2 (by have := of_decide_eq_false h; omega)⟩
        ·
          have hc : ahd b a = true := by simpa using hc39
          refine wc_skip ?_
          refine at_thn ?_
          refine wc_seq ?_
          refine wc_plain ?_
          refine wf_rd _ rfl rfl (RD.move rfl) rfl ?_
          refine wf_rd _ rfl rfl (RD.move rfl) rfl ?_
          refine wf_rd _ rfl rfl (RD.move rfl) rfl ?_
          refine wf_invoke (rv := .pointer (some ⟨l, 0, none⟩)) rfl rfl (ivSwap _ _ _) rfl rfl (swap120 _ l bm v js hp i jb _ _ ha hb) ?_
          rintro _ H30 ⟨hp30, hf30⟩
          replace hf := hf.trans hf30
          refine ⟨trivial, ?_⟩
          refine wf_nil ?_
          refine at_thn ?_
          refine wc_plain ?_
          refine wf_rd _ rfl rfl (RD.move rfl) rfl ?_
          refine wf_rd _ rfl rfl (RD.assign rfl) rfl ?_
          refine wf_nil ?_
          refine at_inB ?_
          refine at_lp (swp js i jb a b, jb) (by dsimp only; omega) ⟨rfl, rfl, rfl, rfl, rfl, trivial⟩ ⟨by dsimp only; omega, by dsimp only; omega, hp30, hd.step hii hjb hpar hj0 ha hb hc hbest, hs.swap ha hb (by omega) hjb, hf⟩
    ·
      refine wc_plain ?_
      refine wf_rd _ rfl rfl (RD.move rfl) rfl ?_
      refine wf_rd _ rfl rfl (RD.move rfl) rfl ?_
      refine wf_rd _ rfl rfl (RD.cmp false rfl rfl (congrArg some (decide_eq_false (by omega)))) rfl ?_
      refine wf_rd _ rfl rfl (RD.move rfl) rfl ?_
      refine wf_not rfl rfl rfl ?_
      refine wf_not rfl rfl rfl ?_
      refine wf_not rfl rfl rfl ?_
      refine wf_not rfl rfl rfl ?_
      refine wf_rd _ rfl rfl (RD.pickF rfl rfl) rfl ?_
      obtain ⟨jb, hjbe⟩ : ∃ jb, 2 * i + 1 = jb := ⟨_, rfl⟩
      obtain ⟨b, hbe⟩ : ∃ b, x1 = b := ⟨_, rfl⟩
      have hbest : ∀ k c, 0 < k → k < m → (k - 1) / 2 = i → js[k]? = some c → ahd c b = false := by
        intro k c h0 hk hpk hck
        subst hbe
        have hk2 : k = 2 * i + 1 := by omega
        subst hk2
        rw [hx1] at hck; cases hck; exact ahd_irrefl _
      have hjb : jb < m := by omega
      have hpar : (jb - 1) / 2 = i := by omega
      have hj0 : 0 < jb := by omega
      have hb : js[jb]? = some b := by rw [← hjbe, ← hbe]; assumption
      rw [hjbe]
      refine wf_nil ?_
      refine at_thn ?_
      refine wc_no rfl ?_
      refine wc_skip ?_
      refine at_thn ?_
      refine wc_seq ?_
      refine wc_seq ?_
      refine wc_plain ?_
      refine wf_rd _ rfl rfl (RD.move rfl) rfl ?_
      refine wf_rd _ rfl rfl (RD.move rfl) rfl ?_
      refine wf_rd _ rfl rfl (RD.move rfl) rfl ?_
      refine wf_invoke (rv := .pointer (some ⟨l, 0, none⟩)) rfl rfl (ivLess _ _ _) rfl rfl (less117 _ l bm v js hp jb i b a hb ha) ?_
      rintro _ H21 ⟨rfl, hx21⟩
      replace hp := hp.ext hx21
      replace hf := hf.trans (hx21.frm _)
      refine ⟨trivial, ?_⟩
      refine wf_rd _ rfl rfl (RD.not rfl) rfl ?_
      refine wf_nil ?_
      refine at_thn ?_
      refine wc_cond rfl (fun hc39 => ?_) (fun hc39 => ?_)
      ·
        have hc : ahd b a = false := by simpa using hc39
        have hbesta : ∀ k c, 0 < k → k < m → (k - 1) / 2 = i → js[k]? = some c → ahd c a = false := fun k c h0 hk hpk hck => nb_trans hc (hbest k c h0 hk hpk hck)
        refine wc_exit ?_
        refine at_thn_exit ?_
        refine at_inB_exit rfl ?_
        refine at_lp_exit ?_
        refine at_inB_out ?_
        refine at_thn ?_
        refine wc_seq ?_
        refine wc_plain ?_
        refine wf_rd _ rfl rfl (RD.move rfl) rfl ?_
        refine wf_rd _ rfl rfl (RD.move rfl) rfl ?_
        refine wf_rd _ rfl rfl (RD.cmp _ rfl rfl rfl) rfl ?_
        refine wf_rd _ rfl rfl (RD.assign rfl) rfl ?_
        refine wf_nil ?_
        refine at_thn ?_
        refine wc_ret ?_
        refine at_ret1 rfl rfl ?_
        have hd' := hd.done ha hbesta
        refine ⟨js, decide (i0 < i), congrArg Value.bool (by simp), hp, hs, hf, fun h => hd'.1 (by have := of_decide_eq_true h; omega), fun h => hd'.2 (by have := of_decide_eq_false h; omega)⟩
      ·
        have hc : ahd b a = true := by simpa using hc39
        refine wc_skip ?_
        refine at_thn ?_
        refine wc_seq ?_
        refine wc_plain ?_
        refine wf_rd _ rfl rfl (RD.move rfl) rfl ?_
        refine wf_rd _ rfl rfl (RD.move rfl) rfl ?_
        refine wf_rd _ rfl rfl (RD.move rfl) rfl ?_
        refine wf_invoke (rv := .pointer (some ⟨l, 0, none⟩)) rfl rfl (ivSwap _ _ _) rfl rfl (swap120 _ l bm v js hp i jb _ _ ha hb) ?_
        rintro _ H30 ⟨hp30, hf30⟩
        replace hf := hf.trans hf30
        refine ⟨trivial, ?_⟩
        refine wf_nil ?_
        refine at_thn ?_
        refine wc_plain ?_
        refine wf_rd _ rfl rfl (RD.move rfl) rfl ?_
        refine wf_rd _ rfl rfl (RD.assign rfl) rfl ?_
        refine wf_nil ?_
        refine at_inB ?_
        refine at_lp (swp js i jb a b, jb) (by dsimp only; omega) ⟨rfl, rfl, rfl, rfl, rfl, trivial⟩ ⟨by dsimp only; omega, by dsimp only; omega, hp30, hd.step hii hjb hpar hj0 ha hb hc hbest, hs.swap ha hb (by omega) hjb, hf⟩
  ·
    have hbesta : ∀ k c, 0 < k → k < m → (k - 1) / 2 = i → js[k]? = some c → ahd c a = false := fun k c h0 hk hpk => absurd hk (by omega)
    refine wc_plain ?_
    refine wf_rd _ rfl rfl (RD.move rfl) rfl ?_
    refine wf_rd _ rfl rfl (RD.move rfl) rfl ?_
    refine wf_rd _ rfl rfl (RD.cmp true rfl rfl (congrArg some (decide_eq_true (by omega)))) rfl ?_
    refine wf_rd _ rfl rfl (RD.move rfl) rfl ?_
    refine wf_not rfl rfl rfl ?_
    refine wf_not rfl rfl rfl ?_
    refine wf_rd _ rfl rfl (RD.pickT rfl rfl) rfl ?_
    refine wf_nil ?_
    refine at_thn ?_
    refine wc_yes rfl ?_
    refine wc_exit ?_
    refine at_thn_exit ?_
    refine at_inB_exit rfl ?_
    refine at_lp_exit ?_
    refine at_inB_out ?_
    refine at_thn ?_
    refine wc_seq ?_
    refine wc_plain ?_
    refine wf_rd _ rfl rfl (RD.move rfl) rfl ?_
    refine wf_rd _ rfl rfl (RD.move rfl) rfl ?_
    refine wf_rd _ rfl rfl (RD.cmp _ rfl rfl rfl) rfl ?_
    refine wf_rd _ rfl rfl (RD.assign rfl) rfl ?_
    refine wf_nil ?_
    refine at_thn ?_
    refine wc_ret ?_
    refine at_ret1 rfl rfl ?_
    have hd' := hd.done ha hbesta
    refine ⟨js, decide (i0 < i), congrArg Value.bool (by simp), hp, hs, hf, fun h => hd'.1 (by have := of_decide_eq_true h; omega), fun h => hd'.2 (by have := of_decide_eq_false h; omega)⟩
end Go.Proofs.Ytfomnjippakjpaa
