import Derived.Test.YtfomnjippakjpaaHeapWalk
import Derived.Test.YtfomnjippakjpaaRows
namespace Go.Proofs.Ytfomnjippakjpaa
open Go.S

set_option maxRecDepth 100000 in
theorem push56 (H : Heap) (l bm : Nat) (v : Value) (is : List It) (a : It) (hp : Pile H l v bm is) (hh : HeapN is.length is) (hn : ∀ b ∈ is, b.s ≠ a.s) (hlt : is.length < 4194304) :
    FN Try.prog 56 [.iface 94 (.pointer (some ⟨l, 0, none⟩)), .iface 69 (.agg a.cells.toArray)] H (fun _ H' => ∃ js v', mov H v v' ∧ Pile H' l v' bm js ∧ Come is a js ∧ Frm (pm l v bm) H H') := by
  refine fn_intro 12 Try.func56 rfl Try.ntmps56 rfl ?_
  refine wc_seq ?_
  refine wc_plain ?_
  refine wf_rd _ rfl rfl (RD.move rfl) rfl ?_
  refine wf_rd _ rfl rfl (RD.move rfl) rfl ?_
  refine wf_invoke (rv := .pointer (some ⟨l, 0, none⟩)) rfl rfl (ivPush _ _) rfl rfl (push119 H l bm v is a hp hn hlt) ?_
  rintro _ H1 ⟨v1, hp1, hv1, hf1⟩
  refine ⟨trivial, ?_⟩
  have hlen1 : (is ++ [a]).length = is.length + 1 := by simp
  refine wf_nil ?_
  refine at_thn ?_
  refine wc_plain ?_
  refine wf_rd _ rfl rfl (RD.move rfl) rfl ?_
  refine wf_rd _ rfl rfl (RD.move rfl) rfl ?_
  refine wf_invoke (rv := .pointer (some ⟨l, 0, none⟩)) rfl rfl (ivLen _) rfl rfl (len116 H1 l bm v1 (is ++ [a]) hp1) ?_
  rintro _ _ ⟨rfl, rfl⟩
  refine ⟨trivial, ?_⟩
  rw [hlen1]
  refine wf_rd _ rfl rfl (RD.sub1 rfl rfl (by omega)) rfl ?_
  refine wf_call rfl en66 rfl rfl (up66 _ l bm (is.length + 1) v1 (is ++ [a]) is.length hp1 (by omega) (by omega) (by omega) (hh.push a)) ?_
  rintro _ H2 ⟨js, hp2, hh2, hs2, hf2⟩
  refine ⟨trivial, ?_⟩
  refine wf_nil ?_
  refine at_norm ?_
  refine at_ret0 rfl  ?_
  refine ⟨js, v1, hv1, hp2, ⟨?_, ?_, ?_⟩, hf1.trans' hf2 (pm_mov hv1)⟩
  · rw [hs2.len, hlen1]; exact hh2
  · rw [hs2.len, hlen1]
  · intro c; rw [hs2.mem]; simp

set_option maxRecDepth 100000 in
theorem pop46 (H : Heap) (l bm : Nat) (v : Value) (is : List It) (a : It) (hp : Pile H l v bm is) (hh : HeapN is.length is) (ha : is[0]? = some a) (hlt : is.length ≤ 4194304) :
    FN Try.prog 46 [.iface 94 (.pointer (some ⟨l, 0, none⟩))] H (fun r H' => ∃ js v', r = .iface 69 (.agg a.cells.toArray) ∧ mov H v v' ∧ Pile H' l v' bm js ∧ Gone is a js ∧ Frm (pm l v bm) H H') := by
  obtain ⟨n, hlen⟩ : ∃ n, is.length = n + 1 := ⟨is.length - 1, by have := (List.getElem?_eq_some_iff.1 ha).1; omega⟩
  obtain ⟨z, hz⟩ : ∃ z, is[n]? = some z := ⟨_, List.getElem?_eq_getElem (by omega)⟩
  have hdn : DnI n 0 (swp is 0 n a z) 0 := by
    rcases Nat.eq_zero_or_pos n with h | h
    · subst h; exact ⟨fun k h0 hk => absurd hk (by omega), fun k h0 hk => absurd hk (by omega)⟩
    · exact (HeapN.put (hlen ▸ hh) h ha hz)
  refine fn_intro 15 Try.func46 rfl Try.ntmps46 rfl ?_
  refine wc_seq ?_
  refine wc_plain ?_
  refine wf_rd _ rfl rfl (RD.assign rfl) rfl ?_
  refine wf_nil ?_
  refine at_thn ?_
  refine wc_seq ?_
  refine wc_plain ?_
  refine wf_rd _ rfl rfl (RD.move rfl) rfl ?_
  refine wf_invoke (rv := .pointer (some ⟨l, 0, none⟩)) rfl rfl (ivLen _) rfl rfl (len116 H l bm v is hp) ?_
  rintro _ _ ⟨rfl, rfl⟩
  refine ⟨trivial, ?_⟩
  rw [hlen]
  refine wf_rd _ rfl rfl (RD.sub1 rfl rfl (by omega)) rfl ?_
  refine wf_rd _ rfl rfl (RD.assign rfl) rfl ?_
  refine wf_nil ?_
  refine at_thn ?_
  refine wc_seq ?_
  refine wc_plain ?_
  refine wf_rd _ rfl rfl (RD.move rfl) rfl ?_
  refine wf_rd _ rfl rfl (RD.move rfl) rfl ?_
  refine wf_invoke (rv := .pointer (some ⟨l, 0, none⟩)) rfl rfl (ivSwap _ 0 _) rfl rfl (swap120 H l bm v is hp 0 n a z ha hz) ?_
  rintro _ H1 ⟨hp1, hf1⟩
  refine ⟨trivial, ?_⟩
  refine wf_nil ?_
  refine at_thn ?_
  refine wc_seq ?_
  refine wc_plain ?_
  refine wf_rd _ rfl rfl (RD.move rfl) rfl ?_
  refine wf_rd _ rfl rfl (RD.move rfl) rfl ?_
  refine wf_call rfl en59 rfl rfl (down59 H1 l bm n v (swp is 0 n a z) 0 hp1 (by rw [swp_len]; omega) (by rw [swp_len]; omega) (by rw [swp_len]; omega) hdn) ?_
  rintro _ H2 ⟨js, b, rfl, hp, hs, hf2, hT, hF⟩
  refine ⟨trivial, ?_⟩
  have hf := hf1.trans hf2
  have hlast : js[n]? = some a := by rw [hs.tail n (Nat.le_refl _)]; exact swp_j ha hz
  replace hs := (Sh.swap (n := n + 1) (Sh.refl _ is) ha hz (by omega) (by omega)).trans ⟨hs.len, hs.mem, fun x hx => hs.tail x (by omega)⟩
  have hheap : HeapN n js := by
    cases b with
    | true => exact hT rfl
    | false => exact (hF rfl).root
  refine wf_nil ?_
  refine at_thn ?_
  refine wc_seq ?_
  refine wc_plain ?_
  refine wf_rd _ rfl rfl (RD.move rfl) rfl ?_
  have hsp := last_split (n := n) (by rw [hs.len]; omega) hlast
  have hpn := hp
  rw [hsp] at hpn
  refine wf_invoke (rv := .pointer (some ⟨l, 0, none⟩)) rfl rfl (ivPop _) rfl rfl (pop118 _ l bm v (js.take n) a hpn (by simp; omega)) ?_
  rintro _ H3 ⟨v', rfl, hv', hp3, hf3⟩
  have hf9 := hf.trans hf3
  refine ⟨trivial, ?_⟩
  refine wf_rd _ rfl rfl (RD.assign rfl) rfl ?_
  refine wf_nil ?_
  refine at_thn ?_
  refine wc_ret ?_
  refine at_ret1 rfl rfl ?_
  refine ⟨js.take n, v', rfl, .inl hv', hp3, gone_of (n := n) (by rw [← hsp]; exact hs.mem) hlen (by simp; rw [hs.len]; omega) (by rw [← hsp]; exact hp.nodup) (hheap.take n), hf9⟩

set_option maxRecDepth 100000 in
theorem remove63 (H : Heap) (l bm : Nat) (v : Value) (is : List It) (i : Nat) (a : It) (hp : Pile H l v bm is) (hh : HeapN is.length is) (ha : is[i]? = some a) (hlt : is.length ≤ 4194304) :
    FN Try.prog 63 [.iface 94 (.pointer (some ⟨l, 0, none⟩)), .int .i64 i] H (fun r H' => ∃ js v', r = .iface 69 (.agg a.cells.toArray) ∧ mov H v v' ∧ Pile H' l v' bm js ∧ Gone is a js ∧ Frm (pm l v bm) H H') := by
  obtain ⟨n, hlen⟩ : ∃ n, is.length = n + 1 := ⟨is.length - 1, by have := (List.getElem?_eq_some_iff.1 ha).1; omega⟩
  obtain ⟨z, hz⟩ : ∃ z, is[n]? = some z := ⟨_, List.getElem?_eq_getElem (by omega)⟩
  refine fn_intro 26 Try.func63 rfl Try.ntmps63 rfl ?_
  refine wc_seq ?_
  refine wc_plain ?_
  refine wf_rd _ rfl rfl (RD.assign rfl) rfl ?_
  refine wf_nil ?_
  refine at_thn ?_
  refine wc_seq ?_
  refine wc_plain ?_
  refine wf_rd _ rfl rfl (RD.move rfl) rfl ?_
  refine wf_invoke (rv := .pointer (some ⟨l, 0, none⟩)) rfl rfl (ivLen _) rfl rfl (len116 H l bm v is hp) ?_
  rintro _ _ ⟨rfl, rfl⟩
  refine ⟨trivial, ?_⟩
  rw [hlen]
  refine wf_rd _ rfl rfl (RD.sub1 rfl rfl (by omega)) rfl ?_
  refine wf_rd _ rfl rfl (RD.assign rfl) rfl ?_
  refine wf_nil ?_
  refine at_thn ?_
  refine wc_seq ?_
  refine wc_seq ?_
  refine wc_plain ?_
  refine wf_rd _ rfl rfl (RD.move rfl) rfl ?_
  refine wf_rd _ rfl rfl (RD.move rfl) rfl ?_
  refine wf_rd _ rfl rfl (RD.cmp _ rfl rfl rfl) rfl ?_
  refine wf_nil ?_
  refine at_thn ?_
  refine wc_cond rfl (fun hc11 => ?_) (fun hc11 => ?_)
  ·
    have hin : i < n := by have h1 : n ≠ i := (fun e => by subst e; simp at hc11); have := (List.getElem?_eq_some_iff.1 ha).1; omega
    refine wc_seq ?_
    refine wc_plain ?_
    refine wf_rd _ rfl rfl (RD.move rfl) rfl ?_
    refine wf_rd _ rfl rfl (RD.move rfl) rfl ?_
    refine wf_rd _ rfl rfl (RD.move rfl) rfl ?_
    refine wf_invoke (rv := .pointer (some ⟨l, 0, none⟩)) rfl rfl (ivSwap _ _ _) rfl rfl (swap120 H l bm v is hp i n a z ha hz) ?_
    rintro _ H1 ⟨hp1, hf1⟩
    refine ⟨trivial, ?_⟩
    refine wf_nil ?_
    refine at_thn ?_
    refine wc_seq ?_
    refine wc_plain ?_
    refine wf_rd _ rfl rfl (RD.move rfl) rfl ?_
    refine wf_rd _ rfl rfl (RD.move rfl) rfl ?_
    refine wf_rd _ rfl rfl (RD.move rfl) rfl ?_
    refine wf_call rfl en59 rfl rfl (down59 H1 l bm n v (swp is i n a z) i hp1 (by rw [swp_len]; omega) (by rw [swp_len]; omega) (by rw [swp_len]; omega) ((HeapN.put (hlen ▸ hh) hin ha hz))) ?_
    rintro _ H2 ⟨js, b, rfl, hp, hs, hf2, hT, hF⟩
    refine ⟨trivial, ?_⟩
    have hf := hf1.trans hf2
    have hlast : js[n]? = some a := by rw [hs.tail n (Nat.le_refl _)]; exact swp_j ha hz
    replace hs := (Sh.swap (n := n + 1) (Sh.refl _ is) ha hz (by omega) (by omega)).trans ⟨hs.len, hs.mem, fun x hx => hs.tail x (by omega)⟩
    refine wf_rd _ rfl rfl (RD.not rfl) rfl ?_
    refine wf_nil ?_
    refine at_thn ?_
    refine wc_cond rfl (fun hc20 => ?_) (fun hc20 => ?_)
    ·
      have hb : b = false := by simpa using hc20
      subst hb
      refine wc_plain ?_
      refine wf_rd _ rfl rfl (RD.move rfl) rfl ?_
      refine wf_rd _ rfl rfl (RD.move rfl) rfl ?_
      refine wf_call rfl en66 rfl rfl (up66 _ l bm n v js i hp (by rw [hs.len]; omega) (by rw [hs.len]; omega) hin (hF rfl)) ?_
      rintro _ H4 ⟨js, hp, hheap, hs4, hf4⟩
      refine ⟨trivial, ?_⟩
      replace hs := hs.trans ⟨hs4.len, hs4.mem, fun x hx => hs4.tail x (by omega)⟩
      replace hlast := (hs4.tail n (Nat.le_refl _)).trans hlast
      replace hf := hf.trans hf4
      refine wf_nil ?_
      refine at_thn ?_
      refine wc_seq ?_
      refine wc_plain ?_
      refine wf_rd _ rfl rfl (RD.move rfl) rfl ?_
      have hsp := last_split (n := n) (by rw [hs.len]; omega) hlast
      have hpn := hp
      rw [hsp] at hpn
      refine wf_invoke (rv := .pointer (some ⟨l, 0, none⟩)) rfl rfl (ivPop _) rfl rfl (pop118 _ l bm v (js.take n) a hpn (by simp; omega)) ?_
      rintro _ H6 ⟨v', rfl, hv', hp6, hf6⟩
      have hf9 := hf.trans hf6
      refine ⟨trivial, ?_⟩
      refine wf_rd _ rfl rfl (RD.assign rfl) rfl ?_
      refine wf_nil ?_
      refine at_thn ?_
      refine wc_ret ?_
      refine at_ret1 rfl rfl ?_
      refine ⟨js.take n, v', rfl, .inl hv', hp6, gone_of (n := n) (by rw [← hsp]; exact hs.mem) hlen (by simp; rw [hs.len]; omega) (by rw [← hsp]; exact hp.nodup) (hheap.take n), hf9⟩
    ·
      have hb : b = true := by simpa using hc20
      subst hb
      have hheap := hT rfl
      refine wc_skip ?_
      refine at_thn ?_
      refine wc_seq ?_
      refine wc_plain ?_
      refine wf_rd _ rfl rfl (RD.move rfl) rfl ?_
      have hsp := last_split (n := n) (by rw [hs.len]; omega) hlast
      have hpn := hp
      rw [hsp] at hpn
      refine wf_invoke (rv := .pointer (some ⟨l, 0, none⟩)) rfl rfl (ivPop _) rfl rfl (pop118 _ l bm v (js.take n) a hpn (by simp; omega)) ?_
      rintro _ H6 ⟨v', rfl, hv', hp6, hf6⟩
      have hf9 := hf.trans hf6
      refine ⟨trivial, ?_⟩
      refine wf_rd _ rfl rfl (RD.assign rfl) rfl ?_
      refine wf_nil ?_
      refine at_thn ?_
      refine wc_ret ?_
      refine at_ret1 rfl rfl ?_
      refine ⟨js.take n, v', rfl, .inl hv', hp6, gone_of (n := n) (by rw [← hsp]; exact hs.mem) hlen (by simp; rw [hs.len]; omega) (by rw [← hsp]; exact hp.nodup) (hheap.take n), hf9⟩
  ·
    have hin : n = i := by have h1 : ((n : Int) != (i : Int)) = false := hc11
                           have h2 : (n : Int) = (i : Int) := by simpa using h1
                           omega
    subst hin
    have hf := Frm.refl (pm l v bm) H
    obtain ⟨js, hs, hp, hlast, hheap⟩ : ∃ js, Sh (n + 1) is js ∧ Pile H l v bm js ∧ js[n]? = some a ∧ HeapN n js := ⟨is, Sh.refl _ _, hp, ha, hh.mono (by omega)⟩
    refine wc_skip ?_
    refine at_thn ?_
    refine wc_seq ?_
    refine wc_plain ?_
    refine wf_rd _ rfl rfl (RD.move rfl) rfl ?_
    have hsp := last_split (n := n) (by rw [hs.len]; omega) hlast
    have hpn := hp
    rw [hsp] at hpn
    refine wf_invoke (rv := .pointer (some ⟨l, 0, none⟩)) rfl rfl (ivPop _) rfl rfl (pop118 _ l bm v (js.take n) a hpn (by simp; omega)) ?_
    rintro _ H6 ⟨v', rfl, hv', hp6, hf6⟩
    have hf9 := hf.trans hf6
    refine ⟨trivial, ?_⟩
    refine wf_rd _ rfl rfl (RD.assign rfl) rfl ?_
    refine wf_nil ?_
    refine at_thn ?_
    refine wc_ret ?_
    refine at_ret1 rfl rfl ?_
    refine ⟨js.take n, v', rfl, .inl hv', hp6, gone_of (n := n) (by rw [← hsp]; exact hs.mem) hlen (by simp; rw [hs.len]; omega) (by rw [← hsp]; exact hp.nodup) (hheap.take n), hf9⟩
set_option maxRecDepth 100000 in
theorem put41 (H : Heap) (l bm : Nat) (v : Value) (is : List It) (a : It) (hp : Pile H l v bm is) (hh : HeapN is.length is) (hn : ∀ b ∈ is, b.s ≠ a.s) (hlt : is.length < 4194304) :
    FN Try.prog 41 [.pointer (some ⟨l, 0, none⟩), .agg a.cells.toArray] H (fun r H' => ∃ js v', r = .bool true ∧ mov H v v' ∧ Pile H' l v' bm js ∧ Come is a js ∧ Frm (pm l v bm) H H') := by
  have hp0 := hp
  obtain ⟨⟨T, hl⟩, ho, es, cm, hm, hM, hA⟩ := hp0
  obtain ⟨p, c, rfl⟩ := ho.val
  refine fn_intro 26 Try.func41 rfl Try.ntmps41 rfl ?_
  refine wc_seq ?_
  refine wc_plain ?_
  refine wf_box rfl rfl rfl rfl (fun b3 H1 e3 z1 hb3 hk1 => ⟨trivial, ?_⟩)
  have n3_hl := ne_new hl e3
  have n3_hm := ne_new hm e3
  replace hl := (hk1 _ (lt_of hl)).trans hl
  replace hm := (hk1 _ (lt_of hm)).trans hm
  refine wf_rd _ rfl rfl (RD.assign rfl) rfl ?_
  refine wf_nil ?_
  refine at_thn ?_
  refine wc_seq ?_
  refine wc_seq ?_
  refine wc_drawn [(0, 0), (1, 0), (2, 0), (3, 0), (4, 0), (5, 0), (6, 0), (7, 0), (8, 0), (9, 0), (10, 0), (11, 0), (12, 0)] (fun _ => True) (by kernel_rfl) (by kernel_rfl) trivial ?_
  refine wf_rd _ rfl rfl (RD.move rfl) rfl ?_
  refine wf_rd _ rfl rfl (RD.nilCheck rfl) rfl ?_
  refine wf_rd _ rfl rfl (RD.field rfl Try.underlying85 rfl Try.sizeOf83) rfl ?_
  refine wf_rd _ rfl rfl (RD.field rfl Try.underlying83 rfl Try.sizeOf61) rfl ?_
  refine wf_rd _ rfl rfl (RD.load rfl (LD.one Try.isAgg61 hl rfl)) rfl ?_
  refine wf_rd _ rfl rfl (RD.field rfl Try.underlying69 rfl Try.sizeOf3) rfl ?_
  refine wf_rd _ rfl rfl (RD.load rfl (LD.one Try.isAgg3 hb3 rfl)) rfl ?_
  refine wf_rd _ rfl rfl (RD.lkN (k := a.s) rfl rfl Try.underlying61 Try.underlying3 hm hM Try.zeroValue3 (hA.no _ hn)) rfl ?_
  refine wf_rd _ rfl rfl (RD.move rfl) rfl ?_
  refine wf_rd _ rfl rfl (RD.extract rfl rfl) rfl ?_
  refine wf_rd _ rfl rfl (RD.extract rfl rfl) rfl ?_
  refine wf_rd _ rfl rfl (RD.assign rfl) rfl ?_
  refine wf_rd _ rfl rfl (RD.assign rfl) rfl ?_
  refine wf_nil ?_
  refine at_thn ?_
  refine wc_seq ?_
  refine wc_plain ?_
  refine wf_rd _ rfl rfl (RD.move rfl) rfl ?_
  refine wf_nil ?_
  refine at_thn ?_
  refine wc_no rfl ?_
  refine wc_skip ?_
  refine at_thn ?_
  refine wc_seq ?_
  refine wc_drawn [(0, 0), (1, 0), (2, 0), (3, 0), (4, 0), (5, 0), (6, 3)] (fun _ => True) (by kernel_rfl) (by kernel_rfl) trivial ?_
  refine wf_rd _ rfl rfl (RD.move rfl) rfl ?_
  refine wf_rd _ rfl rfl (RD.nilCheck rfl) rfl ?_
  refine wf_rd _ rfl rfl (RD.field rfl Try.underlying85 rfl Try.sizeOf83) rfl ?_
  refine wf_rd _ rfl rfl (RD.mkIface rfl (by kernel_rfl)) rfl ?_
  refine wf_rd _ rfl rfl (RD.load rfl (LD.all Try.isAgg69 Try.sizeOf69 hb3 rfl)) rfl ?_
  refine wf_rd _ rfl rfl (RD.mkIface rfl (by kernel_rfl)) rfl ?_
  refine wf_call rfl en56 rfl rfl (push56 H1 l bm _ is a (hp.ext (Ext.new z1 hk1)) hh hn hlt) ?_
  rintro _ H2 ⟨js, v', hv', hp', hc', hf'⟩
  refine ⟨trivial, ?_⟩
  refine wf_nil ?_
  refine at_thn ?_
  refine wc_seq ?_
  refine wc_plain ?_
  refine wf_rd _ rfl rfl (RD.assign rfl) rfl ?_
  refine wf_nil ?_
  refine at_thn ?_
  refine wc_ret ?_
  refine at_ret1 rfl rfl ?_
  exact ⟨js, v', rfl, hv'.imp id (fun ⟨g, h1, h2⟩ => ⟨g, h1, by omega⟩), hp', hc', ((Ext.new z1 hk1).frm _).trans hf'⟩
set_option maxRecDepth 100000 in
theorem len29 (H : Heap) (l bm : Nat) (v : Value) (is : List It) (hp : Pile H l v bm is) : FN Try.prog 29 [.pointer (some ⟨l, 0, none⟩)] H (fun r H' => r = .int .i64 is.length ∧ H = H') := by
  obtain ⟨⟨T, hl⟩, ho, _⟩ := hp
  obtain ⟨p, c, rfl⟩ := ho.val
  refine fn_intro 9 Try.func29 rfl Try.ntmps29 rfl ?_
  refine wc_seq ?_
  refine wc_plain ?_
  refine wf_rd _ rfl rfl (RD.assign rfl) rfl ?_
  refine wf_nil ?_
  refine at_thn ?_
  refine wc_seq ?_
  refine wc_plain ?_
  refine wf_rd _ rfl rfl (RD.move rfl) rfl ?_
  refine wf_rd _ rfl rfl (RD.nilCheck rfl) rfl ?_
  refine wf_rd _ rfl rfl (RD.field rfl Try.underlying85 rfl Try.sizeOf83) rfl ?_
  refine wf_rd _ rfl rfl (RD.field rfl Try.underlying83 rfl Try.sizeOf66) rfl ?_
  refine wf_rd _ rfl rfl (RD.load rfl (LD.one Try.isAgg66 hl rfl)) rfl ?_
  refine wf_rd _ rfl rfl (RD.lenSl rfl Try.underlying66) rfl ?_
  refine wf_rd _ rfl rfl (RD.assign rfl) rfl ?_
  refine wf_nil ?_
  refine at_thn ?_
  refine wc_ret ?_
  refine at_ret1 rfl rfl ?_
  exact ⟨rfl, rfl⟩
set_option maxRecDepth 100000 in
theorem pop28 (H : Heap) (l bm : Nat) (v : Value) (is : List It) (a : It) (hp : Pile H l v bm is) (hh : HeapN is.length is) (ha : is[0]? = some a) (hlt : is.length ≤ 4194304) :
    FN Try.prog 28 [.pointer (some ⟨l, 0, none⟩)] H (fun r H' => ∃ js v', r = .tuple [.agg a.cells.toArray, .bool true].toArray ∧ mov H v v' ∧ Pile H' l v' bm js ∧ Gone is a js ∧ Frm (pm l v bm) H H') := by
  have hl1 : 0 < is.length := (List.getElem?_eq_some_iff.1 ha).1
  have hp0 := hp
  obtain ⟨⟨T, hl⟩, ho, es, cm, hm, hM, hA⟩ := hp0
  have hpm : ∀ b, H.size ≤ b → ¬ pm l v bm b := fun b hb h => by have := hp.lt h; omega
  obtain ⟨p, c, rfl⟩ := ho.val
  refine fn_intro 20 Try.func28 rfl Try.ntmps28 rfl ?_
  refine wc_seq ?_
  refine wc_plain ?_
  refine wf_alloc Try.zeroValue69 rfl rfl rfl (fun b2 H1 e2 z1 hb2 hk1 => ⟨trivial, ?_⟩)
  have n2_hl := ne_new hl e2
  replace hl := (hk1 _ (lt_of hl)).trans hl
  refine wf_rd _ rfl rfl (RD.assign rfl) rfl ?_
  refine wf_nil ?_
  refine at_thn ?_
  refine wc_seq ?_
  refine wc_seq ?_
  refine wc_plain ?_
  refine wf_rd _ rfl rfl (RD.move rfl) rfl ?_
  refine wf_rd _ rfl rfl (RD.nilCheck rfl) rfl ?_
  refine wf_rd _ rfl rfl (RD.field rfl Try.underlying85 rfl Try.sizeOf83) rfl ?_
  refine wf_rd _ rfl rfl (RD.field rfl Try.underlying83 rfl Try.sizeOf66) rfl ?_
  refine wf_rd _ rfl rfl (RD.load rfl (LD.one Try.isAgg66 hl rfl)) rfl ?_
  refine wf_rd _ rfl rfl (RD.lenSl rfl Try.underlying66) rfl ?_
  refine wf_rd _ rfl rfl (RD.cmp false rfl rfl (congrArg some (beq_eq_false_iff_ne.2 (by omega)))) rfl ?_
  refine wf_nil ?_
  refine at_thn ?_
  refine wc_no rfl ?_
  refine wc_skip ?_
  refine at_thn ?_
  refine wc_seq ?_
  refine wc_plain ?_
  refine wf_rd _ rfl rfl (RD.move rfl) rfl ?_
  refine wf_rd _ rfl rfl (RD.nilCheck rfl) rfl ?_
  refine wf_rd _ rfl rfl (RD.field rfl Try.underlying85 rfl Try.sizeOf83) rfl ?_
  refine wf_rd _ rfl rfl (RD.mkIface rfl (by kernel_rfl)) rfl ?_
  refine wf_call rfl en46 rfl rfl (pop46 H1 l bm _ is a (hp.ext (Ext.new z1 hk1)) hh ha (by omega)) ?_
  rintro _ H2 ⟨js, v', rfl, hv', hp', hg', hf'⟩
  replace hb2 := hf'.keep hb2 (hpm _ (by omega))
  refine ⟨trivial, ?_⟩
  refine wf_rd _ rfl rfl (RD.assert rfl Try.underlying69 rfl) rfl ?_
  refine wf_alloc Try.zeroValue69 rfl rfl rfl (fun b4 H3 e4 z3 hb4 hk3 => ⟨trivial, ?_⟩)
  have n4_hb2 := ne_new hb2 e4
  replace hb2 := (hk3 _ (lt_of hb2)).trans hb2
  refine wf_storeA rfl rfl Try.sizeOf69 rfl hb4 a.ones rfl (fun H4 z4 hx4 hk4 => ⟨trivial, ?_⟩)
  replace hb2 := (hk4 _ (by first | assumption | exact Ne.symm (by assumption) | omega)).trans hb2
  replace hb4 := hx4
  refine wf_nil ?_
  refine at_thn ?_
  refine wc_seq ?_
  refine wc_plain ?_
  refine wf_rd _ rfl rfl (RD.load rfl (LD.all Try.isAgg69 Try.sizeOf69 hb4 rfl)) rfl ?_
  refine wf_storeA rfl rfl Try.sizeOf69 rfl hb2 a.ones rfl (fun H5 z5 hx5 hk5 => ⟨trivial, ?_⟩)
  replace hb4 := (hk5 _ (by first | assumption | exact Ne.symm (by assumption) | omega)).trans hb4
  replace hb2 := hx5
  refine wf_rd _ rfl rfl (RD.assign rfl) rfl ?_
  refine wf_nil ?_
  refine at_thn ?_
  refine wc_ret ?_
  refine at_ret2 rfl ⟨_, rfl, (LD.all Try.isAgg69 Try.sizeOf69 hb2 rfl)⟩ rfl ?_
  have hm' : mov H (.slice p is.length c) v' := hv'.imp id (fun ⟨g, h1, h2⟩ => ⟨g, h1, by omega⟩)
  have hx : Frm (fun j => j = b2) H2 H5 := ((Ext.frm ((Ext.new z3 hk3).wrote z4 hk4 (by omega)) _).trans (Frm.wrote z5 hk5 (fun _ => rfl)))
  exact ⟨js, v', rfl, hm', hp'.frm hx (fun j hj e => hpm b2 (by omega) (pm_mov hv' b2 (by omega) (e ▸ hj))), hg', (((Ext.new z1 hk1).frm (pm l _ bm)).trans hf').trans' hx (fun j hj e => absurd hj (by omega))⟩
set_option maxRecDepth 100000 in
theorem pop28_nil (H : Heap) (l bm : Nat) (v : Value) (hp : Pile H l v bm []) :
    FN Try.prog 28 [.pointer (some ⟨l, 0, none⟩)] H (fun r H' => r = .tuple [.agg [.int .i64 0, .int .i64 0, .int .i64 0].toArray, .bool false].toArray ∧ Ext H H') := by
  obtain ⟨⟨T, hl⟩, ho, es, cm, hm, hM, hA⟩ := hp
  obtain ⟨p, c, rfl⟩ := ho.val
  refine fn_intro 20 Try.func28 rfl Try.ntmps28 rfl ?_
  refine wc_seq ?_
  refine wc_plain ?_
  refine wf_alloc Try.zeroValue69 rfl rfl rfl (fun b2 H1 e2 z1 hb2 hk1 => ⟨trivial, ?_⟩)
  have n2_hl := ne_new hl e2
  replace hl := (hk1 _ (lt_of hl)).trans hl
  refine wf_rd _ rfl rfl (RD.assign rfl) rfl ?_
  refine wf_nil ?_
  refine at_thn ?_
  refine wc_seq ?_
  refine wc_seq ?_
  refine wc_plain ?_
  refine wf_rd _ rfl rfl (RD.move rfl) rfl ?_
  refine wf_rd _ rfl rfl (RD.nilCheck rfl) rfl ?_
  refine wf_rd _ rfl rfl (RD.field rfl Try.underlying85 rfl Try.sizeOf83) rfl ?_
  refine wf_rd _ rfl rfl (RD.field rfl Try.underlying83 rfl Try.sizeOf66) rfl ?_
  refine wf_rd _ rfl rfl (RD.load rfl (LD.one Try.isAgg66 hl rfl)) rfl ?_
  refine wf_rd _ rfl rfl (RD.lenSl rfl Try.underlying66) rfl ?_
  refine wf_rd _ rfl rfl (RD.cmp _ rfl rfl rfl) rfl ?_
  refine wf_nil ?_
  refine at_thn ?_
  refine wc_yes rfl ?_
  refine wc_seq ?_
  refine wc_plain ?_
  refine wf_rd _ rfl rfl (RD.build rfl built69) rfl ?_
  refine wf_storeA rfl rfl Try.sizeOf69 rfl hb2 (by simp [Value.oneCell']) rfl (fun H2 z2 hx2 hk2 => ⟨trivial, ?_⟩)
  replace hl := (hk2 _ (by first | assumption | exact Ne.symm (by assumption) | omega)).trans hl
  replace hb2 := hx2
  refine wf_rd _ rfl rfl (RD.assign rfl) rfl ?_
  refine wf_nil ?_
  refine at_thn ?_
  refine wc_ret ?_
  refine at_thn_ret ?_
  refine at_ret2 rfl ⟨_, rfl, (LD.all Try.isAgg69 Try.sizeOf69 hb2 rfl)⟩ rfl ?_
  exact ⟨rfl, ((Ext.new z1 hk1).wrote z2 hk2 (by omega))⟩
set_option maxRecDepth 100000 in
theorem take51 (H : Heap) (l bm : Nat) (v : Value) (is : List It) (i : Nat) (a : It) (hp : Pile H l v bm is) (hh : HeapN is.length is) (ha : is[i]? = some a) (hlt : is.length ≤ 4194304) :
    FN Try.prog 51 [.pointer (some ⟨l, 0, none⟩), .int .i64 a.s] H (fun r H' => ∃ js v', r = .tuple [.agg a.cells.toArray, .bool true].toArray ∧ mov H v v' ∧ Pile H' l v' bm js ∧ Gone is a js ∧ Frm (pm l v bm) H H') := by
  have hp0 := hp
  obtain ⟨⟨T, hl⟩, ho, es, cm, hm, hM, hA⟩ := hp0
  have hpm : ∀ b, H.size ≤ b → ¬ pm l v bm b := fun b hb h => by have := hp.lt h; omega
  obtain ⟨p, c, rfl⟩ := ho.val
  refine fn_intro 30 Try.func51 rfl Try.ntmps51 rfl ?_
  refine wc_seq ?_
  refine wc_plain ?_
  refine wf_alloc Try.zeroValue69 rfl rfl rfl (fun b4 H1 e4 z1 hb4 hk1 => ⟨trivial, ?_⟩)
  have n4_hl := ne_new hl e4
  have n4_hm := ne_new hm e4
  replace hl := (hk1 _ (lt_of hl)).trans hl
  replace hm := (hk1 _ (lt_of hm)).trans hm
  refine wf_rd _ rfl rfl (RD.assign rfl) rfl ?_
  refine wf_nil ?_
  refine at_thn ?_
  refine wc_seq ?_
  refine wc_plain ?_
  refine wf_rd _ rfl rfl (RD.move rfl) rfl ?_
  refine wf_rd _ rfl rfl (RD.nilCheck rfl) rfl ?_
  refine wf_rd _ rfl rfl (RD.field rfl Try.underlying85 rfl Try.sizeOf83) rfl ?_
  refine wf_rd _ rfl rfl (RD.field rfl Try.underlying83 rfl Try.sizeOf61) rfl ?_
  refine wf_rd _ rfl rfl (RD.load rfl (LD.one Try.isAgg61 hl rfl)) rfl ?_
  refine wf_rd _ rfl rfl (RD.move rfl) rfl ?_
  refine wf_rd _ rfl rfl (RD.lkY (k := a.s) rfl rfl Try.underlying61 Try.underlying3 hm hM (hA.at_ i a ha)) rfl ?_
  refine wf_rd _ rfl rfl (RD.move rfl) rfl ?_
  refine wf_rd _ rfl rfl (RD.extract rfl rfl) rfl ?_
  refine wf_rd _ rfl rfl (RD.extract rfl rfl) rfl ?_
  refine wf_rd _ rfl rfl (RD.assign rfl) rfl ?_
  refine wf_rd _ rfl rfl (RD.assign rfl) rfl ?_
  refine wf_nil ?_
  refine at_thn ?_
  refine wc_seq ?_
  refine wc_seq ?_
  refine wc_plain ?_
  refine wf_rd _ rfl rfl (RD.move rfl) rfl ?_
  refine wf_rd _ rfl rfl (RD.not rfl) rfl ?_
  refine wf_nil ?_
  refine at_thn ?_
  refine wc_no rfl ?_
  refine wc_skip ?_
  refine at_thn ?_
  refine wc_seq ?_
  refine wc_plain ?_
  refine wf_rd _ rfl rfl (RD.move rfl) rfl ?_
  refine wf_rd _ rfl rfl (RD.nilCheck rfl) rfl ?_
  refine wf_rd _ rfl rfl (RD.field rfl Try.underlying85 rfl Try.sizeOf83) rfl ?_
  refine wf_rd _ rfl rfl (RD.mkIface rfl (by kernel_rfl)) rfl ?_
  refine wf_rd _ rfl rfl (RD.move rfl) rfl ?_
  refine wf_call rfl en63 rfl rfl (remove63 H1 l bm _ is i a (hp.ext (Ext.new z1 hk1)) hh ha (by omega)) ?_
  rintro _ H2 ⟨js, v', rfl, hv', hp', hg', hf'⟩
  replace hb4 := hf'.keep hb4 (hpm _ (by omega))
  refine ⟨trivial, ?_⟩
  refine wf_rd _ rfl rfl (RD.assert rfl Try.underlying69 rfl) rfl ?_
  refine wf_alloc Try.zeroValue69 rfl rfl rfl (fun b8 H3 e8 z3 hb8 hk3 => ⟨trivial, ?_⟩)
  have n8_hb4 := ne_new hb4 e8
  replace hb4 := (hk3 _ (lt_of hb4)).trans hb4
  refine wf_storeA rfl rfl Try.sizeOf69 rfl hb8 a.ones rfl (fun H4 z4 hx4 hk4 => ⟨trivial, ?_⟩)
  replace hb4 := (hk4 _ (by first | assumption | exact Ne.symm (by assumption) | omega)).trans hb4
  replace hb8 := hx4
  refine wf_nil ?_
  refine at_thn ?_
  refine wc_seq ?_
  refine wc_plain ?_
  refine wf_rd _ rfl rfl (RD.load rfl (LD.all Try.isAgg69 Try.sizeOf69 hb8 rfl)) rfl ?_
  refine wf_storeA rfl rfl Try.sizeOf69 rfl hb4 a.ones rfl (fun H5 z5 hx5 hk5 => ⟨trivial, ?_⟩)
  replace hb8 := (hk5 _ (by first | assumption | exact Ne.symm (by assumption) | omega)).trans hb8
  replace hb4 := hx5
  refine wf_rd _ rfl rfl (RD.assign rfl) rfl ?_
  refine wf_nil ?_
  refine at_thn ?_
  refine wc_ret ?_
  refine at_ret2 rfl ⟨_, rfl, (LD.all Try.isAgg69 Try.sizeOf69 hb4 rfl)⟩ rfl ?_
  have hm' : mov H (.slice p is.length c) v' := hv'.imp id (fun ⟨g, h1, h2⟩ => ⟨g, h1, by omega⟩)
  have hx : Frm (fun j => j = b4) H2 H5 := ((Ext.frm ((Ext.new z3 hk3).wrote z4 hk4 (by omega)) _).trans (Frm.wrote z5 hk5 (fun _ => rfl)))
  exact ⟨js, v', rfl, hm', hp'.frm hx (fun j hj e => hpm b4 (by omega) (pm_mov hv' b4 (by omega) (e ▸ hj))), hg', (((Ext.new z1 hk1).frm (pm l _ bm)).trans hf').trans' hx (fun j hj e => absurd hj (by omega))⟩
set_option maxRecDepth 100000 in
theorem take51_none (H : Heap) (l bm : Nat) (v : Value) (is : List It) (k : Int) (hp : Pile H l v bm is) (hn : ∀ a ∈ is, a.s ≠ k) :
    FN Try.prog 51 [.pointer (some ⟨l, 0, none⟩), .int .i64 k] H (fun r H' => r = .tuple [.agg [.int .i64 0, .int .i64 0, .int .i64 0].toArray, .bool false].toArray ∧ Ext H H') := by
  obtain ⟨⟨T, hl⟩, ho, es, cm, hm, hM, hA⟩ := hp
  obtain ⟨p, c, rfl⟩ := ho.val
  refine fn_intro 30 Try.func51 rfl Try.ntmps51 rfl ?_
  refine wc_seq ?_
  refine wc_plain ?_
  refine wf_alloc Try.zeroValue69 rfl rfl rfl (fun b4 H1 e4 z1 hb4 hk1 => ⟨trivial, ?_⟩)
  have n4_hl := ne_new hl e4
  have n4_hm := ne_new hm e4
  replace hl := (hk1 _ (lt_of hl)).trans hl
  replace hm := (hk1 _ (lt_of hm)).trans hm
  refine wf_rd _ rfl rfl (RD.assign rfl) rfl ?_
  refine wf_nil ?_
  refine at_thn ?_
  refine wc_seq ?_
  refine wc_plain ?_
  refine wf_rd _ rfl rfl (RD.move rfl) rfl ?_
  refine wf_rd _ rfl rfl (RD.nilCheck rfl) rfl ?_
  refine wf_rd _ rfl rfl (RD.field rfl Try.underlying85 rfl Try.sizeOf83) rfl ?_
  refine wf_rd _ rfl rfl (RD.field rfl Try.underlying83 rfl Try.sizeOf61) rfl ?_
  refine wf_rd _ rfl rfl (RD.load rfl (LD.one Try.isAgg61 hl rfl)) rfl ?_
  refine wf_rd _ rfl rfl (RD.move rfl) rfl ?_
  refine wf_rd _ rfl rfl (RD.lkN (k := k) rfl rfl Try.underlying61 Try.underlying3 hm hM Try.zeroValue3 (hA.no _ hn)) rfl ?_
  refine wf_rd _ rfl rfl (RD.move rfl) rfl ?_
  refine wf_rd _ rfl rfl (RD.extract rfl rfl) rfl ?_
  refine wf_rd _ rfl rfl (RD.extract rfl rfl) rfl ?_
  refine wf_rd _ rfl rfl (RD.assign rfl) rfl ?_
  refine wf_rd _ rfl rfl (RD.assign rfl) rfl ?_
  refine wf_nil ?_
  refine at_thn ?_
  refine wc_seq ?_
  refine wc_seq ?_
  refine wc_plain ?_
  refine wf_rd _ rfl rfl (RD.move rfl) rfl ?_
  refine wf_rd _ rfl rfl (RD.not rfl) rfl ?_
  refine wf_nil ?_
  refine at_thn ?_
  refine wc_yes rfl ?_
  refine wc_seq ?_
  refine wc_plain ?_
  refine wf_rd _ rfl rfl (RD.build rfl built69) rfl ?_
  refine wf_storeA rfl rfl Try.sizeOf69 rfl hb4 (by simp [Value.oneCell']) rfl (fun H2 z2 hx2 hk2 => ⟨trivial, ?_⟩)
  replace hl := (hk2 _ (by first | assumption | exact Ne.symm (by assumption) | omega)).trans hl
  replace hm := (hk2 _ (by first | assumption | exact Ne.symm (by assumption) | omega)).trans hm
  replace hb4 := hx2
  refine wf_rd _ rfl rfl (RD.assign rfl) rfl ?_
  refine wf_nil ?_
  refine at_thn ?_
  refine wc_ret ?_
  refine at_thn_ret ?_
  refine at_ret2 rfl ⟨_, rfl, (LD.all Try.isAgg69 Try.sizeOf69 hb4 rfl)⟩ rfl ?_
  exact ⟨rfl, ((Ext.new z1 hk1).wrote z2 hk2 (by omega))⟩
end Go.Proofs.Ytfomnjippakjpaa
