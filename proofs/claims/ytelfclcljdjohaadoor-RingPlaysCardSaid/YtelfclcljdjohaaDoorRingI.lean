/- Messages through a ring: Push. -/
import Derived.Test.YtelfclcljdjohaaDoorRingH
namespace Go.Proofs.YtelfclcljdjohaaDoor
open Go.RowKit
attribute [local go_sem] run_mkf events_mkf
attribute [local go_sem ↓] nilf_W nilf_R guard_W guard_R

set_option maxRecDepth 100000 in
set_option maxHeartbeats 1600000 in
theorem push_begin {w : World} {B b mb lb : Nat} {X : Nat → Prop} {s : RS} {vi vo v : Value} {l : List Int} {c : Int} (h : RAt w B b mb lb X s vi vo c) (hk : s.ok) (hB : B ≤ w.heap.size) (hia : s.ia = 0) (hv : IntsIn w v l) (hl : l.length = s.W) (hr : ∀ x ∈ l, okWord x) :
    Calls Tryd.prog 17 #[.pointer (some ⟨b, 0, none⟩), v] w fun e w' => e = .returned (.int .i64 0) ∧ ∃ vi', RAt w' B b mb lb X { s with ia := 1, il := l, inn := 0 } vi' vo c ∧ Only (regS b mb lb) w w' := by
  have hw1 := hk.w1
  have hw6 := hk.w6
  have HMIN := Lib.hid (min_any hv (by omega) (by omega))
  have HMAX := Lib.hid (max_any hv (by omega) (by omega))
  have HCL := Lib.hid (clone_any hv (by omega))
  have c1 := h.c1
  have c3 := h.c3
  rw [hia] at c3
  rw [← hl] at c1
  have HT := Lib.hid h
  have HR := Lib.hid hr
  obtain ⟨A, cc, rfl, -, -⟩ := hv
  clear h hk hia hl hr
  go_enter Tryd.func17, Tryd.ntmps17
  go_wp2_with fail
  refine HMIN.out.mono ?_
  rintro e w' ⟨m, rfl, hm, _, rfl⟩
  have hm1 := (HR.out m hm).1
  clear hm
  go_wp2_with fail
  refine HMAX.out.mono ?_
  rintro e w' ⟨m', rfl, hm, _, rfl⟩
  have hm2 := (HR.out m' hm).2
  clear hm
  go_wp2_with fail
  refine HCL.out.mono ?_
  rintro e w1 ⟨v', rfl, ho, hb⟩
  obtain ⟨A', c', rfl⟩ := own_form ho
  have hT1 := HT.out.below hb
  have hbl := HT.out.r.lt
  have hml := HT.out.m.m.lt
  have hll := HT.out.m.d.lt
  have hvl := fun g hg => (HT.out.ol.lt g hg).2
  have hge : ∀ g, (Value.slice A' l.length c').ownBlock = some g → w.heap.size ≤ g := fun g hg => (ho.lt g hg).1
  have f3 := hT1.r.fr 3
  have f6 := hT1.r.fr 6
  have f7 := hT1.r.fr 7
  have d3 := hT1.c3
  have d6 := hT1.c6
  have d7 := hT1.c7
  have hS1 : ∀ g, (Value.slice A' l.length c').ownBlock = some g → ¬ turnS b mb lb vo g := fun g hg e => by
    have hge' := hge g hg
    rcases e with e | e
    · unfold regS at e; omega
    · have := hvl g e; omega
  have hX1 : ∀ g, (Value.slice A' l.length c').ownBlock = some g → ¬ X g := fun g hg e => by
    have := hge g hg
    have := HT.out.lx g e
    omega
  have h1 := hT1.same 3 (nxW b 1) (s' := { s with ia := 1 }) rfl rfl rfl rfl
  have hO1 : Only (fun k => k = b) w1 (w1.setCell ⟨b, 3, none⟩ (nxW b 1)) := onl_set (S := fun k => k = b) (onl_refl _ w1) (p := ⟨b, 3, none⟩) (.inl rfl) _
  have h2 := h1.upd 6 (.slice A' l.length c') (s' := { s with ia := 1, il := l }) (vi' := .slice A' l.length c') rfl rfl (own_onl (ownsRow_mono ho hB) hO1 (fun g hg e => hS1 g hg (.inl (.inl e)))) h1.ol hS1 h1.so hX1 h1.xo
  have h3 := h2.same 7 (.int .i64 0) (s' := { s with ia := 1, il := l, inn := 0 }) rfl rfl rfl rfl
  have H3 := Lib.hid h3
  have HO := Lib.hid (onl_trans (onl_below (S := regS b mb lb) hb) (onl_trans (set_only w1 b mb lb 3 (nxW b 1)) (onl_trans (set_only _ b mb lb 6 (.slice A' l.length c')) (set_only _ b mb lb 7 (.int .i64 0)))))
  clear h1 h2 h3 hT1 ho hb hbl hml hll hvl hge hS1 hX1 hO1 HMIN HMAX HCL c1 c3
  go_wp2_with fail
  go_ret
  exact ⟨rfl, _, H3.out, HO.out⟩
set_option maxHeartbeats 800000 in
theorem push_busy {w : World} {B b mb lb : Nat} {X : Nat → Prop} {s : RS} {vi vo v : Value} {l : List Int} {c : Int} (h : RAt w B b mb lb X s vi vo c) (hk : s.ok) (hia : s.ia ≠ 0) (hv : IntsIn w v l) (hl : l.length = s.W) (hr : ∀ x ∈ l, okWord x) :
    Calls Tryd.prog 17 #[.pointer (some ⟨b, 0, none⟩), v] w fun e w' => e = .returned (.int .i64 1) ∧ w = w' := by
  have hw1 := hk.w1
  have hw6 := hk.w6
  have HMIN := Lib.hid (min_any hv (by omega) (by omega))
  have HMAX := Lib.hid (max_any hv (by omega) (by omega))
  have c1 := h.c1
  have c3 := h.c3
  rw [← hl] at c1
  have HR := Lib.hid hr
  obtain ⟨A, cc, rfl, -, -⟩ := hv
  clear h hk hl hr
  go_enter Tryd.func17, Tryd.ntmps17
  go_wp2_with fail
  refine HMIN.out.mono ?_
  rintro e w' ⟨m, rfl, hm, _, rfl⟩
  have hm1 := (HR.out m hm).1
  clear hm
  go_wp2_with fail
  refine HMAX.out.mono ?_
  rintro e w' ⟨m', rfl, hm, _, rfl⟩
  have hm2 := (HR.out m' hm).2
  clear hm
  go_wp2
  go_ret
  exact ⟨rfl, rfl⟩
set_option maxHeartbeats 800000 in
theorem push_bad {w : World} {B b mb lb : Nat} {X : Nat → Prop} {s : RS} {vi vo v : Value} {l : List Int} {c : Int} (h : RAt w B b mb lb X s vi vo c) (hk : s.ok) (hv : IntsIn w v l) (hl65 : l.length ≤ 65536) (hbad : ¬ (l.length = s.W ∧ ∀ x ∈ l, okWord x)) :
    Calls Tryd.prog 17 #[.pointer (some ⟨b, 0, none⟩), v] w fun e w' => e = .returned (.int .i64 3) ∧ w = w' := by
  have hw1 := hk.w1
  have hw6 := hk.w6
  have c1 := h.c1
  by_cases hl : l.length = s.W
  · have HMIN := Lib.hid (min_any hv (by omega) hl65)
    have HMAX := Lib.hid (max_any hv (by omega) hl65)
    rw [← hl] at c1
    have hbad' : ∃ x ∈ l, ¬ okWord x := by
      apply Classical.byContradiction
      intro hc
      refine hbad ⟨hl, fun x hx => ?_⟩
      apply Classical.byContradiction
      intro hx'
      exact hc ⟨x, hx, hx'⟩
    obtain ⟨x, hx, hxb⟩ := hbad'
    have HXB := Lib.hid hxb
    obtain ⟨A, cc, rfl, -, -⟩ := hv
    clear h hk hl hbad hxb
    go_enter Tryd.func17, Tryd.ntmps17
    go_wp2_with fail
    refine HMIN.out.mono ?_
    rintro e w' ⟨m, rfl, _, hm, rfl⟩
    have hm1 := hm x hx
    clear hm
    by_cases hneg : m < 0
    · go_wp2
      go_ret
      exact ⟨rfl, rfl⟩
    · go_wp2_with fail
      refine HMAX.out.mono ?_
      rintro e w' ⟨m', rfl, _, hm, rfl⟩
      have hm2 := hm x hx
      have hm3 : 2147483647 < m' := by
        have := HXB.out
        unfold okWord at this
        omega
      clear hm
      go_wp2
      go_ret
      exact ⟨rfl, rfl⟩
  · obtain ⟨A, cc, rfl, -, -⟩ := hv
    have hne : ((l.length : Int) != (s.W : Int)) = true := by simp; omega
    clear h hk hbad hl hw1 hw6 hl65
    go_enter Tryd.func17, Tryd.ntmps17
    go_wp2
    go_ret
    exact ⟨rfl, rfl⟩
end Go.Proofs.YtelfclcljdjohaaDoor
