/- The register of three slots: beginning a write; a step. -/
import Derived.Test.YtdhbiogcaekbbaaDoorTripleE
namespace Go.Proofs.YtdhbiogcaekbbaaDoor
open Go.RowKit

set_option maxHeartbeats 800000 in
theorem min_any {w : World} {v : Value} {l : List Int} (h : IntsIn w v l) (hp : 0 < l.length) (hl : l.length ≤ 65536) :
    Calls Tryd.prog 33 #[v] w fun e w' => ∃ m : Int, e = .returned (.int .i64 m) ∧ m ∈ l ∧ (∀ v ∈ l, m ≤ v) ∧ w = w' := by
  obtain ⟨A, c, rfl, hc, k⟩ := h
  obtain ⟨g, o, rfl, hcell⟩ := k hp
  have HC := Lib.hid hcell
  have c0 := hcell 0 hp
  simp only [Nat.add_zero] at c0
  have b0 : (0 : Int) < (l.length : Int) := by omega
  have b1 : ¬ (l.length : Int) < 1 := by omega
  clear k hcell
  have hx0 : ∃ x0, l[0] = x0 := ⟨_, rfl⟩
  obtain ⟨x0, hx0⟩ := hx0
  rw [hx0] at c0
  have HX0 := Lib.hid hx0
  clear hx0
  go_enter Tryd.func33, Tryd.ntmps33
  go_wp2
  go_loop [3, 4] (fun mm i => ∃ (k : Nat) (m : Int), 1 ≤ k ∧ k ≤ l.length ∧ i = .int .i64 k ∧ mm = .int .i64 m ∧ m ∈ l ∧ ∀ j (h : j < l.length), j < k → m ≤ l[j]) (fun _ i => l.length - (intOf i).toNat)
  case atStart => exact ⟨1, x0, by omega, by omega, rfl, rfl, by rw [← HX0.out]; exact List.getElem_mem _, fun j hj hk => by
    have : j = 0 := by omega
    subst this
    have := HX0.out
    omega⟩
  case round =>
    obtain ⟨k, m, hk1, hk, rfl, rfl, hmem, hall⟩ := hrel
    have HM := Lib.hid hmem
    have HA := Lib.hid hall
    clear hmem hall
    by_cases hlt : k < l.length
    · have ck := HC.out k hlt
      have hxk : ∃ y, l[k] = y := ⟨_, rfl⟩
      obtain ⟨y, hy⟩ := hxk
      rw [hy] at ck
      have HY := Lib.hid hy
      clear hy
      have b2 : (k : Int) < (l.length : Int) := by omega
      have b3 : (0 : Int) ≤ (k : Int) := by omega
      by_cases hxy : m ≤ y
      all_goals
        go_wp2
        all_goals
          go_round
          case rel =>
            refine ⟨k + 1, _, by omega, by omega, by go_num, rfl, ?_, fun j hj hjk => ?_⟩
            · have hym : y ∈ l := by rw [← HY.out]; exact List.getElem_mem _
              first | exact HM.out | exact hym | (split <;> first | exact hym | exact HM.out)
            · rcases Nat.lt_or_ge j k with h' | h'
              · have := HA.out j hj h'
                omega
              · have : j = k := by omega
                subst this
                have := HY.out
                first | omega | (split <;> omega)
          case measure => simp [intOf]; omega
    · obtain rfl : k = l.length := by omega
      go_wp2
      go_ret
      refine ⟨m, rfl, HM.out, fun v hv => ?_, rfl⟩
      obtain ⟨j, hj, rfl⟩ := List.getElem_of_mem hv
      exact HA.out j hj hj

set_option maxHeartbeats 800000 in
theorem max_any {w : World} {v : Value} {l : List Int} (h : IntsIn w v l) (hp : 0 < l.length) (hl : l.length ≤ 65536) :
    Calls Tryd.prog 34 #[v] w fun e w' => ∃ m : Int, e = .returned (.int .i64 m) ∧ m ∈ l ∧ (∀ v ∈ l, v ≤ m) ∧ w = w' := by
  obtain ⟨A, c, rfl, hc, k⟩ := h
  obtain ⟨g, o, rfl, hcell⟩ := k hp
  have HC := Lib.hid hcell
  have c0 := hcell 0 hp
  simp only [Nat.add_zero] at c0
  have b0 : (0 : Int) < (l.length : Int) := by omega
  have b1 : ¬ (l.length : Int) < 1 := by omega
  clear k hcell
  have hx0 : ∃ x0, l[0] = x0 := ⟨_, rfl⟩
  obtain ⟨x0, hx0⟩ := hx0
  rw [hx0] at c0
  have HX0 := Lib.hid hx0
  clear hx0
  go_enter Tryd.func34, Tryd.ntmps34
  go_wp2
  go_loop [3, 4] (fun mm i => ∃ (k : Nat) (m : Int), 1 ≤ k ∧ k ≤ l.length ∧ i = .int .i64 k ∧ mm = .int .i64 m ∧ m ∈ l ∧ ∀ j (h : j < l.length), j < k → l[j] ≤ m) (fun _ i => l.length - (intOf i).toNat)
  case atStart => exact ⟨1, x0, by omega, by omega, rfl, rfl, by rw [← HX0.out]; exact List.getElem_mem _, fun j hj hk => by
    have : j = 0 := by omega
    subst this
    have := HX0.out
    omega⟩
  case round =>
    obtain ⟨k, m, hk1, hk, rfl, rfl, hmem, hall⟩ := hrel
    have HM := Lib.hid hmem
    have HA := Lib.hid hall
    clear hmem hall
    by_cases hlt : k < l.length
    · have ck := HC.out k hlt
      have hxk : ∃ y, l[k] = y := ⟨_, rfl⟩
      obtain ⟨y, hy⟩ := hxk
      rw [hy] at ck
      have HY := Lib.hid hy
      clear hy
      have b2 : (k : Int) < (l.length : Int) := by omega
      have b3 : (0 : Int) ≤ (k : Int) := by omega
      by_cases hxy : m ≤ y
      all_goals
        go_wp2
        all_goals
          go_round
          case rel =>
            refine ⟨k + 1, _, by omega, by omega, by go_num, rfl, ?_, fun j hj hjk => ?_⟩
            · have hym : y ∈ l := by rw [← HY.out]; exact List.getElem_mem _
              first | exact HM.out | exact hym | (split <;> first | exact hym | exact HM.out)
            · rcases Nat.lt_or_ge j k with h' | h'
              · have := HA.out j hj h'
                omega
              · have : j = k := by omega
                subst this
                have := HY.out
                first | omega | (split <;> omega)
          case measure => simp [intOf]; omega
    · obtain rfl : k = l.length := by omega
      go_wp2
      go_ret
      refine ⟨m, rfl, HM.out, fun v hv => ?_, rfl⟩
      obtain ⟨j, hj, rfl⟩ := List.getElem_of_mem hv
      exact HA.out j hj hj

def okWord (v : Int) : Prop := 0 ≤ v ∧ v ≤ 2147483647
set_option maxRecDepth 100000 in
set_option maxHeartbeats 1600000 in
theorem write_begin {w : World} {b mb lb : Nat} {s : TS} {vi vo v : Value} {l : List Int} {c : Int} (h : TAt w b mb lb s vi vo c) (hk : s.ok) (hia : s.ia = 0) (hv : IntsIn w v l) (hl : l.length = s.W) (hr : ∀ x ∈ l, okWord x) :
    Calls Tryd.prog 16 #[.pointer (some ⟨b, 0, none⟩), v] w fun e w' => e = .returned (.int .i64 0) ∧ ∃ vi', TAt w' b mb lb { s with ia := 3, il := l, inn := 0 } vi' vo c ∧ Only (regS b mb lb) w w' := by
  have hw1 := hk.w1
  have hw6 := hk.w6
  have HMIN := Lib.hid (min_any hv (by omega) (by omega))
  have HMAX := Lib.hid (max_any hv (by omega) (by omega))
  have HCL := Lib.hid (clone_any hv (by omega))
  have c0 := h.c0
  have c2 := h.c2
  rw [hia, show ((0 : Nat) : Int) = 0 from rfl] at c2
  rw [← hl] at c0
  have HT := Lib.hid h
  have HR := Lib.hid hr
  obtain ⟨A, cc, rfl, -, -⟩ := hv
  clear h hk hia hl hr
  go_enter Tryd.func16, Tryd.ntmps16
  go_wp2_with fail
  refine HMIN.out.mono ?_
  rintro e w' ⟨m, rfl, hm, _, rfl⟩
  have hm1 := (HR.out m hm).1
  clear hm
  go_wp2_with fail
  refine HMAX.out.mono ?_
  rintro e w' ⟨m', rfl, hm, _, rfl⟩
  have hm2 := (HR.out m' hm).2
  clear hm
  go_wp2_with fail
  refine HCL.out.mono ?_
  rintro e w1 ⟨v', rfl, ho, hb⟩
  obtain ⟨A', c', rfl⟩ := own_form ho
  have hT1 := HT.out.below hb
  have HO := Lib.hid ho
  have HB := Lib.hid hb
  have f2 := hT1.r.fr 2
  have f4 := hT1.r.fr 4
  have f5 := hT1.r.fr 5
  have d2 := hT1.c2
  have d4 := hT1.c4
  have d5 := hT1.c5
  have HT1 := Lib.hid hT1
  clear ho hb hT1 c0 c2 HMIN HMAX HCL
  have hO : ∀ (W : World) (i : Nat) (u : Value), Only (fun k => k = b) W (W.setCell ⟨b, i, none⟩ u) := fun W i u => onl_set (S := fun k => k = b) (onl_refl _ W) (p := ⟨b, i, none⟩) (.inl rfl) u
  have hbl := HT.out.r.lt
  have hml := HT.out.m.m.lt
  have hll := HT.out.m.d.lt
  have hxl := HT.out.lx
  have hlt : ∀ g, (Value.slice A' l.length c').ownBlock = some g → ¬ offS b mb lb s.x g := fun g hg e => by
    have := (HO.out.lt g hg).1
    unfold offS regS at e
    omega
  have HT2 := Lib.hid (show TAt (((w1.setCell ⟨b, 2, none⟩ (.int .i64 3)).setCell ⟨b, 4, none⟩ (.slice A' l.length c')).setCell ⟨b, 5, none⟩ (.int .i64 0)) b mb lb { s with ia := 3, il := l, inn := 0 } (.slice A' l.length c') vo c from by
    have hne := HT.out.ne
    have hall := onl_trans (hO w1 2 (.int .i64 3)) (onl_trans (hO _ 4 (.slice A' l.length c')) (hO _ 5 (.int .i64 0)))
    exact ⟨((HT1.out.r.set 2 (.int .i64 3)).set 4 (.slice A' l.length c')).set 5 (.int .i64 0), HT1.out.m.onl hall (fun e => hne.1 e.symm) (fun e => hne.2 e.symm), ints_onl (IntsIn.of_own HO.out rfl) hall (fun g hg e => hlt g hg (.inl (.inl e))), full_onl HT1.out.ol hall (fun g hg e => HT.out.so g hg (.inl e)), hlt, HT.out.sy, Nat.lt_of_lt_of_le HT1.out.lx hall.size⟩)
  have HO2 := Lib.hid (onl_trans (onl_below HB.out) (onl_mono (T := regS b mb lb) (onl_trans (hO w1 2 (.int .i64 3)) (onl_trans (hO _ 4 (.slice A' l.length c')) (hO _ 5 (.int .i64 0)))) fun k e => .inl e))
  clear hO hlt hbl hml hll hxl
  go_wp2_with fail
  go_ret
  exact ⟨rfl, _, HT2.out, HO2.out⟩
set_option maxHeartbeats 800000 in
theorem write_busy {w : World} {b mb lb : Nat} {s : TS} {vi vo v : Value} {l : List Int} {c : Int} (h : TAt w b mb lb s vi vo c) (hk : s.ok) (hia : s.ia = 3) (hv : IntsIn w v l) (hl : l.length = s.W) (hr : ∀ x ∈ l, okWord x) :
    Calls Tryd.prog 16 #[.pointer (some ⟨b, 0, none⟩), v] w fun e w' => e = .returned (.int .i64 1) ∧ w = w' := by
  have hw1 := hk.w1
  have hw6 := hk.w6
  have HMIN := Lib.hid (min_any hv (by omega) (by omega))
  have HMAX := Lib.hid (max_any hv (by omega) (by omega))
  have c0 := h.c0
  have c2 := h.c2
  rw [hia, show ((3 : Nat) : Int) = 3 from rfl] at c2
  rw [← hl] at c0
  have HR := Lib.hid hr
  obtain ⟨A, cc, rfl, -, -⟩ := hv
  clear h hk hia hl hr
  go_enter Tryd.func16, Tryd.ntmps16
  go_wp2_with fail
  refine HMIN.out.mono ?_
  rintro e w' ⟨m, rfl, hm, _, rfl⟩
  have hm1 := (HR.out m hm).1
  clear hm
  go_wp2_with fail
  refine HMAX.out.mono ?_
  rintro e w' ⟨m', rfl, hm, _, rfl⟩
  have hm2 := (HR.out m' hm).2
  clear hm
  go_wp2
  go_ret
  exact ⟨rfl, rfl⟩
set_option maxHeartbeats 800000 in
theorem write_bad {w : World} {b mb lb : Nat} {s : TS} {vi vo v : Value} {l : List Int} {c : Int} (h : TAt w b mb lb s vi vo c) (hk : s.ok) (hv : IntsIn w v l) (hl65 : l.length ≤ 65536) (hbad : ¬ (l.length = s.W ∧ ∀ x ∈ l, okWord x)) :
    Calls Tryd.prog 16 #[.pointer (some ⟨b, 0, none⟩), v] w fun e w' => e = .returned (.int .i64 3) ∧ w = w' := by
  have hw1 := hk.w1
  have hw6 := hk.w6
  have c0 := h.c0
  by_cases hl : l.length = s.W
  · have HMIN := Lib.hid (min_any hv (by omega) hl65)
    have HMAX := Lib.hid (max_any hv (by omega) hl65)
    rw [← hl] at c0
    have hbad' : ∃ x ∈ l, ¬ okWord x := by
      apply Classical.byContradiction
      intro hc
      refine hbad ⟨hl, fun x hx => ?_⟩
      apply Classical.byContradiction
      intro hx'
      exact hc ⟨x, hx, hx'⟩
    obtain ⟨x, hx, hxb⟩ := hbad'
    have HXB := Lib.hid hxb
    obtain ⟨A, cc, rfl, -, -⟩ := hv
    clear h hk hl hbad hxb
    go_enter Tryd.func16, Tryd.ntmps16
    go_wp2_with fail
    refine HMIN.out.mono ?_
    rintro e w' ⟨m, rfl, _, hm, rfl⟩
    have hm1 := hm x hx
    clear hm
    by_cases hneg : m < 0
    · go_wp2
      go_ret
      exact ⟨rfl, rfl⟩
    · go_wp2_with fail
      refine HMAX.out.mono ?_
      rintro e w' ⟨m', rfl, _, hm, rfl⟩
      have hm2 := hm x hx
      have hm3 : 2147483647 < m' := by
        have := HXB.out
        unfold okWord at this
        omega
      clear hm
      go_wp2
      go_ret
      exact ⟨rfl, rfl⟩
  · obtain ⟨A, cc, rfl, -, -⟩ := hv
    have hne : ((l.length : Int) != (s.W : Int)) = true := by simp; omega
    clear h hk hbad hl hw1 hw6 hl65
    go_enter Tryd.func16, Tryd.ntmps16
    go_wp2
    go_ret
    exact ⟨rfl, rfl⟩
theorem write_nil (A : Option Addr) (n cc : Nat) (w : World) :
    Calls Tryd.prog 16 #[.pointer none, .slice A n cc] w fun e w' => e = .returned (.int .i64 3) ∧ w = w' := by
  go_enter Tryd.func16, Tryd.ntmps16
  go_wp2
  go_ret
  exact ⟨rfl, rfl⟩
end Go.Proofs.YtdhbiogcaekbbaaDoor
