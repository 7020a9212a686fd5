/- A log: an event is told. -/
import Derived.Test.YtbnaehfgpilicaaDoorHealth
import Derived.Deep.CutBlock
import Derived.Deep.DeepCutAuto
namespace Go.Proofs.YtbnaehfgpilicaaDoor
open Go.RowKit

theorem grown_keep {w w' : World} {b g : Nat} {t : TypeId} {cs : Array Value} (h : Blk w g t cs) (k : w.grownBy w' (some b)) (hn : g ≠ b) : Blk w' g t cs := h.grown k (by simp [hn])
set_option maxHeartbeats 1600000 in
theorem tell_ok {w : World} {b : Nat} {l : List Ev} (h : LogAt w b l) (e : Ev) (hk : okK e.k) (hl : l.length ≤ 100000) :
    Calls Tryd.prog 16 #[.pointer (some ⟨b, 0, none⟩), .agg e.cells] w fun r w' => r = .returned (.int .i64 0) ∧ LogAt w' b (l ++ [e]) ∧ w.grownBy w' (some b) := by
  have hlt := h.lt
  unfold Ev.cells
  have hcl := cntK_le l e.k
  have H := Lib.hid h
  clear h
  go_enter Tryd.func16, Tryd.ntmps16
  go_wp2_with fail
  refine (is_yes _ _ hk).mono ?_
  rintro r w1 ⟨rfl, hw⟩
  have hx : Blk w1 w.heap.size 23 e.cells := hw ▸ Blk.new w _ _
  have hB : Below w.heap.size w w1 := hw ▸ below_alloc (Nat.le_refl _) _
  have hg : w.grownBy w1 (some b) := only_of_below hB _
  have hxb : w.heap.size ≠ b := by omega
  clear hw
  obtain ⟨m, hm⟩ : ∃ m, m = l.length % 64 := ⟨_, rfl⟩
  have hP := H.out.below hB hlt
  have HP := Lib.hid hP
  have HG := Lib.hid hg
  have HX := Lib.hid hx
  generalize w.heap.size = x at *
  go_upto_region 3 with (fail)
  go_cut [4] (fun v wx => v = .int .i64 0 ∧ LogG wx b (l ++ [e]) l.length (fun k => cntK l k) ∧ w.grownBy wx (some b) ∧ Blk wx x 23 e.cells)
  case first =>
    have x0 : w1.cell? ⟨x, 0, none⟩ = some (.int .i64 e.k) := (hx.cell 0).trans rfl
    have x1 : w1.cell? ⟨x, 1, none⟩ = some (.int .i64 e.t) := (hx.cell 1).trans rfl
    have x2 : w1.cell? ⟨x, 2, none⟩ = some (.int .i64 e.p) := (hx.cell 2).trans rfl
    have x3 : w1.cell? ⟨x, 3, none⟩ = some (.int .i64 e.c) := (hx.cell 3).trans rfl
    have x4 : w1.cell? ⟨x, 4, none⟩ = some (.int .i64 e.n) := (hx.cell 4).trans rfl
    have c0 := hP.told
    have m64 : (m : Int) < 64 := by omega
    have m0 : (0 : Int) ≤ (m : Int) := by omega
    have HM := Lib.hid hm
    obtain ⟨e0, he0⟩ := hP.old m (by omega)
    obtain ⟨o0, o1, o2, o3, o4⟩ := he0
    have f0 := hP.fr (m * 5)
    have f1 := hP.fr (m * 5 + 1)
    have f2 := hP.fr (m * 5 + 2)
    have f3 := hP.fr (m * 5 + 3)
    have f4 := hP.fr (m * 5 + 4)
    have ht : (l.length : Int).tmod 64 = (m : Int) := by rw [Int.tmod_eq_emod_of_nonneg (by omega)]; omega
    have ht' : (l.length : Int) % 64 = (m : Int) := by omega
    have w0 : IntKind.i64.wrap (m : Int) = (m : Int) := by rw [IntKind.wrap_i64]; omega
    have HF := Lib.hid (show LogG (put5 w1 b (m * 5) e) b (l ++ [e]) l.length _ from by have := HP.out.put e; rw [HM.out]; exact this)
    have HGF := Lib.hid (show w.grownBy (put5 w1 b (m * 5) e) (some b) from only_set (only_set (only_set (only_set (only_set HG.out (.inl rfl) _) (.inl rfl) _) (.inl rfl) _) (.inl rfl) _) (.inl rfl) _)
    have HXF := Lib.hid (show Blk (put5 w1 b (m * 5) e) x 23 e.cells from ((((HX.out.far (p := ⟨b, _, none⟩) hxb _).far (p := ⟨b, _, none⟩) hxb _).far (p := ⟨b, _, none⟩) hxb _).far (p := ⟨b, _, none⟩) hxb _).far (p := ⟨b, _, none⟩) hxb _)
    clear hm hP hx hB hg
    go_wp2
    go_still_tail 10, (by kernel_rfl)
    change wpList _ _ _ _ _ w1.drew
    go_wp2
    go_meet
    exact ⟨rfl, HF.out.keep rfl, only_drew HGF.out, HXF.out⟩
  case rest =>
    obtain ⟨rfl, hP, hg, hx⟩ := hcut
    have c0 := hP.told
    have f0 := hP.fr 320
    have HPF := Lib.hid (show LogG (wc.setCell ⟨b, 320, none⟩ (.int .i64 ((l.length : Int) + 1))) b (l ++ [e]) (l.length + 1) _ from by have := hP.set_told (l.length + 1); simpa using this)
    have HGF := Lib.hid (only_set (p := ⟨b, 320, none⟩) hg (.inl rfl) (.int .i64 ((l.length : Int) + 1)))
    have HXF := Lib.hid (hx.far (p := ⟨b, 320, none⟩) hxb (.int .i64 ((l.length : Int) + 1)))
    clear HP HG HX hP hg hx
    go_upto_region 4 with (fail)
    go_cut [4] (fun v wx => v = .int .i64 0 ∧ LogG wx b (l ++ [e]) (l.length + 1) (fun k => cntK l k) ∧ w.grownBy wx (some b) ∧ Blk wx x 23 e.cells)
    case first =>
      go_wp2
      go_meet
      exact ⟨rfl, HPF.out, HGF.out, HXF.out⟩
    case rest =>
      clear HPF HGF HXF c0 f0
      obtain ⟨rfl, hP, hg, hx⟩ := hcut
      have hk' := hk
      obtain ⟨k0, k1⟩ := hk'
      obtain ⟨j, hj⟩ := Int.eq_ofNat_of_zero_le k0
      have x0 : wc.cell? ⟨x, 0, none⟩ = some (.int .i64 e.k) := (hx.cell 0).trans rfl
      rw [hj] at x0 hcl k1
      have c0 := hP.cnt j (by omega)
      have f0 := hP.fr (321 + j)
      have HPF := Lib.hid (show LogAt (wc.setCell ⟨b, 321 + j, none⟩ (.int .i64 ((cntK l (j : Int) : Int) + 1))) b (l ++ [e]) from by
        refine LogG.fin ?_ hk
        have := hP.set_cnt j (cntK l (j : Int) + 1) (by omega)
        rw [show e.k.toNat = j by omega, hj]
        simpa using this)
      have HGF := Lib.hid (only_set (p := ⟨b, 321 + j, none⟩) hg (.inl rfl) (.int .i64 ((cntK l (j : Int) : Int) + 1)))
      generalize cntK l (j : Int) = cn at *
      clear hP hg hx hk k0 hj
      go_wp2
      go_still_tail 11, (by kernel_rfl)
      change wpList _ _ _ _ _ wc.drew
      go_wp2
      go_ret
      exact ⟨rfl, HPF.out.keep rfl, only_drew HGF.out⟩
theorem tell_no (v : Option Nat) (e : Ev) (w : World) (hk : v = none ∨ ¬ okK e.k) :
    Calls Tryd.prog 16 #[.pointer (v.map fun b => ⟨b, 0, none⟩), .agg e.cells] w fun r w' => r = .returned (.int .i64 3) ∧ Below w.heap.size w w' := by
  unfold Ev.cells
  cases v with
  | none =>
    go_enter Tryd.func16, Tryd.ntmps16
    go_wp2
    go_ret
    exact ⟨rfl, below_alloc (Nat.le_refl _) _⟩
  | some b =>
    have hk' : ¬ okK e.k := hk.resolve_left (by simp)
    clear hk
    go_enter Tryd.func16, Tryd.ntmps16
    go_wp2_with (go_at_call 28; refine (is_no _ _ hk').mono ?_; rintro e w' ⟨rfl, rfl⟩)
    go_ret
    exact ⟨rfl, below_alloc (Nat.le_refl _) _⟩
end Go.Proofs.YtbnaehfgpilicaaDoor
