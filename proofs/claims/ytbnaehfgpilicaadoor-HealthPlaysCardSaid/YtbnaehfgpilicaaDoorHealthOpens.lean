/- Events that came in; what the listed table gives. -/
import Derived.Test.YtbnaehfgpilicaaDoorHealthI
import Derived.Test.YtbnaehfgpilicaaDoorRows
import Derived.ProofKit
import Derived.OpenShut
import Derived.ChangeOld
import Derived.Deep.Slices
import Derived.Deep.Fields
import Derived.ChangeSame
import Derived.LaidMore
namespace Go.Proofs.YtbnaehfgpilicaaDoor
open Go.ChangeShapes Go.WideShapes Go.ChangeAt Go.RowKit Go.Deep

theorem add_at {a : Addr} {w : World} {v : Value} (h : w.cell? a = some v) : a = ⟨a.block, a.off, none⟩ ∧ ∀ j, a.add j = ⟨a.block, a.off + j, none⟩ := by
  have hs := World.cell?_spot h
  obtain ⟨b, o, s⟩ := a
  subst hs
  refine ⟨rfl, fun j => ?_⟩
  unfold Addr.add
  split <;> simp_all
theorem wf_i64 {n : Int} (h : (Lit.int .i64 n).wf = true) : -9223372036854775808 ≤ n ∧ n ≤ 9223372036854775807 := by
  have h1 : IntKind.i64.min = -9223372036854775808 := by rfl
  have h2 : IntKind.i64.max = 9223372036854775807 := by rfl
  simp [Lit.wf] at h
  omega
set_option maxRecDepth 100000 in
theorem open_event {H : Type} {enc : TypeId × Value → H} {W : World} {base : Nat} {spare : Nat → Bool} {held : Bool} {r : Reach} {b0 : Nat} {v : Value} {d : DataW H} {p : List MemPlace}
    (hv : Value.okWide Tryd.prog W r b0 23 v) (h : DataW.Trod enc Tryd.prog W base spare held 23 v d p) : ∃ e : Ev, v = .agg e.cells ∧ evFits e := by
  have hC : Tryd.prog.cellsOf 23 = 5 := by kernel_rfl
  have hI : Tryd.prog.cellsOf 3 = 1 := by kernel_rfl
  obtain ⟨cs, rfl, hsz⟩ := okWide_struct Tryd.underlying23 hv
  obtain ⟨l⟩ := cs
  match l, hsz.trans hC with
  | [c0, c1, c2, c3, c4], _ =>
    obtain ⟨fuel, hf⟩ := h
    obtain ⟨xs, n, _, hx, _, hlen, hg⟩ := DataW.trod_struct Tryd.underlying23 hf
    have f0 := hg 0 _ rfl
    have f1 := hg 1 _ rfl
    have f2 := hg 2 _ rfl
    have f3 := hg 3 _ rfl
    have f4 := hg 4 _ rfl
    have y5 : xs.length = 5 := hlen
    rw [List.getElem?_eq_getElem (by omega)] at f0 f1 f2 f3 f4
    obtain ⟨x0, e0, -, w0⟩ := DataW.trod_int Tryd.underlying3 f0
    obtain ⟨x1, e1, -, w1⟩ := DataW.trod_int Tryd.underlying3 f1
    obtain ⟨x2, e2, -, w2⟩ := DataW.trod_int Tryd.underlying3 f2
    obtain ⟨x3, e3, -, w3⟩ := DataW.trod_int Tryd.underlying3 f3
    obtain ⟨x4, e4, -, w4⟩ := DataW.trod_int Tryd.underlying3 f4
    simp [Value.cells, hI] at e0 e1 e2 e3 e4
    subst e0 e1 e2 e3 e4
    exact ⟨⟨x0, x1, x2, x3, x4⟩, rfl, wf_i64 w1, wf_i64 w2, wf_i64 w3, wf_i64 w4⟩
def evAt (w : World) (b o : Nat) : Ev :=
  let f := fun i => match w.cell? ⟨b, o + i, none⟩ with
    | some (.int _ n) => n
    | _ => 0
  ⟨f 0, f 1, f 2, f 3, f 4⟩
theorem evAt_of {w : World} {b o : Nat} {e : Ev} (h : EvAt w b o e) : evAt w b o = e := by
  unfold evAt
  simp only [Nat.add_zero, h.k, h.t, h.p, h.c, h.n]
set_option maxRecDepth 100000 in
theorem open_events {H : Type} {enc : TypeId × Value → H} {w : World} {base fuel len cap : Nat} {spare : Nat → Bool} {held : Bool} {A : Option Addr} {x : DataW H × List MemPlace}
    (h : DataW.trod enc Tryd.prog w base spare held fuel 28 (Value.cells (.slice A len cap)).toList = some x) : ∃ L, EvsIn w (.slice A len cap) L ∧ len ≤ cap ∧ cap ≤ maxLen := by
  rcases open_slice Tryd.underlying28 h with ⟨hcs, _⟩ | ⟨a, l, c, m, n, D, Pl, hcs, hb, hl, hm, hmm, hx, hi⟩
  · simp [Value.cells] at hcs
    obtain ⟨rfl, rfl, rfl⟩ := hcs
    exact ⟨[], EvsIn.nil w, Nat.le_refl _, by simp⟩
  · simp [Value.cells] at hcs
    obtain ⟨rfl, rfl, rfl⟩ := hcs
    have hlm : len ≤ m := by rw [hmm]; split <;> omega
    have hC : Tryd.prog.cellsOf 23 = 5 := by kernel_rfl
    have hC1 : Tryd.prog.cellsOf 3 = 1 := by kernel_rfl
    have key : ∀ i, i < len → ∃ e : Ev, w.cell? (a.add (i * 5 + 0)) = some (.int .i64 e.k) ∧ w.cell? (a.add (i * 5 + 1)) = some (.int .i64 e.t) ∧ w.cell? (a.add (i * 5 + 2)) = some (.int .i64 e.p) ∧ w.cell? (a.add (i * 5 + 3)) = some (.int .i64 e.c) ∧ w.cell? (a.add (i * 5 + 4)) = some (.int .i64 e.n) := by
      intro i hilt
      obtain ⟨cs', hc, ht⟩ := hi i (by omega)
      rw [hC] at hc
      obtain ⟨ys, n', hn', hy, hlen, hyl, hf⟩ := DataW.trod_struct Tryd.underlying23 ht
      obtain ⟨_, hcl, hat⟩ := World.cells?_some hc
      match cs', hcl with
      | [c0, c1, c2, c3, c4], _ =>
        have a0 := hat 0 (by omega)
        have a1 := hat 1 (by omega)
        have a2 := hat 2 (by omega)
        have a3 := hat 3 (by omega)
        have a4 := hat 4 (by omega)
        rw [Addr.add_add] at a0 a1 a2 a3 a4
        have f0 := hf 0 _ rfl
        have f1 := hf 1 _ rfl
        have f2 := hf 2 _ rfl
        have f3 := hf 3 _ rfl
        have f4 := hf 4 _ rfl
        have y5 : ys.length = 5 := hyl
        rw [List.getElem?_eq_getElem (by omega)] at f0 f1 f2 f3 f4
        obtain ⟨x0, e0, -⟩ := DataW.trod_int Tryd.underlying3 f0
        obtain ⟨x1, e1, -⟩ := DataW.trod_int Tryd.underlying3 f1
        obtain ⟨x2, e2, -⟩ := DataW.trod_int Tryd.underlying3 f2
        obtain ⟨x3, e3, -⟩ := DataW.trod_int Tryd.underlying3 f3
        obtain ⟨x4, e4, -⟩ := DataW.trod_int Tryd.underlying3 f4
        simp [hC1] at e0 e1 e2 e3 e4
        subst e0 e1 e2 e3 e4
        exact ⟨⟨x0, x1, x2, x3, x4⟩, a0, a1, a2, a3, a4⟩
    by_cases hz : len = 0
    · subst hz
      exact ⟨[], ⟨some a, cap, rfl, by simp, fun h => by simp at h⟩, hl, hm⟩
    · obtain ⟨e0, h0, _⟩ := key 0 (by omega)
      have h00 : a.add (0 * 5 + 0) = a := by simp [Addr.add]
      rw [h00] at h0
      obtain ⟨ha, hsp⟩ := add_at h0
      have hsp5 : ∀ i j, a.add (i * 5 + j) = ⟨a.block, a.off + i * 5 + j, none⟩ := fun i j => by rw [hsp, Nat.add_assoc]
      have key2 : ∀ i, i < len → ∃ e : Ev, EvAt w a.block (a.off + i * 5) e := fun i hilt => by
        obtain ⟨e, k0, k1, k2, k3, k4⟩ := key i hilt
        rw [hsp5] at k0 k1 k2 k3 k4
        exact ⟨e, k0, k1, k2, k3, k4⟩
      refine ⟨(List.range len).map fun i => evAt w a.block (a.off + i * 5), ⟨some a, cap, by simp, by simp; exact hl, fun _ => ⟨a.block, a.off, by rw [← ha], fun i hilt => ?_⟩⟩, hl, hm⟩
      obtain ⟨e, he⟩ := key2 i (by simpa using hilt)
      simp only [List.getElem_map, List.getElem_range, evAt_of he]
      exact he
/-- What the condition gives: the table of powers of ten. -/
theorem tab_of_laid {W : World} (h : laidMetH Tryd.prog Rows.healthLinesRow.laid W) : Lib.TabIs Tryd.prog W "internal/strconv.uint64pow10" .u64 Lib.pow10Tab := by
  have e : Rows.healthLinesRow.laid = [("math/bits.deBruijn32tab", Rows.laid_math_bits_deBruijn32tab), ("math/bits.deBruijn64tab", Rows.laid_math_bits_deBruijn64tab), ("internal/strconv.uint64pow10", Rows.laid_internal_strconv_uint64pow10)] := rfl
  rw [e, MakeChecks.laidMetH_plain _ _ _ (by kernel_rfl)] at h
  obtain ⟨ps, ⟨g0, t0, cs0, f0, p0, q0, hg0, ht0, hv0, hd0, ⟨g1, t1, cs1, f1, p1, q1, hg1, ht1, hv1, hd1, ⟨g2, t2, cs2, f2, p2, q2, hg2, ht2, hv2, hd2, _, _⟩, _⟩, _⟩, _, _⟩ := h
  obtain rfl := Option.some.inj ((show Tryd.prog.globalNamed "internal/strconv.uint64pow10" = some 0 by kernel_rfl).symm.trans hg2)
  obtain rfl := Option.some.inj ((show (Tryd.prog.globals[0]?).map (·.type) = some 80 by kernel_rfl).symm.trans ht2)
  unfold Lib.TabIs
  rw [hv2, ← Lib.cells_of_tab Tryd.underlying80 Tryd.underlying71 (by kernel_rfl) (by kernel_rfl) (show DataW.trod _ Tryd.prog W 0 _ _ f2 80 cs2.toList = some (Lib.tabData .u64 Lib.pow10Tab, p2) from hd2)]
end Go.Proofs.YtbnaehfgpilicaaDoor
