/- Steps that came in; what the listed variables give. -/
import Derived.Test.YtkamcjejongmbaaDoorCellD
import Derived.Test.YtkamcjejongmbaaDoorRows
import Derived.ProofKit
import Derived.OpenShut
import Derived.ChangeOld
import Derived.Deep.Slices
import Derived.Deep.Fields
import Derived.ChangeSame
import Derived.LaidMore
import Derived.LaidHandle
namespace Go.Proofs.YtkamcjejongmbaaDoor
open Go.ChangeShapes Go.WideShapes Go.ChangeAt Go.RowKit Go.Deep

structure St where
  k : Int
  i : Int
  v : Int
def St.cells (e : St) : Array Value := #[.int .i64 e.k, .int .i64 e.i, .int .i64 e.v]
def inI (n : Int) : Prop := -9223372036854775808 ≤ n ∧ n ≤ 9223372036854775807
def stFits (e : St) : Prop := inI e.k ∧ inI e.i ∧ inI e.v
structure StAt (w : World) (g o : Nat) (e : St) : Prop where
  k : w.cell? ⟨g, o, none⟩ = some (.int .i64 e.k)
  i : w.cell? ⟨g, o + 1, none⟩ = some (.int .i64 e.i)
  v : w.cell? ⟨g, o + 2, none⟩ = some (.int .i64 e.v)
theorem StAt.keep {w w' : World} {g o : Nat} {e : St} (h : StAt w g o e) (hk : w'.heap[g]? = w.heap[g]?) : StAt w' g o e := by
  have hc : ∀ i, w'.cell? ⟨g, i, none⟩ = w.cell? ⟨g, i, none⟩ := fun i => World.cell?_of_block (a := ⟨g, i, none⟩) hk
  exact ⟨(hc _).trans h.k, (hc _).trans h.i, (hc _).trans h.v⟩
theorem StAt.lt {w : World} {g o : Nat} {e : St} (h : StAt w g o e) : g < w.heap.size := World.block_lt_of_cell? _ _ h.k
/-- A slice that reads as the steps l. -/
def StsIn (w : World) (v : Value) (l : List St) : Prop :=
  ∃ A c, v = .slice A l.length c ∧ l.length ≤ c ∧ (0 < l.length → ∃ g o, A = some ⟨g, o, none⟩ ∧ ∀ i (h : i < l.length), StAt w g (o + i * 3) l[i] ∧ stFits l[i])
theorem StsIn.keep {w w' : World} {v : Value} {l : List St} (h : StsIn w v l) (hk : ∀ g, g < w.heap.size → w'.heap[g]? = w.heap[g]?) : StsIn w' v l := by
  obtain ⟨A, c, rfl, hl, hc⟩ := h
  refine ⟨A, c, rfl, hl, fun hp => ?_⟩
  obtain ⟨g, o, rfl, hcell⟩ := hc hp
  exact ⟨g, o, rfl, fun i hi => ⟨(hcell i hi).1.keep (hk g (hcell i hi).1.lt), (hcell i hi).2⟩⟩
theorem StsIn.below {w w' : World} {v : Value} {l : List St} (h : StsIn w v l) (hb : Below w.heap.size w w') : StsIn w' v l := h.keep fun g hg => hb.block g hg
theorem StsIn.take {w : World} {A : Option Addr} {n c m : Nat} {l : List St} (h : StsIn w (.slice A n c) l) (hm : m ≤ n) : StsIn w (.slice A m c) (l.take m) := by
  obtain ⟨A', c', e, hl, hc⟩ := h
  injection e with e1 e2 e3
  subst e1 e2 e3
  refine ⟨A, c, by rw [List.length_take]; congr 1; omega, by rw [List.length_take]; omega, fun hp => ?_⟩
  rw [List.length_take] at hp
  obtain ⟨g, o, rfl, k⟩ := hc (by omega)
  refine ⟨g, o, rfl, fun i hi => ?_⟩
  rw [List.length_take] at hi
  rw [List.getElem_take]
  exact k i (by omega)
theorem add_at {a : Addr} {w : World} {v : Value} (h : w.cell? a = some v) : a = ⟨a.block, a.off, none⟩ ∧ ∀ j, a.add j = ⟨a.block, a.off + j, none⟩ := by
  have hs := World.cell?_spot h
  obtain ⟨b, o, s⟩ := a
  subst hs
  refine ⟨rfl, fun j => ?_⟩
  unfold Addr.add
  split <;> simp_all
theorem wf_i64 {n : Int} (h : (Lit.int .i64 n).wf = true) : -9223372036854775808 ≤ n ∧ n ≤ 9223372036854775807 := by
  have h1 : IntKind.i64.min = -9223372036854775808 := by rfl
  have h2 : IntKind.i64.max = 9223372036854775807 := by rfl
  simp [Lit.wf] at h
  omega
set_option maxRecDepth 100000 in
theorem open_step {H : Type} {enc : TypeId × Value → H} {W : World} {base : Nat} {spare : Nat → Bool} {held : Bool} {r : Reach} {b0 : Nat} {v : Value} {d : DataW H} {p : List MemPlace}
    (hv : Value.okWide Tryd.prog W r b0 28 v) (h : DataW.Trod enc Tryd.prog W base spare held 28 v d p) : ∃ e : St, v = .agg e.cells ∧ stFits e := by
  have hC : Tryd.prog.cellsOf 28 = 3 := by kernel_rfl
  have hI : Tryd.prog.cellsOf 3 = 1 := by kernel_rfl
  obtain ⟨cs, rfl, hsz⟩ := okWide_struct Tryd.underlying28 hv
  obtain ⟨l⟩ := cs
  match l, hsz.trans hC with
  | [c0, c1, c2], _ =>
    obtain ⟨fuel, hf⟩ := h
    obtain ⟨xs, n, _, hx, _, hlen, hg⟩ := DataW.trod_struct Tryd.underlying28 hf
    have f0 := hg 0 _ rfl
    have f1 := hg 1 _ rfl
    have f2 := hg 2 _ rfl
    have y5 : xs.length = 3 := hlen
    rw [List.getElem?_eq_getElem (by omega)] at f0 f1 f2
    obtain ⟨x0, e0, -, w0⟩ := DataW.trod_int Tryd.underlying3 f0
    obtain ⟨x1, e1, -, w1⟩ := DataW.trod_int Tryd.underlying3 f1
    obtain ⟨x2, e2, -, w2⟩ := DataW.trod_int Tryd.underlying3 f2
    simp [Value.cells, hI] at e0 e1 e2
    subst e0 e1 e2
    exact ⟨⟨x0, x1, x2⟩, rfl, wf_i64 w0, wf_i64 w1, wf_i64 w2⟩
def stAt (w : World) (b o : Nat) : St :=
  let f := fun i => match w.cell? ⟨b, o + i, none⟩ with
    | some (.int _ n) => n
    | _ => 0
  ⟨f 0, f 1, f 2⟩
theorem stAt_of {w : World} {b o : Nat} {e : St} (h : StAt w b o e) : stAt w b o = e := by
  unfold stAt
  simp only [Nat.add_zero, h.k, h.i, h.v]
set_option maxRecDepth 100000 in
theorem open_steps {H : Type} {enc : TypeId × Value → H} {w : World} {base fuel len cap : Nat} {spare : Nat → Bool} {held : Bool} {A : Option Addr} {x : DataW H × List MemPlace}
    (h : DataW.trod enc Tryd.prog w base spare held fuel 26 (Value.cells (.slice A len cap)).toList = some x) : ∃ L, StsIn w (.slice A len cap) L ∧ len ≤ cap ∧ cap ≤ maxLen := by
  rcases open_slice Tryd.underlying26 h with ⟨hcs, _⟩ | ⟨a, l, c, m, n, D, Pl, hcs, hb, hl, hm, hmm, hx, hi⟩
  · simp [Value.cells] at hcs
    obtain ⟨rfl, rfl, rfl⟩ := hcs
    exact ⟨[], ⟨none, 0, rfl, Nat.le_refl _, fun h => by simp at h⟩, Nat.le_refl _, by simp⟩
  · simp [Value.cells] at hcs
    obtain ⟨rfl, rfl, rfl⟩ := hcs
    have hlm : len ≤ m := by rw [hmm]; split <;> omega
    have hC : Tryd.prog.cellsOf 28 = 3 := by kernel_rfl
    have hC1 : Tryd.prog.cellsOf 3 = 1 := by kernel_rfl
    have key : ∀ i, i < len → ∃ e : St, w.cell? (a.add (i * 3 + 0)) = some (.int .i64 e.k) ∧ w.cell? (a.add (i * 3 + 1)) = some (.int .i64 e.i) ∧ w.cell? (a.add (i * 3 + 2)) = some (.int .i64 e.v) ∧ stFits e := by
      intro i hilt
      obtain ⟨cs', hc, ht⟩ := hi i (by omega)
      rw [hC] at hc
      obtain ⟨ys, n', hn', hy, hlen, hyl, hf⟩ := DataW.trod_struct Tryd.underlying28 ht
      obtain ⟨_, hcl, hat⟩ := World.cells?_some hc
      match cs', hcl with
      | [c0, c1, c2], _ =>
        have a0 := hat 0 (by omega)
        have a1 := hat 1 (by omega)
        have a2 := hat 2 (by omega)
        rw [Addr.add_add] at a0 a1 a2
        have f0 := hf 0 _ rfl
        have f1 := hf 1 _ rfl
        have f2 := hf 2 _ rfl
        have y5 : ys.length = 3 := hyl
        rw [List.getElem?_eq_getElem (by omega)] at f0 f1 f2
        obtain ⟨x0, e0, -, w0⟩ := DataW.trod_int Tryd.underlying3 f0
        obtain ⟨x1, e1, -, w1⟩ := DataW.trod_int Tryd.underlying3 f1
        obtain ⟨x2, e2, -, w2⟩ := DataW.trod_int Tryd.underlying3 f2
        simp [hC1] at e0 e1 e2
        subst e0 e1 e2
        exact ⟨⟨x0, x1, x2⟩, a0, a1, a2, wf_i64 w0, wf_i64 w1, wf_i64 w2⟩
    by_cases hz : len = 0
    · subst hz
      exact ⟨[], ⟨some a, cap, rfl, by simp, fun h => by simp at h⟩, hl, hm⟩
    · obtain ⟨e0, h0, _⟩ := key 0 (by omega)
      have h00 : a.add (0 * 3 + 0) = a := by simp [Addr.add]
      rw [h00] at h0
      obtain ⟨ha, hsp⟩ := add_at h0
      have hsp5 : ∀ i j, a.add (i * 3 + j) = ⟨a.block, a.off + i * 3 + j, none⟩ := fun i j => by rw [hsp, Nat.add_assoc]
      have key2 : ∀ i, i < len → ∃ e : St, StAt w a.block (a.off + i * 3) e ∧ stFits e := fun i hilt => by
        obtain ⟨e, k0, k1, k2, kf⟩ := key i hilt
        rw [hsp5] at k0 k1 k2
        exact ⟨e, ⟨k0, k1, k2⟩, kf⟩
      refine ⟨(List.range len).map fun i => stAt w a.block (a.off + i * 3), ⟨some a, cap, by simp, by simp; exact hl, fun _ => ⟨a.block, a.off, by rw [← ha], fun i hilt => ?_⟩⟩, hl, hm⟩
      obtain ⟨e, he, hf⟩ := key2 i (by simpa using hilt)
      simp only [List.getElem_map, List.getElem_range, stAt_of he]
      exact ⟨he, hf⟩
/-! ### What the condition gives -/
abbrev laidC (W : World) : Prop := laidMetH Tryd.prog Rows.cellNilRow.laid W
theorem laid_both {W : World} (h : laidC W) : laidMet Tryd.prog [("math/bits.deBruijn32tab", Rows.laid_math_bits_deBruijn32tab), ("math/bits.deBruijn64tab", Rows.laid_math_bits_deBruijn64tab), ("internal/strconv.uint64pow10", Rows.laid_internal_strconv_uint64pow10)] W ∧ handlesMet Tryd.prog [("errors.errorType", Rows.laid_errors_errorType)] W := h
theorem err_of_laid {W : World} (h : laidC W) : ErrT W := by
  obtain ⟨name, u, ty, e1, e2, e3, e4, e5⟩ := (laid_both h).2 _ (List.mem_singleton.2 rfl)
  have en : name = [101, 114, 114, 111, 114] := (Option.some.inj e1).symm
  subst en
  obtain rfl := Option.some.inj ((show (Tryd.prog.cutTypes.find? (·.1 == "internal/reflectlite.rtype")).map (·.2) = some 80 by kernel_rfl).symm.trans e2)
  have hm : ty ∈ (List.range Tryd.prog.types.size).filter fun t => Tryd.prog.rowNamed t [101, 114, 114, 111, 114] := List.mem_filter.2 ⟨List.mem_range.2 e3, e4⟩
  rw [show ((List.range Tryd.prog.types.size).filter fun t => Tryd.prog.rowNamed t [101, 114, 114, 111, 114]) = [58] by kernel_rfl] at hm
  obtain rfl := List.mem_singleton.1 hm
  have hh : typeHandle Tryd.prog 58 = .pointer (some ⟨4, 58, none⟩) := by kernel_rfl
  rw [hh] at e5
  simpa using World.var?_cell (show Tryd.prog.globalNamed "errors.errorType" = some 0 by kernel_rfl) e5 0
theorem tab_of_laid {W : World} (h' : laidC W) : Lib.TabIs Tryd.prog W "internal/strconv.uint64pow10" .u64 Lib.pow10Tab := by
  have h := (laid_both h').1
  obtain ⟨ps, ⟨g0, t0, cs0, f0, p0, q0, hg0, ht0, hv0, hd0, ⟨g1, t1, cs1, f1, p1, q1, hg1, ht1, hv1, hd1, ⟨g2, t2, cs2, f2, p2, q2, hg2, ht2, hv2, hd2, _, _⟩, _⟩, _⟩, _, _⟩ := h
  obtain rfl := Option.some.inj ((show Tryd.prog.globalNamed "internal/strconv.uint64pow10" = some 1 by kernel_rfl).symm.trans hg2)
  obtain rfl := Option.some.inj ((show (Tryd.prog.globals[1]?).map (·.type) = some 115 by kernel_rfl).symm.trans ht2)
  unfold Lib.TabIs
  rw [hv2, ← Lib.cells_of_tab Tryd.underlying115 Tryd.underlying107 (by kernel_rfl) (by kernel_rfl) (show DataW.trod _ Tryd.prog W 0 _ _ f2 115 cs2.toList = some (Lib.tabData .u64 Lib.pow10Tab, p2) from hd2)]
end Go.Proofs.YtkamcjejongmbaaDoor
