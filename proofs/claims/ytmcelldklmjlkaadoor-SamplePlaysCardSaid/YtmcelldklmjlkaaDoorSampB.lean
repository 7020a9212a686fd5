/- A sampling port: the port as the laws see it; New, Read, Drop, Left, Seq. -/
import Derived.Test.YtmcelldklmjlkaaDoorSampA
import Derived.Deep.CutBlock
import Derived.Deep.DeepCutAuto
namespace Go.Proofs.YtmcelldklmjlkaaDoor
open Go.RowKit

/-- The port's block. -/
def portC (p : SP) (kb b : Nat) : Array Value := #[.int .i64 p.n, .func (.func 29) #[] #[.pointer (some ⟨kb, 0, none⟩)], .int .i64 p.q, .pointer (some ⟨b, 0, none⟩)]
structure PCtx (W w : World) (pb kb b mb lb : Nat) (X : Nat → Prop) (p : SP) : Prop where
  c : Ctx W w b mb lb X p.s
  k : Blk w pb 81 (portC p kb b)
  f : W.cell? ⟨kb, 4, none⟩ = some (.int .i64 p.f)
  xp : X pb
  gp : W.heap.size ≤ pb
  ok : p.ok
/-- What the law owns beside the port stays. -/
def PKept (pb : Nat) (X : Nat → Prop) (w w' : World) : Prop := ∀ k, X k → k ≠ pb → w'.heap[k]? = w.heap[k]?
theorem pk_refl (pb : Nat) (X : Nat → Prop) (w : World) : PKept pb X w w := fun _ _ _ => rfl
theorem PKept.trans {pb : Nat} {X : Nat → Prop} {a b c : World} (h : PKept pb X a b) (k : PKept pb X b c) : PKept pb X a c := fun j e e' => (k j e e').trans (h j e e')
theorem PKept.of {pb : Nat} {X : Nat → Prop} {a b : World} (h : Kept X a b) : PKept pb X a b := fun j e _ => h j e
theorem PKept.set {pb : Nat} {X : Nat → Prop} {a b : World} (h : PKept pb X a b) (i : Nat) (u : Value) : PKept pb X a (b.setCell ⟨pb, i, none⟩ u) := fun j e e' => (Below.heap_setCell _ _ _ _ (by simpa using e')).trans (h j e e')
section
variable {W w w' : World} {pb kb b mb lb : Nat} {X : Nat → Prop} {p : SP}
theorem PCtx.k0 (h : PCtx W w pb kb b mb lb X p) : w.cell? ⟨pb, 0, none⟩ = some (.int .i64 p.n) := (h.k.cell 0).trans rfl
theorem PCtx.k1 (h : PCtx W w pb kb b mb lb X p) : w.cell? ⟨pb, 1, none⟩ = some (.func (.func 29) #[] #[.pointer (some ⟨kb, 0, none⟩)]) := (h.k.cell 1).trans rfl
theorem PCtx.k2 (h : PCtx W w pb kb b mb lb X p) : w.cell? ⟨pb, 2, none⟩ = some (.int .i64 p.q) := (h.k.cell 2).trans rfl
theorem PCtx.k3 (h : PCtx W w pb kb b mb lb X p) : w.cell? ⟨pb, 3, none⟩ = some (.pointer (some ⟨b, 0, none⟩)) := (h.k.cell 3).trans rfl
theorem PCtx.bel (h : PCtx W w pb kb b mb lb X p) : Below W.heap.size W w := h.c.bel
theorem PCtx.kf (h : PCtx W w pb kb b mb lb X p) : w.cell? ⟨kb, 4, none⟩ = some (.int .i64 p.f) := (h.c.bel.cell (World.block_lt_of_cell? _ _ h.f)).trans h.f
theorem PCtx.grow (h : PCtx W w pb kb b mb lb X p) (hb : Below w.heap.size w w') : PCtx W w' pb kb b mb lb (newX X w w') p :=
  ⟨h.c.grow hb, h.k.below hb h.k.lt, h.f, .inl h.xp, h.gp, h.ok⟩
theorem PCtx.below (h : PCtx W w pb kb b mb lb X p) (hb : Below w.heap.size w w') : PCtx W w' pb kb b mb lb X p :=
  ⟨h.c.below hb, h.k.below hb h.k.lt, h.f, h.xp, h.gp, h.ok⟩
theorem PCtx.drew (h : PCtx W w pb kb b mb lb X p) : PCtx W w.drew pb kb b mb lb X p := h.below (Below.refl _ w).drew
/-- The law writes to its own blocks. -/
theorem PCtx.onlX {S : Nat → Prop} (h : PCtx W w pb kb b mb lb X p) (hO : Only S w w') (h1 : ∀ k, S k → X k) (h2 : ∀ k, S k → W.heap.size ≤ k) (h3 : ¬ S pb) : PCtx W w' pb kb b mb lb X p :=
  ⟨h.c.onlX hO h1 h2, blk_onl h.k hO h3, h.f, h.xp, h.gp, h.ok⟩
/-- The register's own turn. -/
theorem PCtx.turn {s' : FS} (h : PCtx W w pb kb b mb lb X p) (hC : Ctx W w' b mb lb X s') (hK : Kept X w w') (hs : s'.W = p.s.W) : PCtx W w' pb kb b mb lb X { p with s := s' } ∧ PKept pb X w w' :=
  ⟨⟨hC, h.k.of (hK pb h.xp), h.f, h.xp, h.gp, ⟨h.ok.n1, h.ok.n4, hs.trans h.ok.W, h.ok.q0, h.ok.q1⟩⟩, PKept.of hK⟩
theorem PCtx.num (h : PCtx W w pb kb b mb lb X p) (q : Int) (h0 : 0 ≤ q) (h1 : q ≤ 2147483647) : PCtx W (w.setCell ⟨pb, 2, none⟩ (.int .i64 q)) pb kb b mb lb X { p with q := q } := by
  have hO : Only (fun k => k = pb) w (w.setCell ⟨pb, 2, none⟩ (.int .i64 q)) := onl_set (S := fun k => k = pb) (onl_refl _ w) (p := ⟨pb, 2, none⟩) (.inl rfl) _
  exact ⟨h.c.onlX hO (fun k e => by rw [e]; exact h.xp) (fun k e => by rw [e]; exact h.gp), h.k.set 2 _, h.f, h.xp, h.gp, ⟨h.ok.n1, h.ok.n4, h.ok.W, h0, h1⟩⟩
theorem register_any (h : PCtx W w pb kb b mb lb X p) : Calls Tryd.prog 35 #[.pointer (some ⟨pb, 0, none⟩)] w fun e w' => e = .returned (.pointer (some ⟨b, 0, none⟩)) ∧ w = w' := by
  have k3 := h.k3
  clear h
  go_enter Tryd.func35, Tryd.ntmps35
  go_wp2
  go_ret
  exact ⟨rfl, rfl⟩
theorem register_nil (w : World) : Calls Tryd.prog 35 #[.pointer none] w fun e w' => e = .returned (.pointer none) ∧ w = w' := by
  go_enter Tryd.func35, Tryd.ntmps35
  go_wp2
  go_ret
  exact ⟨rfl, rfl⟩
theorem sctx_seq (h : PCtx W w pb kb b mb lb X p) : Calls Tryd.prog 26 #[.pointer (some ⟨pb, 0, none⟩)] w fun e w' => e = .returned (.int .i64 p.q) ∧ w = w' := by
  have k2 := h.k2
  clear h
  go_enter Tryd.func26, Tryd.ntmps26
  go_wp2
  go_ret
  exact ⟨rfl, rfl⟩
theorem seq_nil (w : World) : Calls Tryd.prog 26 #[.pointer none] w fun e w' => e = .returned (.int .i64 0) ∧ w = w' := by
  go_enter Tryd.func26, Tryd.ntmps26
  go_wp2
  go_ret
  exact ⟨rfl, rfl⟩
theorem sctx_left (h : PCtx W w pb kb b mb lb X p) (x : Bool) : Calls Tryd.prog 27 #[.pointer (some ⟨pb, 0, none⟩), .bool x] w fun e w' => e = .returned (.int .i64 (p.s.left x)) ∧ w = w' := by
  have HR := Lib.hid (register_any h)
  have HL := Lib.hid (ctx_left h.c x)
  clear h
  go_enter Tryd.func27, Tryd.ntmps27
  go_wp2_with fail
  refine HR.out.mono ?_
  rintro e w' ⟨rfl, rfl⟩
  go_wp2_with fail
  refine HL.out.mono ?_
  rintro e w' ⟨rfl, rfl⟩
  go_wp2
  go_ret
  exact ⟨rfl, rfl⟩
theorem sleft_nil (x : Bool) (w : World) : Calls Tryd.prog 27 #[.pointer none, .bool x] w fun e w' => e = .returned (.int .i64 0) ∧ w = w' := by
  go_enter Tryd.func27, Tryd.ntmps27
  go_wp2_with fail
  refine (register_nil w).mono ?_
  rintro e w' ⟨rfl, rfl⟩
  go_wp2_with fail
  refine (left_nil x w).mono ?_
  rintro e w' ⟨rfl, rfl⟩
  go_wp2
  go_ret
  exact ⟨rfl, rfl⟩
theorem sctx_drop (h : PCtx W w pb kb b mb lb X p) (x : Bool) : Calls Tryd.prog 12 #[.pointer (some ⟨pb, 0, none⟩), .bool x] w fun e w' => e = .returned (.bool (decide (0 < p.s.left x))) ∧ PCtx W w' pb kb b mb lb X (p.drp x) ∧ PKept pb X w w' := by
  have HR := Lib.hid (register_any h)
  have HL := Lib.hid (ctx_drop h.c x)
  have HH := Lib.hid h
  clear h
  go_enter Tryd.func12, Tryd.ntmps12
  go_wp2_with fail
  refine HR.out.mono ?_
  rintro e w' ⟨rfl, rfl⟩
  go_wp2_with fail
  refine HL.out.mono ?_
  rintro e w' ⟨rfl, hC, hK⟩
  have HT := Lib.hid (HH.out.turn hC hK (drop_W p.s x))
  clear hC hK HL HR HH
  go_wp2
  go_ret
  exact ⟨by first | rfl | simp, HT.out⟩
theorem sdrop_nil (x : Bool) (w : World) : Calls Tryd.prog 12 #[.pointer none, .bool x] w fun e w' => e = .returned (.bool false) ∧ w = w' := by
  go_enter Tryd.func12, Tryd.ntmps12
  go_wp2_with fail
  refine (register_nil w).mono ?_
  rintro e w' ⟨rfl, rfl⟩
  go_wp2_with fail
  refine (drop_nil x w).mono ?_
  rintro e w' ⟨rfl, rfl⟩
  go_wp2
  go_ret
  exact ⟨rfl, rfl⟩
theorem sctx_read (h : PCtx W w pb kb b mb lb X p) : Calls Tryd.prog 13 #[.pointer (some ⟨pb, 0, none⟩)] w fun e w' => e = .returned (.int .i64 p.rd.2) ∧ PCtx W w' pb kb b mb lb X p.rd.1 ∧ PKept pb X w w' := by
  have HR := Lib.hid (register_any h)
  have HL := Lib.hid (ctx_rd h.c)
  have HH := Lib.hid h
  clear h
  go_enter Tryd.func13, Tryd.ntmps13
  go_wp2_with fail
  refine HR.out.mono ?_
  rintro e w' ⟨rfl, rfl⟩
  go_wp2_with fail
  refine HL.out.mono ?_
  rintro e w' ⟨rfl, hC, hK⟩
  have HT := Lib.hid (HH.out.turn hC hK (rd_W p.s))
  clear hC hK HL HR HH
  go_wp2
  go_ret
  exact ⟨rfl, HT.out⟩
theorem sread_nil (w : World) : Calls Tryd.prog 13 #[.pointer none] w fun e w' => e = .returned (.int .i64 1) ∧ Below w.heap.size w w' := by
  go_enter Tryd.func13, Tryd.ntmps13
  go_wp2_with fail
  refine (register_nil w).mono ?_
  rintro e w' ⟨rfl, rfl⟩
  go_wp2_with fail
  refine (read_nil w).mono ?_
  rintro e w' ⟨rfl, hb⟩
  go_wp2
  go_ret
  exact ⟨rfl, hb⟩
end
/-- A channel's cells: how many words, the refresh period. -/
def chanC (n f : Int) : Array Value := #[.int .i64 0, .int .i64 0, .int .i64 0, .int .i64 n, .int .i64 f, .int .i64 0, .int .i64 0, .int .i64 0, .int .i64 0, .int .i64 0, .int .i64 0]
set_option maxRecDepth 100000 in
theorem snew_any (w : World) (n f : Int) :
    Calls Tryd.prog 9 #[.agg (chanC n f)] w fun e w' => ∃ W pb kb b mb lb X, e = .returned (.pointer (some ⟨pb, 0, none⟩)) ∧ Below w.heap.size w W ∧ PCtx W w' pb kb b mb lb X (SP.new (pwords n) f) := by
  have hwb := pwords_bd n
  have hbz := below_alloc (w := w) (Nat.le_refl _) (.cells (chanC n f) 26)
  have hk := Blk.new w 26 (chanC n f)
  have HM := Lib.hid (show min (max n 1) 4 = ((pwords n : Nat) : Int) by unfold pwords; omega)
  have k3 : (w.alloc (.cells (chanC n f) 26)).cell? ⟨w.heap.size, 3, none⟩ = some (.int .i64 n) := (hk.cell 3).trans rfl
  have k4 : (w.alloc (.cells (chanC n f) 26)).cell? ⟨w.heap.size, 4, none⟩ = some (.int .i64 f) := (hk.cell 4).trans rfl
  have hkl := hk.lt
  generalize pwords n = m at *
  clear hk
  unfold chanC at k3 k4 hbz hkl ⊢
  go_enter Tryd.func9, Tryd.ntmps9
  go_upto_region 2 with (fail)
  go_cut [1, 3, 4] (fun x y z wx => x = .pointer (some ⟨w.heap.size, 0, none⟩) ∧ y = .int .i64 m ∧ z = .func (.func 29) #[] #[.pointer (some ⟨w.heap.size, 0, none⟩)] ∧ wx = w.alloc (.cells #[.int .i64 0, .int .i64 0, .int .i64 0, .int .i64 n, .int .i64 f, .int .i64 0, .int .i64 0, .int .i64 0, .int .i64 0, .int .i64 0, .int .i64 0] 26))
  case first =>
    rcases (show n < 1 ∨ (1 ≤ n ∧ n ≤ 4) ∨ 4 < n by omega) with h | ⟨h, h'⟩ | h
    · rw [show min (max n 1) 4 = 1 from by omega] at HM
      go_wp2_with fail
      go_meet
      exact ⟨rfl, by rw [HM.out], rfl, rfl⟩
    · rw [show min (max n 1) 4 = n from by omega] at HM
      go_wp2_with fail
      go_meet
      exact ⟨rfl, by rw [HM.out], rfl, rfl⟩
    · rw [show min (max n 1) 4 = 4 from by omega] at HM
      go_wp2_with fail
      go_meet
      exact ⟨rfl, by rw [HM.out], rfl, rfl⟩
  case rest =>
    obtain ⟨rfl, rfl, rfl, rfl⟩ := hcut
    clear HM k3
    generalize w.alloc (.cells #[.int .i64 0, .int .i64 0, .int .i64 0, .int .i64 n, .int .i64 f, .int .i64 0, .int .i64 0, .int .i64 0, .int .i64 0, .int .i64 0, .int .i64 0] 26) = wz at *
    have HN := Lib.hid (ctx_new (W := wz) (w := wz) ((m : Int) + 2) (Below.refl _ _))
    have w2 : wordsOf ((m : Int) + 2) = m + 2 := by unfold wordsOf; omega
    rw [w2] at HN
    have m1 := hwb.1
    have m4 := hwb.2
    have HB := Lib.hid hbz
    have HK := Lib.hid k4
    clear hbz k4 w2
    go_wp2_with fail
    refine HN.out.mono ?_
    rintro e w3 ⟨b, mb, lb, rfl, hB, hC⟩
    have HC := Lib.hid (And.intro hB hC)
    clear hB hC HN
    go_wp2
    go_ret
    have hpb := below_alloc (w := w3) (Nat.le_refl _) (.cells (portC (SP.new m f) w.heap.size b) 81)
    exact ⟨wz, w3.heap.size, w.heap.size, b, mb, lb, _, rfl, HB.out, ⟨HC.out.2.grow hpb, Blk.new w3 81 (portC (SP.new m f) w.heap.size b), HK.out, .inr ⟨Nat.le_refl _, by simp⟩, HC.out.1.size, sok_new m f m1 m4⟩⟩
end Go.Proofs.YtmcelldklmjlkaaDoor
