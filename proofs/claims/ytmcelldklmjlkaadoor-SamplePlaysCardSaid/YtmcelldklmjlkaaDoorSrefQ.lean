/- The port and the reference's port beside each other: what the law's walk leans on. -/
import Derived.Test.YtmcelldklmjlkaaDoorSrefP
import Derived.Test.YtmcelldklmjlkaaDoorSteps17
namespace Go.Proofs.YtmcelldklmjlkaaDoor
open Go.RowKit

theorem ctx_newX {W w : World} (n : Int) (h : Below W.heap.size W w) (z : Nat) (hz : z < w.heap.size) :
    Calls Tryd.prog 32 #[.int .i64 n] w fun e w' => ∃ b mb lb, e = .returned (.pointer (some ⟨b, 0, none⟩)) ∧ Below w.heap.size w w' ∧ Ctx W w' b mb lb (fun k => k = z) (FS.new (wordsOf n)) :=
  (fnew_any n w).mono fun e w' ⟨b, mb, lb, he, g1, g2, g3, hF0, hB⟩ => by
    have hs := h.size
    have hb := wordsOf_bd n
    have hF := hF0 W.heap.size
    have hs2 := hB.size
    refine ⟨b, mb, lb, he, hB, ⟨_, _, _, _, _, _, (⟨hF.r, hF.m, hF.il, hF.ol, fun g hg => by simp [Value.ownBlock] at hg, fun _ e => e.elim, fun k e => ⟨by omega, by unfold regS; omega⟩⟩ : FAt w' W.heap.size b mb lb (fun k => k = z) (fun _ => False) (FS.new (wordsOf n)) (.slice none 0 0) (.slice none 0 0) (.slice none 0 0) (.slice none 0 0) 0), .inl ⟨rfl, rfl⟩, .inl ⟨rfl, rfl⟩⟩, ok_new _ hb.1 hb.2, h.trans (hB.mono hs), Nat.le_trans hs g1, Nat.le_trans hs g2, Nat.le_trans hs g3⟩
set_option maxRecDepth 100000 in
theorem snew_z (w : World) (n f : Int) (z : Nat) (hz : z < w.heap.size) :
    Calls Tryd.prog 9 #[.agg (chanC n f)] w fun e w' => ∃ W pb kb b mb lb X, e = .returned (.pointer (some ⟨pb, 0, none⟩)) ∧ Below w.heap.size w W ∧ PCtx W w' pb kb b mb lb X (SP.new (pwords n) f) ∧ X z ∧ w.heap.size ≤ kb := by
  have hwb := pwords_bd n
  have hbz := below_alloc (w := w) (Nat.le_refl _) (.cells (chanC n f) 26)
  have hk := Blk.new w 26 (chanC n f)
  have HM := Lib.hid (show min (max n 1) 4 = ((pwords n : Nat) : Int) by unfold pwords; omega)
  have k3 : (w.alloc (.cells (chanC n f) 26)).cell? ⟨w.heap.size, 3, none⟩ = some (.int .i64 n) := (hk.cell 3).trans rfl
  have k4 : (w.alloc (.cells (chanC n f) 26)).cell? ⟨w.heap.size, 4, none⟩ = some (.int .i64 f) := (hk.cell 4).trans rfl
  have hkl := hk.lt
  generalize pwords n = m at *
  clear hk
  unfold chanC at k3 k4 hbz hkl ⊢
  go_enter Tryd.func9, Tryd.ntmps9
  go_upto_region 2 with (fail)
  go_cut [1, 3, 4] (fun x y z wx => x = .pointer (some ⟨w.heap.size, 0, none⟩) ∧ y = .int .i64 m ∧ z = .func (.func 29) #[] #[.pointer (some ⟨w.heap.size, 0, none⟩)] ∧ wx = w.alloc (.cells #[.int .i64 0, .int .i64 0, .int .i64 0, .int .i64 n, .int .i64 f, .int .i64 0, .int .i64 0, .int .i64 0, .int .i64 0, .int .i64 0, .int .i64 0] 26))
  case first =>
    rcases (show n < 1 ∨ (1 ≤ n ∧ n ≤ 4) ∨ 4 < n by omega) with h | ⟨h, h'⟩ | h
    · rw [show min (max n 1) 4 = 1 from by omega] at HM
      go_wp2_with fail
      go_meet
      exact ⟨rfl, by rw [HM.out], rfl, rfl⟩
    · rw [show min (max n 1) 4 = n from by omega] at HM
      go_wp2_with fail
      go_meet
      exact ⟨rfl, by rw [HM.out], rfl, rfl⟩
    · rw [show min (max n 1) 4 = 4 from by omega] at HM
      go_wp2_with fail
      go_meet
      exact ⟨rfl, by rw [HM.out], rfl, rfl⟩
  case rest =>
    obtain ⟨rfl, rfl, rfl, rfl⟩ := hcut
    clear HM k3
    generalize w.alloc (.cells #[.int .i64 0, .int .i64 0, .int .i64 0, .int .i64 n, .int .i64 f, .int .i64 0, .int .i64 0, .int .i64 0, .int .i64 0, .int .i64 0, .int .i64 0] 26) = wz at *
    have HN := Lib.hid (ctx_newX (W := wz) (w := wz) ((m : Int) + 2) (Below.refl _ _) z (Nat.lt_of_lt_of_le hz hbz.size))
    have w2 : wordsOf ((m : Int) + 2) = m + 2 := by unfold wordsOf; omega
    rw [w2] at HN
    have m1 := hwb.1
    have m4 := hwb.2
    have HB := Lib.hid hbz
    have HK := Lib.hid k4
    clear hbz k4 w2
    go_wp2_with fail
    refine HN.out.mono ?_
    rintro e w3 ⟨b, mb, lb, rfl, hB, hC⟩
    have HC := Lib.hid (And.intro hB hC)
    clear hB hC HN
    go_wp2
    go_ret
    have hpb := below_alloc (w := w3) (Nat.le_refl _) (.cells (portC (SP.new m f) w.heap.size b) 81)
    exact ⟨wz, w3.heap.size, w.heap.size, b, mb, lb, _, rfl, HB.out, ⟨HC.out.2.grow hpb, Blk.new w3 81 (portC (SP.new m f) w.heap.size b), HK.out, .inr ⟨Nat.le_refl _, by simp⟩, HC.out.1.size, sok_new m f m1 m4⟩, .inl rfl, Nat.le_refl _⟩
/-- As PTold.pat; all that is new stays the law's own. -/
theorem PTold.patG {W w5 w : World} {pb kb b mb lb x z' : Nat} {Y0 Y : Nat → Prop} {f f' : PF} {p p' p3 : SP} (h : PA W w5 pb kb b mb lb x Y0 f p p') (t : PTold w5 w pb x z' Y0 Y f' p3) : ∃ V, Below W.heap.size W V ∧ PCtx V (w.setRow x f'.cells) pb kb b mb lb (newX (lawY pb x Y0) w5 w) p := by
  obtain ⟨V, hV, hC⟩ := h.c
  have hO : Only (fun k => k = x) w (w.setRow x f'.cells) := ⟨rfl, rfl, rfl, by simp, fun k _ hn => setRow_other _ _ _ _ hn⟩
  have h1 := hC.grow t.bel
  have hxw := h.k.below t.bel h.k.lt
  by_cases hl : x < V.heap.size
  · exact ⟨_, below_setRow hV h.hx f'.cells, h1.rebase hxw (.inl (.inr (.inl rfl))) hl h.xk h.xp⟩
  · exact ⟨V, hV, h1.onlX hO (fun k e => .inl (.inr (.inl e))) (fun k e => by rw [e]; omega) (Ne.symm h.xp)⟩
theorem PA.incl {w5 w : World} {pb x : Nat} {Y0 Y : Nat → Prop} (hy : ∀ k, Y k → newX Y0 w5 w k) : ∀ k, lawY pb x Y k → newX (lawY pb x Y0) w5 w k := fun k e => by
  rcases e with e | e | e
  · exact .inl (.inl e)
  · exact .inl (.inr (.inl e))
  · exact (hy k e).imp (fun e => .inr (.inr e)) id
theorem PA.grow {W w w' : World} {pb kb b mb lb x : Nat} {Y : Nat → Prop} {f : PF} {p p' : SP} (h : PA W w pb kb b mb lb x Y f p p') (hb : Below w.heap.size w w') : PA W w' pb kb b mb lb x (newX Y w w') f p p' := by
  obtain ⟨V, hV, hC⟩ := h.c
  have hxl := h.k.lt
  have hpl := h.pbl
  exact ⟨⟨V, hV, (hC.grow hb).less (PA.incl fun _ e => e) (.inl rfl)⟩, h.ri.map fun _ _ k => (k.below hb).mono fun _ e => .inl e, h.k.below hb h.k.lt, fun e => e.elim h.nx fun e => by have := e.1; omega, fun e => e.elim h.np fun e => by have := e.1; omega, h.xp, h.xk, h.hx⟩
theorem val_len {p : SP} (hk : p.s.ok) (b : Bool) (now : Int) : (p.val b now).l.length ≤ 65536 := by
  unfold SP.val
  split
  · rename_i h
    have h1 := told_len hk (by have := h.1; rw [h.2] at this; exact this)
    have h2 := hk.w6
    rw [h.2]
    unfold valOf
    split
    · simp [SV.none]
    · simp only [List.length_drop]
      omega
  · simp [SV.none]
theorem ints_keepB {w w' : World} {u : Value} {l : List Int} (h : IntsIn w u l) (hk : ∀ g, u.ownBlock = some g → w'.heap[g]? = w.heap[g]?) : IntsIn w' u l := by
  obtain ⟨A, c, rfl, hl, hc⟩ := h
  refine ⟨A, c, rfl, hl, fun hp => ?_⟩
  obtain ⟨g, o, rfl, hcell⟩ := hc hp
  exact ⟨g, o, rfl, fun i hi => (World.cell?_of_block (a := ⟨g, o + i, none⟩) (hk g rfl)).trans (hcell i hi)⟩
theorem chinfo : (Tryd.prog.info? 26).map (·.size) = some 11 := by kernel_rfl
theorem chanC_ones (n f : Int) : (chanC n f).all (·.oneCell') = true := by simp [chanC, Value.oneCell']
theorem nseq (n : Int) : ∃ v : Int, wrap64 ((IntKind.u64.wrap n).tmod 4) = v ∧ 0 ≤ v ∧ v < 4 := by
  refine ⟨_, rfl, ?_⟩
  rw [IntKind.wrap_u64, Int.tmod_eq_emod_of_nonneg (by omega)]
  unfold wrap64
  omega
end Go.Proofs.YtmcelldklmjlkaaDoor
