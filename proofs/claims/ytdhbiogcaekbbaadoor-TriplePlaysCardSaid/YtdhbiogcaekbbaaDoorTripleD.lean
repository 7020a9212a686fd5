/- The register of three slots: the read's words. -/
import Derived.Test.YtdhbiogcaekbbaaDoorTripleC
namespace Go.Proofs.YtdhbiogcaekbbaaDoor
open Go.RowKit

/-- What the two stores leave. -/
theorem read_fin {w' w2 wf : World} {b mb lb : Nat} {s : TS} {vi vo : Value} {c x : Int} {B g cap : Nat} (h : TAt w' b mb lb s vi vo c) (hB : Below w'.heap.size w' w2)
    (hown : w2.ownsRow B 3 1 (.slice (some ⟨g, 0, none⟩) (s.ol.length + 1) cap) (s.ol.length + 1) (nums s.ol ++ [.int .i64 x])) (hg : w'.heap.size ≤ g)
    (hb : Blk wf b 72 (regCells { s with ol := s.ol ++ [x] } mb vi (.slice (some ⟨g, 0, none⟩) (s.ol.length + 1) cap))) (ho : Only (fun k => k = b) w2 wf) :
    ∃ vo' : Value, IntsIn wf vo' (s.ol ++ [x]) ∧ Blk wf b 72 (regCells { s with ol := s.ol ++ [x] } mb vi vo') ∧ MemAt wf mb lb s.mem c ∧ IntsIn wf vi s.il ∧ (∀ g, vo'.ownBlock = some g → ¬ offS b mb lb s.x g) := by
  have hbl := h.r.lt
  have hml := h.m.m.lt
  have hll := h.m.d.lt
  have hne := h.ne
  have h2 := h.below hB
  refine ⟨_, ints_onl (IntsIn.of_own hown (by simp [nums])) ho ?_, hb, h2.m.onl ho (fun e => hne.1 e.symm) (fun e => hne.2 e.symm), ints_onl h2.il ho (fun k hk e => h.si k hk (.inl e)), ?_⟩
  · intro k hk e
    simp [Value.ownBlock] at hk
    omega
  · intro k hk e
    simp [Value.ownBlock] at hk
    have := h.lx
    unfold offS regS at e
    omega
set_option maxRecDepth 100000 in
set_option maxHeartbeats 1600000 in
theorem read_word {w : World} {b mb lb : Nat} {s : TS} {vi vo : Value} {c : Int} (h : TAt w b mb lb s vi vo c) (hk : s.ok) (hoa : s.oa = 3) (x : Int) (hx : s.mem[1 + s.oo * s.W + s.ol.length]? = some x) :
    Calls Tryd.prog 37 #[.pointer (some ⟨b, 0, none⟩)] w fun e w' =>
      e = .returned (.bool (decide (s.ol.length + 1 = s.W))) ∧ ∃ vo' : Value, IntsIn w' vo' (s.ol ++ [x]) ∧ Blk w' b 72 (regCells { s with ol := s.ol ++ [x] } mb vi vo') ∧ MemAt w' mb lb s.mem (wrap64 (c + 1)) ∧ IntsIn w' vi s.il ∧ (∀ g, vo'.ownBlock = some g → ¬ offS b mb lb s.x g) ∧ Only (regS b mb lb) w w' := by
  have hol := hk.ol hoa
  have hW := hk.w6
  have hol6 : s.ol.length ≤ 6 := by omega
  have hoo := hk.oo
  have hp : s.oo * s.W ≤ 2 * s.W := Nat.mul_le_mul hoo (Nat.le_refl _)
  have hlen := hk.len
  have hlt : 1 + s.oo * s.W + s.ol.length < s.mem.length := by omega
  have hxe : s.mem[1 + s.oo * s.W + s.ol.length] = x := by rw [List.getElem?_eq_getElem hlt] at hx; exact Option.some.inj hx
  have c0 := h.c0
  have c1 := h.c1
  have c6 := h.c6
  have c7 := h.c7
  have c8 := h.c8
  have c9 := h.c9
  rw [hoa, show ((3 : Nat) : Int) = 3 from rfl] at c6
  have HC := Lib.hid (show ∀ W', W'.heap = w.heap → Calls Tryd.prog 41 #[.pointer (some ⟨b, 0, none⟩), .pointer (some ⟨b, 6, none⟩)] W' fun e w' => e = .returned (.int .i64 ((1 + s.oo * s.W + s.ol.length : Nat) : Int)) ∧ ∃ q, w' = W'.drewN q from
    fun W' hW' => cell_any 6 s.W s.oo s.ol.length (cell_heap c0 hW') (cell_heap c7 hW') (cell_heap c9 hW') hW hoo (by omega))
  have HR := Lib.hid (show ∀ W', W'.heap = w.heap → Calls Tryd.prog 43 #[.pointer (some ⟨mb, 0, none⟩), .int .i64 ((1 + s.oo * s.W + s.ol.length : Nat) : Int)] W' fun e w' => e = .returned (.tuple #[.int .i64 x, .int .i64 0]) ∧ MemAt w' mb lb s.mem (wrap64 (c + 1)) ∧ Only (memS mb lb) W' w' from
    fun W' hW' => by
      have := read_ok (h.m.heap hW') (1 + s.oo * s.W + s.ol.length) hlt
      rw [hxe] at this
      exact this)
  have hnb := Lib.hid (show ¬ memS mb lb b from fun e => e.elim h.ne.1 h.ne.2)
  have HT := Lib.hid h
  clear h hk hoa hx hlt hxe hlen hp hol
  go_enter Tryd.func37, Tryd.ntmps37
  go_wp2_with fail
  go_region_held3 (fun w' => w'.cell? ⟨b, 0, none⟩ = some (.int .i64 s.W) ∧ w'.cell? ⟨b, 1, none⟩ = some (.pointer (some ⟨mb, 0, none⟩)) ∧ w'.cell? ⟨b, 7, none⟩ = some (.int .i64 s.oo) ∧ w'.cell? ⟨b, 9, none⟩ = some (.int .i64 s.ol.length)) (go_keep)
    (first
      | (go_at_call 41; refine (HC.out _ (by rfl)).mono ?_; rintro e w' ⟨rfl, q, rfl⟩)
      | (go_at_call 43; refine (HR.out _ (by rfl)).mono ?_; rintro e w' ⟨rfl, hM, hO⟩; have hO' := onl_heap (a := w) hO rfl rfl rfl rfl; have k0 := cell_onl c0 hO' hnb.out; have k1 := cell_onl c1 hO' hnb.out; have k7 := cell_onl c7 hO' hnb.out; have k9 := cell_onl c9 hO' hnb.out; have HM := Lib.hid hM; have HO := Lib.hid hO'; clear hM hO hO'))
  have HT2 := Lib.hid (show TAt w' b mb lb s vi vo (wrap64 (c + 1)) from HT.out.mem_ HM.out HO.out)
  have d0 := HT2.out.c0
  have d8 := HT2.out.c8
  have d9 := HT2.out.c9
  have f8 := HT2.out.r.fr 8
  have f9 := HT2.out.r.fr 9
  have hbs := World.block_lt_of_cell? _ _ d0
  clear c0 c1 c6 c7 c8 c9 k0 k1 k7 k9 HC HR hnb HT
  obtain ⟨A, rfl⟩ := HT2.out.ol.2
  obtain ⟨i0, hi, hz0, hz1, hz2⟩ := info_parts infoInt
  have hw9 : IntKind.i64.wrap ((s.ol.length : Int) + 1) = (s.ol.length : Int) + 1 := by rw [IntKind.wrap_i64]; omega
  have hnone : A = none → s.ol.length = 0 := by
    rintro rfl
    obtain ⟨A', c', e, _, hc⟩ := HT2.out.ol.1
    rcases Nat.eq_zero_or_pos s.ol.length with h0 | h0
    · exact h0
    · obtain ⟨g, o, e', _⟩ := hc h0
      rw [e'] at e
      cases e
  have hold : ∀ ad, A = some ad → ∀ j u, (nums s.ol)[j]? = some u → w'.cell? (ad.add j) = some u := by
    rintro ad rfl j u hj
    have hjl : j < s.ol.length := by have := (List.getElem?_eq_some_iff.1 hj).1; rwa [nums_len] at this
    obtain ⟨A', c', e, _, hc⟩ := HT2.out.ol.1
    obtain ⟨g, o, e', hcell⟩ := hc (by omega)
    rw [e'] at e
    have ea : ad = ⟨g, o, none⟩ := by injection e with e; injection e
    subst ea
    rw [nums_get _ j hjl] at hj
    have ha : (⟨g, o, none⟩ : Addr).add j = ⟨g, o + j, none⟩ := by unfold Addr.add; split <;> simp_all
    rw [ha, hcell j hjl, hj]
  have EB := Lib.hid (show ((s.ol.length : Int) + 1 == (s.W : Int)) = decide (s.ol.length + 1 = s.W) by rw [Bool.eq_iff_iff]; simp; omega)
  have HNONE := Lib.hid hnone
  have HOLD := Lib.hid hold
  clear hnone hold
  have ne8 := World.new_ne w' ⟨b, 8, none⟩ d8
  go_wp2_with fail
  go_region_law (refine step_append_grows rfl (.tmp 57) (.tmp 59) 38 rfl 3 i0 (.int .i64 0) 1 8 Tryd.underlying38 hi hz0 hz1 hz2 rfl (by decide) A s.ol.length s.ol.length (nums s.ol) (by simp [Act.eval, Act.put]) (fun e => ⟨HNONE.out e, HNONE.out e⟩) (by simp [nums]) (fun ad e j u hj => (World.cell?_alloc_lt w' _ _ (World.block_lt_of_cell? _ _ (HOLD.out ad e j u hj))).trans (HOLD.out ad e j u hj)) ⟨w'.heap.size, 0, none⟩ 1 1 [.int .i64 x] (by simp [Act.eval, Act.put]) rfl (one_new w' _ _) (by simp [Value.oneCell']) (by omega) (by simp [maxLen]; omega) (by omega) ?_; intro v' w2 hown hg; have qB := below_none (B := w'.heap.size) (a := w') (w := (w'.alloc (.cells #[.int .i64 x] 3)).drew) (below_alloc (Nat.le_refl _) _).drew hg (by simp); have q8 := (qB.cell (p := ⟨b, 8, none⟩) hbs).trans d8; have q9 := (qB.cell (p := ⟨b, 9, none⟩) hbs).trans d9; have qf8 := (qB.frozen (p := ⟨b, 8, none⟩) hbs).trans f8; have qf9 := (qB.frozen (p := ⟨b, 9, none⟩) hbs).trans f9; obtain ⟨g, cap, rfl, hg1, hg2, hnc, _, _⟩ := own_pos hown (by omega); have HOWN := Lib.hid hown; have HB := Lib.hid qB; clear hown hg qB)
  all_goals
    have q0 := (HB.out.cell (p := ⟨b, 0, none⟩) hbs).trans d0
    have FB8 : Blk ((w2.setCell ⟨b, 8, none⟩ (.slice (some ⟨g, 0, none⟩) (s.ol.length + 1) cap)).setCell ⟨b, 9, none⟩ (.int .i64 ((s.ol.length : Int) + 1))) b 72 (regCells { s with ol := s.ol ++ [x] } mb vi (.slice (some ⟨g, 0, none⟩) (s.ol.length + 1) cap)) := by
      have := ((HT2.out.r.below HB.out hbs).set 8 (.slice (some ⟨g, 0, none⟩) (s.ol.length + 1) cap)).set 9 (.int .i64 ((s.ol.length : Int) + 1))
      have e : regCells { s with ol := s.ol ++ [x] } mb vi (.slice (some ⟨g, 0, none⟩) (s.ol.length + 1) cap) = ((regCells s mb vi (.slice A s.ol.length s.ol.length)).setIfInBounds 8 (.slice (some ⟨g, 0, none⟩) (s.ol.length + 1) cap)).setIfInBounds 9 (.int .i64 ((s.ol.length : Int) + 1)) := by
        simp [regCells]
      rw [e]
      exact this
    have FB9 : Blk ((w2.setCell ⟨b, 9, none⟩ (.int .i64 ((s.ol.length : Int) + 1))).setCell ⟨b, 8, none⟩ (.slice (some ⟨g, 0, none⟩) (s.ol.length + 1) cap)) b 72 (regCells { s with ol := s.ol ++ [x] } mb vi (.slice (some ⟨g, 0, none⟩) (s.ol.length + 1) cap)) := by
      have := ((HT2.out.r.below HB.out hbs).set 9 (.int .i64 ((s.ol.length : Int) + 1))).set 8 (.slice (some ⟨g, 0, none⟩) (s.ol.length + 1) cap)
      have e : regCells { s with ol := s.ol ++ [x] } mb vi (.slice (some ⟨g, 0, none⟩) (s.ol.length + 1) cap) = ((regCells s mb vi (.slice A s.ol.length s.ol.length)).setIfInBounds 9 (.int .i64 ((s.ol.length : Int) + 1))).setIfInBounds 8 (.slice (some ⟨g, 0, none⟩) (s.ol.length + 1) cap) := by
        simp [regCells]
      rw [e]
      exact this
    have FO8 : Only (fun k => k = b) w2 ((w2.setCell ⟨b, 8, none⟩ (.slice (some ⟨g, 0, none⟩) (s.ol.length + 1) cap)).setCell ⟨b, 9, none⟩ (.int .i64 ((s.ol.length : Int) + 1))) := onl_set (S := fun k => k = b) (onl_set (S := fun k => k = b) (onl_refl _ w2) (p := ⟨b, 8, none⟩) (.inl rfl) _) (p := ⟨b, 9, none⟩) (.inl rfl) _
    have FO9 : Only (fun k => k = b) w2 ((w2.setCell ⟨b, 9, none⟩ (.int .i64 ((s.ol.length : Int) + 1))).setCell ⟨b, 8, none⟩ (.slice (some ⟨g, 0, none⟩) (s.ol.length + 1) cap)) := onl_set (S := fun k => k = b) (onl_set (S := fun k => k = b) (onl_refl _ w2) (p := ⟨b, 9, none⟩) (.inl rfl) _) (p := ⟨b, 8, none⟩) (.inl rfl) _
    have hgl : w'.heap.size ≤ g := by have := hg1; simp at this; omega
    have R8 := Lib.hid (read_fin HT2.out HB.out HOWN.out hgl FB8 FO8)
    have R9 := Lib.hid (read_fin HT2.out HB.out HOWN.out hgl FB9 FO9)
    have T8 := Lib.hid (onl_trans (onl_mono (T := regS b mb lb) HO.out fun k e => .inr e) (onl_trans (onl_below HB.out) (onl_mono (T := regS b mb lb) FO8 fun k e => .inl e)))
    have T9 := Lib.hid (onl_trans (onl_mono (T := regS b mb lb) HO.out fun k e => .inr e) (onl_trans (onl_below HB.out) (onl_mono (T := regS b mb lb) FO9 fun k e => .inl e)))
    clear FB8 FB9 FO8 FO9 hg1 hg2 hgl hnc HOWN HB HT2 HO HM HNONE HOLD
    go_wp2_with fail
    go_quiet (fail)
    go_wp2
    go_ret
    first
      | (obtain ⟨vo', r1, r2, r3, r4, r5⟩ := R8.out
         exact ⟨congrArg (fun x => Ending.returned (Value.bool x)) EB.out, vo', ints_heap r1 rfl, r2, r3.heap rfl, ints_heap r4 rfl, r5, ⟨T8.out.os, T8.out.tape, T8.out.output, T8.out.size, T8.out.block⟩⟩)
      | (obtain ⟨vo', r1, r2, r3, r4, r5⟩ := R9.out
         exact ⟨congrArg (fun x => Ending.returned (Value.bool x)) EB.out, vo', ints_heap r1 rfl, r2, r3.heap rfl, ints_heap r4 rfl, r5, ⟨T9.out.os, T9.out.tape, T9.out.output, T9.out.size, T9.out.block⟩⟩)
end Go.Proofs.YtdhbiogcaekbbaaDoor
