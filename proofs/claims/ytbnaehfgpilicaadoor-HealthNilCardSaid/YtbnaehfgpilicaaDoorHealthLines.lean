/- HealthLines: an event's line, and a kind's word, is what the reference says. -/
import Derived.Test.YtbnaehfgpilicaaDoorHealthOpens
namespace Go.Proofs.YtbnaehfgpilicaaDoor
open Go.RowKit

theorem line_any {w : World} (e : Ev) (hf : evFits e) (h1 : ItoaAt w e.t) (h2 : ItoaAt w e.p) (h3 : ItoaAt w e.c) (h4 : ItoaAt w e.n) :
    Calls Tryd.prog 10 #[.agg e.cells] w fun r w' => r = .returned (.string (lineB e)) ∧ Below w.heap.size w w' := by
  unfold lineB
  by_cases hk : okK e.k
  · rw [if_pos hk]; exact line_yes e hk hf h1 h2 h3 h4
  · rw [if_neg hk]; exact line_no e hk
theorem rline_any {w : World} (e : Ev) (hf : evFits e) :
    Calls Tryd.prog 11 #[.agg e.cells] w fun r w' => r = .returned (.string (lineB e)) ∧ Below w.heap.size w w' := by
  unfold lineB
  by_cases hk : okK e.k
  · rw [if_pos hk]; exact rline_yes e hk hf
  · rw [if_neg hk]; exact rline_no e hk
theorem EvAt.below {w w' : World} {B g o : Nat} {e : Ev} (h : EvAt w g o e) (hb : Below B w w') (hg : g < B) : EvAt w' g o e := h.keep (hb.block g hg)
set_option maxRecDepth 100000 in
set_option maxHeartbeats 3200000 in
theorem healthLines_law (e : Ev) (hf : evFits e) (w : World) (ht : Lib.TabIs Tryd.prog w "internal/strconv.uint64pow10" .u64 Lib.pow10Tab) :
    Calls Tryd.prog 3 #[.agg e.cells] w fun r w' => r = .returned (.bool true) ∧ Below w.heap.size w w' := by
  have HF := Lib.hid hf
  have HI : ∀ n : Int, -9223372036854775808 ≤ n ∧ n ≤ 9223372036854775807 → ItoaAt w n := fun n hn => itoa_tab w n hn.1 hn.2 ht
  have H1 := Lib.hid (HI e.t hf.1)
  have H2 := Lib.hid (HI e.p hf.2.1)
  have H3 := Lib.hid (HI e.c hf.2.2.1)
  have H4 := Lib.hid (HI e.n hf.2.2.2)
  unfold Ev.cells
  clear HI hf ht
  go_enter Tryd.func3, Tryd.ntmps3
  go_wp2_with fail
  refine (lives_any _).mono ?_
  rintro r w1 ⟨rfl, hb⟩
  have hx : EvAt w1 w.heap.size 0 e := by
    have h0 : EvAt (w.alloc (.cells #[.int .i64 e.k, .int .i64 e.t, .int .i64 e.p, .int .i64 e.c, .int .i64 e.n] 23)) w.heap.size 0 e := by
      refine ⟨?_, ?_, ?_, ?_, ?_⟩ <;> exact World.cell?_alloc_at _ _ _ _ rfl
    exact h0.keep (hb.block _ (by simp))
  have hB : Below w.heap.size w w1 := (below_alloc (Nat.le_refl _) _).trans (hb.mono (by simp))
  have hxl : w.heap.size < w1.heap.size := hx.lt
  have HB := Lib.hid hB
  have HL := Lib.hid (show ∀ w', Below w1.heap.size w1 w' → Calls Tryd.prog 10 #[.agg e.cells] w' fun r w'' => r = .returned (.string (lineB e)) ∧ Below w'.heap.size w' w'' from fun w' hb' => by
    have hw : Below w.heap.size w w' := hB.trans (hb'.mono hB.size)
    exact line_any e HF.out (H1.out.below hw) (H2.out.below hw) (H3.out.below hw) (H4.out.below hw))
  clear hb hB
  unfold Ev.cells at HL
  generalize hxe : w.heap.size = x at *
  have HXE := Lib.hid hxe
  clear hxe
  go_wp2_with fail
  refine wp_region_held_drew (S := fun w' => Below w1.heap.size w1 w' ∧ EvAt w' x 0 e) rfl ⟨(Below.refl _ _).drew, hx.keep rfl⟩ fun hS => ?_
  refine wpAnyH_take (i := 0) (v := .agg e.cells) rfl (by kernel_rfl) (by kernel_rfl) (by kernel_rfl) (fun _ _ _ h => h) (Or.inl ⟨by kernel_rfl, fun w' hS' => by obtain ⟨-, q0, q1, q2, q3, q4⟩ := hS'; unfold Ev.cells; go_simp⟩) hS ?_
  refine wpAnyH_take (i := 2) (v := .agg e.cells) rfl (by kernel_rfl) (by kernel_rfl) (by kernel_rfl) (fun _ _ _ h => h) (Or.inl ⟨by kernel_rfl, fun w' hS' => by obtain ⟨-, q0, q1, q2, q3, q4⟩ := hS'; unfold Ev.cells; go_simp⟩) hS ?_
  refine wpAnyH_ready (rs := [1]) (by kernel_rfl) (by simp) ?_
  refine AllReadyH.cons rfl (fun K hK => ?_) AllReadyH.nil
  unfold Ev.cells
  go_simp
  refine (HL.out _ hS.1).mono ?_
  rintro r w2 ⟨rfl, hb2⟩
  have hS2' : Below w1.heap.size w1 w2 ∧ EvAt w2 x 0 e := ⟨hS.1.trans (hb2.mono hS.1.size), hS.2.below hb2 (Nat.lt_of_lt_of_le hxl hS.1.size)⟩
  refine hK.out _ _ hS2' fun hS2 => ?_
  clear hK hb2
  refine wpAnyH_ready (rs := [3]) (by kernel_rfl) (by simp) ?_
  refine AllReadyH.cons rfl (fun K hK => ?_) AllReadyH.nil
  go_simp
  refine (rline_any e HF.out).mono ?_
  rintro r w3 ⟨rfl, hb3⟩
  have hS3' : Below w1.heap.size w1 w3 ∧ EvAt w3 x 0 e := ⟨hS2'.1.trans (hb3.mono hS2'.1.size), hS2'.2.below hb3 (Nat.lt_of_lt_of_le hxl hS2'.1.size)⟩
  refine hK.out _ _ hS3' fun hS3 => ?_
  clear hK hb3
  refine wpAnyH_take (i := 4) (v := .bool true) rfl (by kernel_rfl) (by kernel_rfl) (by kernel_rfl) (fun _ _ _ h => h) (Or.inl ⟨by kernel_rfl, fun w' _ => by go_simp⟩) hS3 ?_
  refine wpAnyH_take (i := 5) (v := .bool true) rfl (by kernel_rfl) (by kernel_rfl) (by kernel_rfl) (fun _ _ _ h => h) (Or.inl ⟨by kernel_rfl, fun w' _ => by kernel_rfl⟩) hS3 ?_
  refine wpAnyH_take (i := 6) (v := .pointer (some ⟨x, 0, none⟩)) rfl (by kernel_rfl) (by kernel_rfl) (by kernel_rfl) (fun _ _ _ h => h) (Or.inl ⟨by kernel_rfl, fun w' _ => by go_simp⟩) hS3 ?_
  refine wpAnyH_take (i := 7) (v := .int .i64 e.k) rfl (by kernel_rfl) (by kernel_rfl) (by kernel_rfl) (fun _ _ _ h => h) (Or.inl ⟨by kernel_rfl, fun w' hS' => by have q := hS'.2.k; go_simp⟩) hS3 ?_
  refine wpAnyH_take (i := 9) (v := .pointer (some ⟨x, 0, none⟩)) rfl (by kernel_rfl) (by kernel_rfl) (by kernel_rfl) (fun _ _ _ h => h) (Or.inl ⟨by kernel_rfl, fun w' _ => by go_simp⟩) hS3 ?_
  refine wpAnyH_take (i := 10) (v := .int .i64 e.k) rfl (by kernel_rfl) (by kernel_rfl) (by kernel_rfl) (fun _ _ _ h => h) (Or.inl ⟨by kernel_rfl, fun w' hS' => by have q := hS'.2.k; go_simp⟩) hS3 ?_
  refine wpAnyH_ready (rs := [8]) (by kernel_rfl) (by simp) ?_
  refine AllReadyH.cons rfl (fun K hK => ?_) AllReadyH.nil
  go_simp
  refine (word_any e.k _).mono ?_
  rintro r w4 ⟨rfl, rfl⟩
  refine hK.out _ _ hS3' fun hS4 => ?_
  clear hK
  refine wpAnyH_ready (rs := [11]) (by kernel_rfl) (by simp) ?_
  refine AllReadyH.cons rfl (fun K hK => ?_) AllReadyH.nil
  go_simp
  refine (rword_any e.k _).mono ?_
  rintro r w5 ⟨rfl, hb5⟩
  have hS5' : Below w1.heap.size w1 w5 ∧ EvAt w5 x 0 e := ⟨hS3'.1.trans (hb5.mono hS3'.1.size), hS3'.2.below hb5 (Nat.lt_of_lt_of_le hxl hS3'.1.size)⟩
  refine hK.out _ _ hS5' fun hS5 => ?_
  clear hK hb5
  refine wpAnyH_take (i := 12) (v := .bool true) rfl (by kernel_rfl) (by kernel_rfl) (by kernel_rfl) (fun _ _ _ h => h) (Or.inl ⟨by kernel_rfl, fun w' _ => by go_simp⟩) hS5 ?_
  refine wpAnyH_take (i := 13) (v := .bool true) rfl (by kernel_rfl) (by kernel_rfl) (by kernel_rfl) (fun _ _ _ h => h) (Or.inl ⟨by kernel_rfl, fun w' _ => by go_simp⟩) hS5 ?_
  refine wpAnyH_take (i := 14) (v := .bool true) rfl (by kernel_rfl) (by kernel_rfl) (by kernel_rfl) (fun _ _ _ h => h) (Or.inl ⟨by kernel_rfl, fun w' _ => by go_simp⟩) hS5 ?_
  refine wpAnyH_done (by kernel_rfl) ?_ _
  go_simp
  go_wp2
  go_ret
  exact ⟨rfl, by rw [HXE.out]; exact HB.out.trans (hS5'.1.mono (by rw [← HXE.out]; exact HB.out.size))⟩
theorem told_nil' (w : World) : Calls Tryd.prog 21 #[.pointer none] w fun e w' => e = .returned (.int .i64 0) ∧ w = w' := told_nil w
theorem all_nil (w : World) : Calls Tryd.prog 18 #[.pointer none] w fun e w' => e = .returned (.slice none 0 0) ∧ w = w' := by
  go_enter Tryd.func18, Tryd.ntmps18
  go_wp2_with (first
    | (go_at_call 21; refine (told_nil _).mono ?_; rintro e w' ⟨rfl, rfl⟩)
    | (go_at_call 22; refine (gone_nil _).mono ?_; rintro e w' ⟨rfl, rfl⟩))
  refine wp_loop_rounds 1 ?_
  rw [rounds_succ]
  go_wp2
  go_ret
  exact ⟨rfl, rfl⟩
theorem of_nil (p : Int) (w : World) : Calls Tryd.prog 23 #[.pointer none, .int .i64 p] w fun e w' => e = .returned (.slice none 0 0) ∧ w = w' := by
  go_enter Tryd.func23, Tryd.ntmps23
  go_wp2_with (first
    | (go_at_call 18; refine (all_nil _).mono ?_; rintro e w' ⟨rfl, rfl⟩))
  refine wp_loop_rounds 1 ?_
  rw [rounds_succ]
  go_wp2
  go_ret
  exact ⟨rfl, rfl⟩
end Go.Proofs.YtbnaehfgpilicaaDoor
