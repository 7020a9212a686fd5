/- HealthNil: a log that is not there has nothing. -/
import Derived.Test.YtbnaehfgpilicaaDoorHealthLines
namespace Go.Proofs.YtbnaehfgpilicaaDoor
open Go.RowKit

set_option maxRecDepth 100000 in
set_option maxHeartbeats 3200000 in
theorem healthNil_law (e : Ev) (w : World) :
    Calls Tryd.prog 8 #[.agg e.cells] w fun r w' => r = .returned (.bool true) ∧ Below w.heap.size w w' := by
  unfold Ev.cells
  go_enter Tryd.func8, Tryd.ntmps8
  go_wp2_with fail
  refine (lives_any _).mono ?_
  rintro r w1 ⟨rfl, hb⟩
  have hx : EvAt w1 w.heap.size 0 e := by
    have h0 : EvAt (w.alloc (.cells #[.int .i64 e.k, .int .i64 e.t, .int .i64 e.p, .int .i64 e.c, .int .i64 e.n] 23)) w.heap.size 0 e := by
      refine ⟨?_, ?_, ?_, ?_, ?_⟩ <;> exact World.cell?_alloc_at _ _ _ _ rfl
    exact h0.keep (hb.block _ (by simp))
  have hB : Below w.heap.size w w1 := (below_alloc (Nat.le_refl _) _).trans (hb.mono (by simp))
  have HX := Lib.hid hx
  have HB := Lib.hid hB
  clear hb hx hB
  go_wp2_with fail
  refine (last_none none w1 (fun _ h => by cases h)).mono ?_
  rintro r w2 ⟨rfl, hb2⟩
  have hl := HX.out.lt
  have hx2 : EvAt w2 w.heap.size 0 e := HX.out.below hb2 hl
  have HB2 := Lib.hid ((HB.out.trans (hb2.mono HB.out.size)).alloc (by have := hb2.size; have := HB.out.size; omega) (.cells #[.int .i64 0, .int .i64 0, .int .i64 0, .int .i64 0, .int .i64 0] 23))
  have hx3 : EvAt (w2.alloc (.cells #[.int .i64 0, .int .i64 0, .int .i64 0, .int .i64 0, .int .i64 0] 23)) w.heap.size 0 e := hx2.keep (Below.heap_alloc _ _ _ hx2.lt)
  have HX3 := Lib.hid hx3
  clear hx2 hx3 hb2
  unfold ev0 Ev.cells
  go_wp2_with fail
  obtain ⟨wc, hwc⟩ : ∃ wc, wc = (w2.alloc (.cells #[.int .i64 0, .int .i64 0, .int .i64 0, .int .i64 0, .int .i64 0] 23)) := ⟨_, rfl⟩
  rw [← hwc] at HX3 HB2 ⊢
  clear hwc
  have hxl := HX3.out.lt
  generalize hxe : w.heap.size = x at *
  have HXE := Lib.hid hxe
  clear hxe
  refine wp_region_held_drew (S := fun w' => Below wc.heap.size wc w' ∧ EvAt w' x 0 e) rfl ⟨(Below.refl _ _).drew, HX3.out.keep rfl⟩ fun hS => ?_
  refine wpAnyH_take (i := 0) (v := .pointer none) rfl (by kernel_rfl) (by kernel_rfl) (by kernel_rfl) (fun _ _ _ h => h) (Or.inl ⟨by kernel_rfl, fun w' _ => by kernel_rfl⟩) hS ?_
  refine wpAnyH_take (i := 1) (v := .agg e.cells) rfl (by kernel_rfl) (by kernel_rfl) (by kernel_rfl) (fun _ _ _ h => h) (Or.inl ⟨by kernel_rfl, fun w' hS' => by obtain ⟨-, q0, q1, q2, q3, q4⟩ := hS'; unfold Ev.cells; go_simp⟩) hS ?_
  refine wpAnyH_ready (rs := [2]) (by kernel_rfl) (by simp) ?_
  refine AllReadyH.cons rfl (fun K hK => ?_) AllReadyH.nil
  unfold Ev.cells
  go_simp
  refine (tell_no none e _ (.inl rfl)).mono ?_
  rintro r w4 ⟨rfl, hb4⟩
  have hS4' : Below wc.heap.size wc w4 ∧ EvAt w4 x 0 e := ⟨hS.1.trans (hb4.mono hS.1.size), hS.2.below hb4 (Nat.lt_of_lt_of_le hxl hS.1.size)⟩
  refine hK.out _ _ hS4' fun hS4 => ?_
  clear hK hb4
  refine wpAnyH_take (i := 3) (v := .bool true) rfl (by kernel_rfl) (by kernel_rfl) (by kernel_rfl) (fun _ _ _ h => h) (Or.inl ⟨by kernel_rfl, fun w' _ => by first | (go_simp; done) | kernel_rfl⟩) hS4 ?_
  refine wpAnyH_take (i := 4) (v := .bool true) rfl (by kernel_rfl) (by kernel_rfl) (by kernel_rfl) (fun _ _ _ h => h) (Or.inl ⟨by kernel_rfl, fun w' _ => by kernel_rfl⟩) hS4 ?_
  refine wpAnyH_take (i := 5) (v := .bool false) rfl (by kernel_rfl) (by kernel_rfl) (by kernel_rfl) (fun _ _ _ h => h) (Or.inl ⟨by kernel_rfl, fun w' _ => by kernel_rfl⟩) hS4 ?_
  refine wpAnyH_take (i := 6) (v := .bool true) rfl (by kernel_rfl) (by kernel_rfl) (by kernel_rfl) (fun _ _ _ h => h) (Or.inl ⟨by kernel_rfl, fun w' _ => by first | (go_simp; done) | kernel_rfl⟩) hS4 ?_
  refine wpAnyH_take (i := 7) (v := .bool true) rfl (by kernel_rfl) (by kernel_rfl) (by kernel_rfl) (fun _ _ _ h => h) (Or.inl ⟨by kernel_rfl, fun w' _ => by first | (go_simp; done) | kernel_rfl⟩) hS4 ?_
  refine wpAnyH_take (i := 8) (v := .bool true) rfl (by kernel_rfl) (by kernel_rfl) (by kernel_rfl) (fun _ _ _ h => h) (Or.inl ⟨by kernel_rfl, fun w' _ => by kernel_rfl⟩) hS4 ?_
  refine wpAnyH_take (i := 9) (v := .pointer none) rfl (by kernel_rfl) (by kernel_rfl) (by kernel_rfl) (fun _ _ _ h => h) (Or.inl ⟨by kernel_rfl, fun w' _ => by kernel_rfl⟩) hS4 ?_
  refine wpAnyH_take (i := 12) (v := .pointer none) rfl (by kernel_rfl) (by kernel_rfl) (by kernel_rfl) (fun _ _ _ h => h) (Or.inl ⟨by kernel_rfl, fun w' _ => by kernel_rfl⟩) hS4 ?_
  refine wpAnyH_take (i := 13) (v := .pointer (some ⟨x, 2, none⟩)) rfl (by kernel_rfl) (by kernel_rfl) (by kernel_rfl) (fun _ _ _ h => h) (Or.inl ⟨by kernel_rfl, fun w' _ => by first | (go_simp; done) | kernel_rfl⟩) hS4 ?_
  refine wpAnyH_take (i := 14) (v := .int .i64 e.p) rfl (by kernel_rfl) (by kernel_rfl) (by kernel_rfl) (fun _ _ _ h => h) (Or.inl ⟨by kernel_rfl, fun w' hS' => by have q := hS'.2.p; go_simp⟩) hS4 ?_
  refine wpAnyH_take (i := 18) (v := .pointer none) rfl (by kernel_rfl) (by kernel_rfl) (by kernel_rfl) (fun _ _ _ h => h) (Or.inl ⟨by kernel_rfl, fun w' _ => by kernel_rfl⟩) hS4 ?_
  refine wpAnyH_take (i := 19) (v := .pointer (some ⟨x, 0, none⟩)) rfl (by kernel_rfl) (by kernel_rfl) (by kernel_rfl) (fun _ _ _ h => h) (Or.inl ⟨by kernel_rfl, fun w' _ => by first | (go_simp; done) | kernel_rfl⟩) hS4 ?_
  refine wpAnyH_take (i := 20) (v := .int .i64 e.k) rfl (by kernel_rfl) (by kernel_rfl) (by kernel_rfl) (fun _ _ _ h => h) (Or.inl ⟨by kernel_rfl, fun w' hS' => by have q := hS'.2.k; go_simp⟩) hS4 ?_
  refine wpAnyH_take (i := 23) (v := .pointer none) rfl (by kernel_rfl) (by kernel_rfl) (by kernel_rfl) (fun _ _ _ h => h) (Or.inl ⟨by kernel_rfl, fun w' _ => by kernel_rfl⟩) hS4 ?_
  refine wpAnyH_take (i := 26) (v := .pointer none) rfl (by kernel_rfl) (by kernel_rfl) (by kernel_rfl) (fun _ _ _ h => h) (Or.inl ⟨by kernel_rfl, fun w' _ => by kernel_rfl⟩) hS4 ?_
  refine wpAnyH_ready (rs := [10]) (by kernel_rfl) (by simp) ?_
  refine AllReadyH.cons rfl (fun K hK => ?_) AllReadyH.nil
  go_simp
  refine (all_nil _).mono ?_
  rintro r w5 ⟨rfl, rfl⟩
  refine hK.out _ _ hS4' fun hS4 => ?_
  clear hK
  refine wpAnyH_take (i := 11) (v := .int .i64 0) rfl (by kernel_rfl) (by kernel_rfl) (by kernel_rfl) (fun _ _ _ h => h) (Or.inl ⟨by kernel_rfl, fun w' _ => by first | (go_simp; done) | kernel_rfl⟩) hS4 ?_
  refine wpAnyH_ready (rs := [15]) (by kernel_rfl) (by simp) ?_
  refine AllReadyH.cons rfl (fun K hK => ?_) AllReadyH.nil
  go_simp
  refine (of_nil _ _).mono ?_
  rintro r w5 ⟨rfl, rfl⟩
  refine hK.out _ _ hS4' fun hS4 => ?_
  clear hK
  refine wpAnyH_take (i := 16) (v := .int .i64 0) rfl (by kernel_rfl) (by kernel_rfl) (by kernel_rfl) (fun _ _ _ h => h) (Or.inl ⟨by kernel_rfl, fun w' _ => by first | (go_simp; done) | kernel_rfl⟩) hS4 ?_
  refine wpAnyH_take (i := 17) (v := .int .i64 0) rfl (by kernel_rfl) (by kernel_rfl) (by kernel_rfl) (fun _ _ _ h => h) (Or.inl ⟨by kernel_rfl, fun w' _ => by first | (go_simp; done) | kernel_rfl⟩) hS4 ?_
  refine wpAnyH_ready (rs := [21]) (by kernel_rfl) (by simp) ?_
  refine AllReadyH.cons rfl (fun K hK => ?_) AllReadyH.nil
  go_simp
  refine (count_nil _ _).mono ?_
  rintro r w5 ⟨rfl, rfl⟩
  refine hK.out _ _ hS4' fun hS4 => ?_
  clear hK
  refine wpAnyH_take (i := 22) (v := .int .i64 0) rfl (by kernel_rfl) (by kernel_rfl) (by kernel_rfl) (fun _ _ _ h => h) (Or.inl ⟨by kernel_rfl, fun w' _ => by first | (go_simp; done) | kernel_rfl⟩) hS4 ?_
  refine wpAnyH_ready (rs := [24]) (by kernel_rfl) (by simp) ?_
  refine AllReadyH.cons rfl (fun K hK => ?_) AllReadyH.nil
  go_simp
  refine (told_nil _).mono ?_
  rintro r w5 ⟨rfl, rfl⟩
  refine hK.out _ _ hS4' fun hS4 => ?_
  clear hK
  refine wpAnyH_take (i := 25) (v := .int .i64 0) rfl (by kernel_rfl) (by kernel_rfl) (by kernel_rfl) (fun _ _ _ h => h) (Or.inl ⟨by kernel_rfl, fun w' _ => by first | (go_simp; done) | kernel_rfl⟩) hS4 ?_
  refine wpAnyH_ready (rs := [27]) (by kernel_rfl) (by simp) ?_
  refine AllReadyH.cons rfl (fun K hK => ?_) AllReadyH.nil
  go_simp
  refine (gone_nil _).mono ?_
  rintro r w5 ⟨rfl, rfl⟩
  refine hK.out _ _ hS4' fun hS4 => ?_
  clear hK
  refine wpAnyH_take (i := 28) (v := .int .i64 0) rfl (by kernel_rfl) (by kernel_rfl) (by kernel_rfl) (fun _ _ _ h => h) (Or.inl ⟨by kernel_rfl, fun w' _ => by first | (go_simp; done) | kernel_rfl⟩) hS4 ?_
  refine wpAnyH_take (i := 29) (v := .bool true) rfl (by kernel_rfl) (by kernel_rfl) (by kernel_rfl) (fun _ _ _ h => h) (Or.inl ⟨by kernel_rfl, fun w' _ => by first | (go_simp; done) | kernel_rfl⟩) hS4 ?_
  refine wpAnyH_take (i := 30) (v := .bool true) rfl (by kernel_rfl) (by kernel_rfl) (by kernel_rfl) (fun _ _ _ h => h) (Or.inl ⟨by kernel_rfl, fun w' _ => by first | (go_simp; done) | kernel_rfl⟩) hS4 ?_
  refine wpAnyH_take (i := 31) (v := .bool true) rfl (by kernel_rfl) (by kernel_rfl) (by kernel_rfl) (fun _ _ _ h => h) (Or.inl ⟨by kernel_rfl, fun w' _ => by first | (go_simp; done) | kernel_rfl⟩) hS4 ?_
  refine wpAnyH_done (by kernel_rfl) ?_ _
  go_simp
  go_wp2
  go_ret
  exact ⟨rfl, by rw [HXE.out]; exact HB2.out.trans (hS4'.1.mono (by rw [← HXE.out]; exact HB2.out.size))⟩
end Go.Proofs.YtbnaehfgpilicaaDoor
