/- A register of four slots: a word of a message is read. -/
import Derived.Test.YtmcelldklmjlkaaDoorFourB
import Derived.Deep.AppendLies
namespace Go.Proofs.YtmcelldklmjlkaaDoor
open Go.RowKit

theorem only_app {w W3 w2 : World} {row : Option Nat} (o : Obj) (hk : W3.heap = (w.alloc o).heap) (h1 : W3.os = w.os) (h2 : W3.tape = w.tape) (h3 : W3.output = w.output) (hg : W3.grownBy w2 row) : Only (fun k => row = some k) w w2 := by
  have hs : w.heap.size ≤ W3.heap.size := by rw [hk]; simp
  exact ⟨hg.os.trans h1, hg.tape.trans h2, hg.output.trans h3, Nat.le_trans hs hg.size, fun k hk' hn => (hg.block k (by omega) (fun e => hn e.symm)).trans (by rw [hk]; exact Below.heap_alloc w o k hk')⟩
theorem ol_fin {w w2 : World} {B b mb lb : Nat} {X Z : Nat → Prop} {s : FS} {vl vi vr vo : Value} {c : Int} (h : FAt w B b mb lb X Z s vl vi vr vo c) (hO : Only (fun k => vo.ownBlock = some k) w w2) (g cap : Nat) (x : Int)
    (hown : w2.ownsRow B 3 1 (.slice (some ⟨g, 0, none⟩) (s.ol.length + 1) cap) (s.ol.length + 1) (nums s.ol ++ [.int .i64 x])) (hat : vo.ownBlock = some g ∨ w.heap.size ≤ g) :
    FAt (w2.setCell ⟨b, 9, none⟩ (.slice (some ⟨g, 0, none⟩) (s.ol.length + 1) cap)) B b mb lb X Z { s with ol := s.ol ++ [x] } vl vi vr (.slice (some ⟨g, 0, none⟩) (s.ol.length + 1) cap) c ∧ Only (turnS b mb lb vo) w (w2.setCell ⟨b, 9, none⟩ (.slice (some ⟨g, 0, none⟩) (s.ol.length + 1) cap)) := by
  have hne := h.ne
  have hbl := h.r.lt
  have hml := h.m.m.lt
  have hll := h.m.d.lt
  have hgr : ¬ regS b mb lb g := by
    rcases hat with e | e
    · exact (h.so g e).1
    · unfold regS; omega
  have hO2 : Only (fun k => k = b) w2 (w2.setCell ⟨b, 9, none⟩ (.slice (some ⟨g, 0, none⟩) (s.ol.length + 1) cap)) := onl_set (S := fun k => k = b) (onl_refl _ w2) (p := ⟨b, 9, none⟩) (.inl rfl) _
  have hr := (blk_onl h.r hO (fun e => (h.so b e).1 (.inl rfl))).set 9 (.slice (some ⟨g, 0, none⟩) (s.ol.length + 1) cap)
  have hm := (h.m.onl hO (fun e => (h.so mb e).1 (.inr (.inl rfl))) (fun e => (h.so lb e).1 (.inr (.inr rfl)))).onl hO2 (fun e => hne.1 e.symm) (fun e => hne.2 e.symm)
  have hil := (h.il.keep fun k hk => hO.block k (h.z k hk).1 fun e => (h.so k e).2.1 hk).keep fun k hk => hO2.block k (Nat.lt_of_lt_of_le (h.z k hk).1 hO.size) fun e => (h.z k hk).2.1 (.inl e)
  have hol := own_onl hown hO2 (fun k hk e => by simp [Value.ownBlock] at hk; exact hgr (.inl (by omega)))
  have hsz := Nat.le_trans hO.size hO2.size
  refine ⟨⟨by simpa [regCells] using hr, hm, hil, by simpa [nums] using hol, fun k hk => ?_, fun k e => ⟨Nat.lt_of_lt_of_le (h.z k e).1 hsz, (h.z k e).2⟩, fun k e => ⟨Nat.lt_of_lt_of_le (h.x k e).1 hsz, (h.x k e).2⟩⟩, onl_trans (onl_mono hO fun k e => .inr e) (onl_mono hO2 fun k e => .inl (.inl e))⟩
  simp [Value.ownBlock] at hk
  subst hk
  rcases hat with e | e
  · exact h.so g e
  · exact ⟨hgr, fun f => by have := (h.z g f).1; omega, fun f => by have := (h.x g f).1; omega⟩
set_option maxRecDepth 100000 in
set_option maxHeartbeats 1600000 in
theorem acc_r3 {w : World} {B b mb lb : Nat} {X Z : Nat → Prop} {s : FS} {vl vi vr vo : Value} {c : Int} {xr xs : Nat} {xi : Nat → Nat} (h : FAt w B b mb lb X Z s vl vi vr vo c) (hb : Boxes w Z b 6 s.W xr xs xi) {i : Nat} (hi : i < s.W) (hW : s.W ≤ 6) (hp : s.op ≤ 1) (hq : s.oq ≤ 1) (hB : B ≤ w.heap.size) (hol : s.ol.length ≤ 6) {x : Int} (hx : s.mem[4 + (2 * s.op + s.oq) * s.W + i]? = some x) :
    Calls Tryd.prog 64 #[.pointer (some ⟨xs, 0, none⟩), .pointer (some ⟨xr, 0, none⟩), .pointer (some ⟨xi i, 0, none⟩)] w fun e w' => e = .returned (.tuple #[]) ∧ ∃ c' vo', FAt w' B b mb lb X Z { s with ol := s.ol ++ [x] } vl vi vr vo' c' ∧ Only (turnS b mb lb vo) w w' := by
  have hml : 4 + (2 * s.op + s.oq) * s.W + i < s.mem.length := (List.getElem?_eq_some_iff.1 hx).1
  have hxe : s.mem[4 + (2 * s.op + s.oq) * s.W + i] = x := (List.getElem?_eq_some_iff.1 hx).2
  obtain ⟨Av, cv, rfl⟩ := own_form h.ol
  have HA := Lib.hid (show ∀ W', W'.heap = w.heap → Calls Tryd.prog 56 #[.pointer (some ⟨b, 0, none⟩), .pointer (some ⟨b, 6, none⟩), .int .i64 i] W' fun e w' => e = .returned (.int .i64 ((4 + (2 * s.op + s.oq) * s.W + i : Nat) : Int)) ∧ ∃ n, w' = W'.drewN n from fun W' hk => at_any 6 s.W s.op s.oq i (h.heap hk).c0 (h.heap hk).c7 (h.heap hk).c8 hW hp hq (by omega))
  have HG := Lib.hid (show ∀ W', W'.heap = w.heap → Calls Tryd.prog 52 #[.pointer (some ⟨b, 0, none⟩), .int .i64 ((4 + (2 * s.op + s.oq) * s.W + i : Nat) : Int)] W' fun e w' => e = .returned (.int .i64 x) ∧ MemAt w' mb lb s.mem (wrap64 (c + 1)) ∧ Only (memS mb lb) W' w' from fun W' hk => by
    have := get_any (h.heap hk).m (h.heap hk).c1 (4 + (2 * s.op + s.oq) * s.W + i) hml
    rw [hxe] at this
    exact this)
  have k9 : w.drew.cell? ⟨b, 9, none⟩ = some (.slice Av s.ol.length cv) := h.c9
  have kb : w.cell? ⟨b, 9, none⟩ = some (.slice Av s.ol.length cv) := h.c9
  obtain ⟨i0, hi0, hz0, hz1, hz2⟩ := info_parts infoInt
  have HB := Lib.hid (show xr ≠ b ∧ xs ≠ b from ⟨fun e => (h.z _ hb.r.1).2.1 (.inl e), fun e => (h.z _ hb.s.1).2.1 (.inl e)⟩)
  have HH := Lib.hid h
  have HN := Lib.hid (show ¬ memS mb lb xr ∧ ¬ memS mb lb xs ∧ ¬ memS mb lb b ∧ ¬ memS mb lb (xi i) from ⟨fun e => (h.z _ hb.r.1).2.1 (.inr e), fun e => (h.z _ hb.s.1).2.1 (.inr e), fun e => e.elim h.ne.1 h.ne.2, fun e => (h.z _ (hb.i i hi).1).2.1 (.inr e)⟩)
  have s0 : w.drew.cell? ⟨xs, 0, none⟩ = some (.pointer (some ⟨b, 6, none⟩)) := hb.s.cell
  have s1 : w.drew.cell? ⟨xr, 0, none⟩ = some (.pointer (some ⟨b, 0, none⟩)) := hb.r.cell
  have s2 : w.drew.cell? ⟨xi i, 0, none⟩ = some (.int .i64 (i : Int)) := (hb.i i hi).cell
  have HB3 := Lib.hid (show xi i ≠ b from fun e => (h.z _ (hb.i i hi).1).2.1 (.inl e))
  have HZ0 := Lib.hid (show ¬ ((Value.slice Av s.ol.length cv).ownBlock = some xs) ∧ ¬ ((Value.slice Av s.ol.length cv).ownBlock = some xr) ∧ ¬ ((Value.slice Av s.ol.length cv).ownBlock = some (xi i)) from ⟨fun e => (h.so _ e).2.1 hb.s.1, fun e => (h.so _ e).2.1 hb.r.1, fun e => (h.so _ e).2.1 (hb.i i hi).1⟩)
  clear h hb hp hq hxe hml hx hi hW
  generalize 4 + (2 * s.op + s.oq) * s.W + i = z at *
  go_enter Tryd.func64, Tryd.ntmps64
  go_wp2_with fail
  refine wp_region_held_drew (S := (fun w' => w'.cell? ⟨xs, 0, none⟩ = some (.pointer (some ⟨b, 6, none⟩)) ∧ w'.cell? ⟨xr, 0, none⟩ = some (.pointer (some ⟨b, 0, none⟩)) ∧ w'.cell? ⟨xi i, 0, none⟩ = some (.int .i64 (i : Int)))) rfl ⟨s0, s1, s2⟩ fun hS => ?_
  refine wpAnyH_take (i := 0) (v := .pointer (some ⟨b, 6, none⟩)) rfl (by kernel_rfl) (by kernel_rfl) (by kernel_rfl) (fun _ _ _ h => h) (Or.inl ⟨by kernel_rfl, fun w' hS' => by have q := hS'.1; go_simp⟩) hS ?_
  refine wpAnyH_take (i := 1) (v := .pointer (some ⟨b, 6, none⟩)) rfl (by kernel_rfl) (by kernel_rfl) (by kernel_rfl) (fun _ _ _ h => h) (Or.inl ⟨by kernel_rfl, fun w' hS' => by have q := hS'.1; go_simp⟩) hS ?_
  refine wpAnyH_take (i := 2) (v := .pointer (some ⟨b, 6, none⟩)) rfl (by kernel_rfl) (by kernel_rfl) (by kernel_rfl) (fun _ _ _ h => h) (Or.inl ⟨by kernel_rfl, fun w' _ => by kernel_rfl⟩) hS ?_
  refine wpAnyH_take (i := 3) (v := .pointer (some ⟨b, 9, none⟩)) rfl (by kernel_rfl) (by kernel_rfl) (by kernel_rfl) (fun _ _ _ h => h) (Or.inl ⟨by kernel_rfl, fun w' _ => by kernel_rfl⟩) hS ?_
  refine wpAnyH_take (i := 5) (v := .pointer (some ⟨b, 0, none⟩)) rfl (by kernel_rfl) (by kernel_rfl) (by kernel_rfl) (fun _ _ _ h => h) (Or.inl ⟨by kernel_rfl, fun w' hS' => by have q := hS'.2.1; go_simp⟩) hS ?_
  refine wpAnyH_take (i := 6) (v := .pointer (some ⟨b, 0, none⟩)) rfl (by kernel_rfl) (by kernel_rfl) (by kernel_rfl) (fun _ _ _ h => h) (Or.inl ⟨by kernel_rfl, fun w' hS' => by have q := hS'.2.1; go_simp⟩) hS ?_
  refine wpAnyH_take (i := 7) (v := .pointer (some ⟨b, 6, none⟩)) rfl (by kernel_rfl) (by kernel_rfl) (by kernel_rfl) (fun _ _ _ h => h) (Or.inl ⟨by kernel_rfl, fun w' hS' => by have q := hS'.1; go_simp⟩) hS ?_
  refine wpAnyH_take (i := 8) (v := .int .i64 (i : Int)) rfl (by kernel_rfl) (by kernel_rfl) (by kernel_rfl) (fun _ _ _ h => h) (Or.inl ⟨by kernel_rfl, fun w' hS' => by have q := hS'.2.2; go_simp⟩) hS ?_
  refine wpAnyH_ready (rs := [4, 9]) (by kernel_rfl) (by simp) ?_
  refine AllReadyH.cons rfl (fun K hK => ?_) (AllReadyH.cons rfl (fun K hK => ?_) AllReadyH.nil)
  · go_simp
    refine hK.out _ _ hS fun hS' => ?_
    clear hK
    refine wpAnyH_ready (rs := [9]) (by kernel_rfl) (by simp) ?_
    refine AllReadyH.cons rfl (fun K hK => ?_) AllReadyH.nil
    go_simp
    refine (HA.out _ (by rfl)).mono ?_
    rintro e wa ⟨rfl, n, rfl⟩
    refine hK.out _ _ hS' fun hS1 => ?_
    clear hK
    refine wpAnyH_ready (rs := [10]) (by kernel_rfl) (by simp) ?_
    refine AllReadyH.cons rfl (fun K hK => ?_) AllReadyH.nil
    go_simp
    refine (HG.out _ (by rfl)).mono ?_
    rintro e wg ⟨rfl, hM, hO0⟩
    have hO : Only (memS mb lb) w wg := onl_heap (a := w) hO0 rfl rfl rfl rfl
    clear hO0
    have hS2' : _ ∧ _ ∧ _ := ⟨cell_onl (g := xs) (i := 0) (show w.cell? _ = _ from s0) hO HN.out.2.1, cell_onl (g := xr) (i := 0) (show w.cell? _ = _ from s1) hO HN.out.1, cell_onl (g := xi i) (i := 0) (show w.cell? _ = _ from s2) hO HN.out.2.2.2⟩
    refine hK.out _ _ hS2' fun hS2 => ?_
    clear hK
    have HF := Lib.hid (HH.out.mem_ hM hO)
    have HO := Lib.hid hO
    have k92 : wg.cell? ⟨b, 9, none⟩ = some (.slice Av s.ol.length cv) := HF.out.c9
    clear hM hO
    refine wpAnyH_ready (rs := [11]) (by kernel_rfl) (by simp) ?_
    refine AllReadyH.cons rfl (fun K hK => ?_) AllReadyH.nil
    go_simp
    have hS3' : _ ∧ _ ∧ _ := ⟨(World.cell?_alloc_some wg ⟨xs, 0, none⟩ (.cells #[.int .i64 x] 3) (by rw [hS2'.1]; rfl)).trans hS2'.1, (World.cell?_alloc_some wg ⟨xr, 0, none⟩ (.cells #[.int .i64 x] 3) (by rw [hS2'.2.1]; rfl)).trans hS2'.2.1, (World.cell?_alloc_some wg ⟨xi i, 0, none⟩ (.cells #[.int .i64 x] 3) (by rw [hS2'.2.2]; rfl)).trans hS2'.2.2⟩
    refine hK.out _ _ hS3' fun hS3 => ?_
    clear hK
    have k93 : (wg.alloc (.cells #[.int .i64 x] 3)).cell? ⟨b, 9, none⟩ = some (.slice Av s.ol.length cv) := (World.cell?_alloc_some _ _ _ (by rw [k92]; rfl)).trans k92
    refine wpAnyH_ready (rs := [12]) (by kernel_rfl) (by simp) ?_
    refine AllReadyH.cons rfl (fun K hK => ?_) AllReadyH.nil
    refine step_append_lies _ rfl _ _ 29 rfl B 3 i0 (.int .i64 0) 1 8 Tryd.underlying29 hi0 hz0 hz1 hz2 rfl (by decide) (.slice Av s.ol.length cv) s.ol.length (nums s.ol) (by kernel_rfl) (HF.out.ol.alloc (.cells #[.int .i64 x] 3)) ⟨wg.heap.size, 0, none⟩ 1 1 [.int .i64 x] (by kernel_rfl) rfl (one_new wg _ _) (by simp [Value.oneCell']) (by omega) (by simp [maxLen]; omega) (by omega) (by have := HO.out.size; simp; omega) _ rfl ?_
    intro g cap w3 hown hg hat hlt
    have hOA := only_app (w := wg) (.cells #[.int .i64 x] 3) (by rfl) (by rfl) (by rfl) (by rfl) hg
    have HFF := Lib.hid (ol_fin HF.out hOA g cap x hown (hat.imp id (fun e => by rw [e]; simp)))
    have t0 : w3.cell? ⟨xs, 0, none⟩ = _ := cell_onl hS2'.1 hOA (HZ0.out.1)
    have t1 : w3.cell? ⟨xr, 0, none⟩ = _ := cell_onl hS2'.2.1 hOA (HZ0.out.2.1)
    have t2 : w3.cell? ⟨xi i, 0, none⟩ = _ := cell_onl hS2'.2.2 hOA (HZ0.out.2.2)
    have q9 := cell_onl HF.out.c9 hOA (fun e => (HF.out.so b e).1 (.inl rfl))
    have qf := (World.frozen?_of_block (a := ⟨b, 9, none⟩) (hOA.block b HF.out.r.lt (fun e => (HF.out.so b e).1 (.inl rfl)))).trans (HF.out.r.fr 9)
    refine hK.out _ _ ⟨t0, t1, t2⟩ fun hS4 => ?_
    clear hK hown hg hat hlt hOA
    refine wpAnyH_take (i := 13) (v := .pointer (some ⟨b, 6, none⟩)) rfl (by kernel_rfl) (by kernel_rfl) (by kernel_rfl) (fun _ _ _ h => h) (Or.inl ⟨by kernel_rfl, fun w' _ => by kernel_rfl⟩) hS4 ?_
    refine wpAnyH_take (i := 14) (v := .pointer (some ⟨b, 9, none⟩)) rfl (by kernel_rfl) (by kernel_rfl) (by kernel_rfl) (fun _ _ _ h => h) (Or.inl ⟨by kernel_rfl, fun w' _ => by kernel_rfl⟩) hS4 ?_
    refine wpAnyH_ready (rs := [15]) (by kernel_rfl) (by simp) ?_
    refine AllReadyH.cons rfl (fun K hK => ?_) AllReadyH.nil
    go_simp
    refine hK.out _ _ ⟨(cell_far (Ne.symm HB.out.2)).trans t0, (cell_far (Ne.symm HB.out.1)).trans t1, (cell_far (Ne.symm HB3.out)).trans t2⟩ fun hS5 => ?_
    clear hK
    refine wpAnyH_done (by kernel_rfl) ?_ _
    go_simp
    go_wp2
    go_end0
    exact ⟨rfl, ⟨_, _, HFF.out.1⟩, onl_trans (onl_mono HO.out fun k e => .inl (.inr e)) HFF.out.2⟩
  · go_simp
    refine (HA.out _ (by rfl)).mono ?_
    rintro e wa ⟨rfl, n, rfl⟩
    refine hK.out _ _ hS fun hS1 => ?_
    clear hK
    refine wpAnyH_ready (rs := [4, 10]) (by kernel_rfl) (by simp) ?_
    refine AllReadyH.cons rfl (fun K hK => ?_) (AllReadyH.cons rfl (fun K hK => ?_) AllReadyH.nil)
    · go_simp
      refine hK.out _ _ hS1 fun hS' => ?_
      clear hK
      refine wpAnyH_ready (rs := [10]) (by kernel_rfl) (by simp) ?_
      refine AllReadyH.cons rfl (fun K hK => ?_) AllReadyH.nil
      go_simp
      refine (HG.out _ (by rfl)).mono ?_
      rintro e wg ⟨rfl, hM, hO0⟩
      have hO : Only (memS mb lb) w wg := onl_heap (a := w) hO0 rfl rfl rfl rfl
      clear hO0
      have hS2' : _ ∧ _ ∧ _ := ⟨cell_onl (g := xs) (i := 0) (show w.cell? _ = _ from s0) hO HN.out.2.1, cell_onl (g := xr) (i := 0) (show w.cell? _ = _ from s1) hO HN.out.1, cell_onl (g := xi i) (i := 0) (show w.cell? _ = _ from s2) hO HN.out.2.2.2⟩
      refine hK.out _ _ hS2' fun hS2 => ?_
      clear hK
      have HF := Lib.hid (HH.out.mem_ hM hO)
      have HO := Lib.hid hO
      have k92 : wg.cell? ⟨b, 9, none⟩ = some (.slice Av s.ol.length cv) := HF.out.c9
      clear hM hO
      refine wpAnyH_ready (rs := [11]) (by kernel_rfl) (by simp) ?_
      refine AllReadyH.cons rfl (fun K hK => ?_) AllReadyH.nil
      go_simp
      have hS3' : _ ∧ _ ∧ _ := ⟨(World.cell?_alloc_some wg ⟨xs, 0, none⟩ (.cells #[.int .i64 x] 3) (by rw [hS2'.1]; rfl)).trans hS2'.1, (World.cell?_alloc_some wg ⟨xr, 0, none⟩ (.cells #[.int .i64 x] 3) (by rw [hS2'.2.1]; rfl)).trans hS2'.2.1, (World.cell?_alloc_some wg ⟨xi i, 0, none⟩ (.cells #[.int .i64 x] 3) (by rw [hS2'.2.2]; rfl)).trans hS2'.2.2⟩
      refine hK.out _ _ hS3' fun hS3 => ?_
      clear hK
      have k93 : (wg.alloc (.cells #[.int .i64 x] 3)).cell? ⟨b, 9, none⟩ = some (.slice Av s.ol.length cv) := (World.cell?_alloc_some _ _ _ (by rw [k92]; rfl)).trans k92
      refine wpAnyH_ready (rs := [12]) (by kernel_rfl) (by simp) ?_
      refine AllReadyH.cons rfl (fun K hK => ?_) AllReadyH.nil
      refine step_append_lies _ rfl _ _ 29 rfl B 3 i0 (.int .i64 0) 1 8 Tryd.underlying29 hi0 hz0 hz1 hz2 rfl (by decide) (.slice Av s.ol.length cv) s.ol.length (nums s.ol) (by kernel_rfl) (HF.out.ol.alloc (.cells #[.int .i64 x] 3)) ⟨wg.heap.size, 0, none⟩ 1 1 [.int .i64 x] (by kernel_rfl) rfl (one_new wg _ _) (by simp [Value.oneCell']) (by omega) (by simp [maxLen]; omega) (by omega) (by have := HO.out.size; simp; omega) _ rfl ?_
      intro g cap w3 hown hg hat hlt
      have hOA := only_app (w := wg) (.cells #[.int .i64 x] 3) (by rfl) (by rfl) (by rfl) (by rfl) hg
      have HFF := Lib.hid (ol_fin HF.out hOA g cap x hown (hat.imp id (fun e => by rw [e]; simp)))
      have t0 : w3.cell? ⟨xs, 0, none⟩ = _ := cell_onl hS2'.1 hOA (HZ0.out.1)
      have t1 : w3.cell? ⟨xr, 0, none⟩ = _ := cell_onl hS2'.2.1 hOA (HZ0.out.2.1)
      have t2 : w3.cell? ⟨xi i, 0, none⟩ = _ := cell_onl hS2'.2.2 hOA (HZ0.out.2.2)
      have q9 := cell_onl HF.out.c9 hOA (fun e => (HF.out.so b e).1 (.inl rfl))
      have qf := (World.frozen?_of_block (a := ⟨b, 9, none⟩) (hOA.block b HF.out.r.lt (fun e => (HF.out.so b e).1 (.inl rfl)))).trans (HF.out.r.fr 9)
      refine hK.out _ _ ⟨t0, t1, t2⟩ fun hS4 => ?_
      clear hK hown hg hat hlt hOA
      refine wpAnyH_take (i := 13) (v := .pointer (some ⟨b, 6, none⟩)) rfl (by kernel_rfl) (by kernel_rfl) (by kernel_rfl) (fun _ _ _ h => h) (Or.inl ⟨by kernel_rfl, fun w' _ => by kernel_rfl⟩) hS4 ?_
      refine wpAnyH_take (i := 14) (v := .pointer (some ⟨b, 9, none⟩)) rfl (by kernel_rfl) (by kernel_rfl) (by kernel_rfl) (fun _ _ _ h => h) (Or.inl ⟨by kernel_rfl, fun w' _ => by kernel_rfl⟩) hS4 ?_
      refine wpAnyH_ready (rs := [15]) (by kernel_rfl) (by simp) ?_
      refine AllReadyH.cons rfl (fun K hK => ?_) AllReadyH.nil
      go_simp
      refine hK.out _ _ ⟨(cell_far (Ne.symm HB.out.2)).trans t0, (cell_far (Ne.symm HB.out.1)).trans t1, (cell_far (Ne.symm HB3.out)).trans t2⟩ fun hS5 => ?_
      clear hK
      refine wpAnyH_done (by kernel_rfl) ?_ _
      go_simp
      go_wp2
      go_end0
      exact ⟨rfl, ⟨_, _, HFF.out.1⟩, onl_trans (onl_mono HO.out fun k e => .inl (.inr e)) HFF.out.2⟩
    · go_simp
      refine (HG.out _ (by rfl)).mono ?_
      rintro e wg ⟨rfl, hM, hO0⟩
      have hO : Only (memS mb lb) w wg := onl_heap (a := w) hO0 rfl rfl rfl rfl
      clear hO0
      have hS2' : _ ∧ _ ∧ _ := ⟨cell_onl (g := xs) (i := 0) (show w.cell? _ = _ from s0) hO HN.out.2.1, cell_onl (g := xr) (i := 0) (show w.cell? _ = _ from s1) hO HN.out.1, cell_onl (g := xi i) (i := 0) (show w.cell? _ = _ from s2) hO HN.out.2.2.2⟩
      refine hK.out _ _ hS2' fun hS2 => ?_
      clear hK
      have HF := Lib.hid (HH.out.mem_ hM hO)
      have HO := Lib.hid hO
      have k92 : wg.cell? ⟨b, 9, none⟩ = some (.slice Av s.ol.length cv) := HF.out.c9
      clear hM hO
      refine wpAnyH_ready (rs := [4, 11]) (by kernel_rfl) (by simp) ?_
      refine AllReadyH.cons rfl (fun K hK => ?_) (AllReadyH.cons rfl (fun K hK => ?_) AllReadyH.nil)
      · go_simp
        refine hK.out _ _ hS2 fun hS' => ?_
        clear hK
        refine wpAnyH_ready (rs := [11]) (by kernel_rfl) (by simp) ?_
        refine AllReadyH.cons rfl (fun K hK => ?_) AllReadyH.nil
        go_simp
        have hS3' : _ ∧ _ ∧ _ := ⟨(World.cell?_alloc_some wg ⟨xs, 0, none⟩ (.cells #[.int .i64 x] 3) (by rw [hS2'.1]; rfl)).trans hS2'.1, (World.cell?_alloc_some wg ⟨xr, 0, none⟩ (.cells #[.int .i64 x] 3) (by rw [hS2'.2.1]; rfl)).trans hS2'.2.1, (World.cell?_alloc_some wg ⟨xi i, 0, none⟩ (.cells #[.int .i64 x] 3) (by rw [hS2'.2.2]; rfl)).trans hS2'.2.2⟩
        refine hK.out _ _ hS3' fun hS3 => ?_
        clear hK
        have k93 : (wg.alloc (.cells #[.int .i64 x] 3)).cell? ⟨b, 9, none⟩ = some (.slice Av s.ol.length cv) := (World.cell?_alloc_some _ _ _ (by rw [k92]; rfl)).trans k92
        refine wpAnyH_ready (rs := [12]) (by kernel_rfl) (by simp) ?_
        refine AllReadyH.cons rfl (fun K hK => ?_) AllReadyH.nil
        refine step_append_lies _ rfl _ _ 29 rfl B 3 i0 (.int .i64 0) 1 8 Tryd.underlying29 hi0 hz0 hz1 hz2 rfl (by decide) (.slice Av s.ol.length cv) s.ol.length (nums s.ol) (by kernel_rfl) (HF.out.ol.alloc (.cells #[.int .i64 x] 3)) ⟨wg.heap.size, 0, none⟩ 1 1 [.int .i64 x] (by kernel_rfl) rfl (one_new wg _ _) (by simp [Value.oneCell']) (by omega) (by simp [maxLen]; omega) (by omega) (by have := HO.out.size; simp; omega) _ rfl ?_
        intro g cap w3 hown hg hat hlt
        have hOA := only_app (w := wg) (.cells #[.int .i64 x] 3) (by rfl) (by rfl) (by rfl) (by rfl) hg
        have HFF := Lib.hid (ol_fin HF.out hOA g cap x hown (hat.imp id (fun e => by rw [e]; simp)))
        have t0 : w3.cell? ⟨xs, 0, none⟩ = _ := cell_onl hS2'.1 hOA (HZ0.out.1)
        have t1 : w3.cell? ⟨xr, 0, none⟩ = _ := cell_onl hS2'.2.1 hOA (HZ0.out.2.1)
        have t2 : w3.cell? ⟨xi i, 0, none⟩ = _ := cell_onl hS2'.2.2 hOA (HZ0.out.2.2)
        have q9 := cell_onl HF.out.c9 hOA (fun e => (HF.out.so b e).1 (.inl rfl))
        have qf := (World.frozen?_of_block (a := ⟨b, 9, none⟩) (hOA.block b HF.out.r.lt (fun e => (HF.out.so b e).1 (.inl rfl)))).trans (HF.out.r.fr 9)
        refine hK.out _ _ ⟨t0, t1, t2⟩ fun hS4 => ?_
        clear hK hown hg hat hlt hOA
        refine wpAnyH_take (i := 13) (v := .pointer (some ⟨b, 6, none⟩)) rfl (by kernel_rfl) (by kernel_rfl) (by kernel_rfl) (fun _ _ _ h => h) (Or.inl ⟨by kernel_rfl, fun w' _ => by kernel_rfl⟩) hS4 ?_
        refine wpAnyH_take (i := 14) (v := .pointer (some ⟨b, 9, none⟩)) rfl (by kernel_rfl) (by kernel_rfl) (by kernel_rfl) (fun _ _ _ h => h) (Or.inl ⟨by kernel_rfl, fun w' _ => by kernel_rfl⟩) hS4 ?_
        refine wpAnyH_ready (rs := [15]) (by kernel_rfl) (by simp) ?_
        refine AllReadyH.cons rfl (fun K hK => ?_) AllReadyH.nil
        go_simp
        refine hK.out _ _ ⟨(cell_far (Ne.symm HB.out.2)).trans t0, (cell_far (Ne.symm HB.out.1)).trans t1, (cell_far (Ne.symm HB3.out)).trans t2⟩ fun hS5 => ?_
        clear hK
        refine wpAnyH_done (by kernel_rfl) ?_ _
        go_simp
        go_wp2
        go_end0
        exact ⟨rfl, ⟨_, _, HFF.out.1⟩, onl_trans (onl_mono HO.out fun k e => .inl (.inr e)) HFF.out.2⟩
      · go_simp
        have hS3' : _ ∧ _ ∧ _ := ⟨(World.cell?_alloc_some wg ⟨xs, 0, none⟩ (.cells #[.int .i64 x] 3) (by rw [hS2'.1]; rfl)).trans hS2'.1, (World.cell?_alloc_some wg ⟨xr, 0, none⟩ (.cells #[.int .i64 x] 3) (by rw [hS2'.2.1]; rfl)).trans hS2'.2.1, (World.cell?_alloc_some wg ⟨xi i, 0, none⟩ (.cells #[.int .i64 x] 3) (by rw [hS2'.2.2]; rfl)).trans hS2'.2.2⟩
        refine hK.out _ _ hS3' fun hS3 => ?_
        clear hK
        have k93 : (wg.alloc (.cells #[.int .i64 x] 3)).cell? ⟨b, 9, none⟩ = some (.slice Av s.ol.length cv) := (World.cell?_alloc_some _ _ _ (by rw [k92]; rfl)).trans k92
        refine wpAnyH_ready (rs := [4]) (by kernel_rfl) (by simp) ?_
        refine AllReadyH.cons rfl (fun K hK => ?_) AllReadyH.nil
        go_simp
        refine hK.out _ _ hS3 fun hS' => ?_
        clear hK
        refine wpAnyH_ready (rs := [12]) (by kernel_rfl) (by simp) ?_
        refine AllReadyH.cons rfl (fun K hK => ?_) AllReadyH.nil
        refine step_append_lies _ rfl _ _ 29 rfl B 3 i0 (.int .i64 0) 1 8 Tryd.underlying29 hi0 hz0 hz1 hz2 rfl (by decide) (.slice Av s.ol.length cv) s.ol.length (nums s.ol) (by kernel_rfl) (HF.out.ol.alloc (.cells #[.int .i64 x] 3)) ⟨wg.heap.size, 0, none⟩ 1 1 [.int .i64 x] (by kernel_rfl) rfl (one_new wg _ _) (by simp [Value.oneCell']) (by omega) (by simp [maxLen]; omega) (by omega) (by have := HO.out.size; simp; omega) _ rfl ?_
        intro g cap w3 hown hg hat hlt
        have hOA := only_app (w := wg) (.cells #[.int .i64 x] 3) (by rfl) (by rfl) (by rfl) (by rfl) hg
        have HFF := Lib.hid (ol_fin HF.out hOA g cap x hown (hat.imp id (fun e => by rw [e]; simp)))
        have t0 : w3.cell? ⟨xs, 0, none⟩ = _ := cell_onl hS2'.1 hOA (HZ0.out.1)
        have t1 : w3.cell? ⟨xr, 0, none⟩ = _ := cell_onl hS2'.2.1 hOA (HZ0.out.2.1)
        have t2 : w3.cell? ⟨xi i, 0, none⟩ = _ := cell_onl hS2'.2.2 hOA (HZ0.out.2.2)
        have q9 := cell_onl HF.out.c9 hOA (fun e => (HF.out.so b e).1 (.inl rfl))
        have qf := (World.frozen?_of_block (a := ⟨b, 9, none⟩) (hOA.block b HF.out.r.lt (fun e => (HF.out.so b e).1 (.inl rfl)))).trans (HF.out.r.fr 9)
        refine hK.out _ _ ⟨t0, t1, t2⟩ fun hS4 => ?_
        clear hK hown hg hat hlt hOA
        refine wpAnyH_take (i := 13) (v := .pointer (some ⟨b, 6, none⟩)) rfl (by kernel_rfl) (by kernel_rfl) (by kernel_rfl) (fun _ _ _ h => h) (Or.inl ⟨by kernel_rfl, fun w' _ => by kernel_rfl⟩) hS4 ?_
        refine wpAnyH_take (i := 14) (v := .pointer (some ⟨b, 9, none⟩)) rfl (by kernel_rfl) (by kernel_rfl) (by kernel_rfl) (fun _ _ _ h => h) (Or.inl ⟨by kernel_rfl, fun w' _ => by kernel_rfl⟩) hS4 ?_
        refine wpAnyH_ready (rs := [15]) (by kernel_rfl) (by simp) ?_
        refine AllReadyH.cons rfl (fun K hK => ?_) AllReadyH.nil
        go_simp
        refine hK.out _ _ ⟨(cell_far (Ne.symm HB.out.2)).trans t0, (cell_far (Ne.symm HB.out.1)).trans t1, (cell_far (Ne.symm HB3.out)).trans t2⟩ fun hS5 => ?_
        clear hK
        refine wpAnyH_done (by kernel_rfl) ?_ _
        go_simp
        go_wp2
        go_end0
        exact ⟨rfl, ⟨_, _, HFF.out.1⟩, onl_trans (onl_mono HO.out fun k e => .inl (.inr e)) HFF.out.2⟩
end Go.Proofs.YtmcelldklmjlkaaDoor
