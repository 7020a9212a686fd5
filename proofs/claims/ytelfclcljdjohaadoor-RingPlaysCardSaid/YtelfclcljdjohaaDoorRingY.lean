/- Messages through a ring: Reset. -/
import Derived.Test.YtelfclcljdjohaaDoorRingS
import Derived.Test.YtelfclcljdjohaaDoorMemReset
namespace Go.Proofs.YtelfclcljdjohaaDoor
open Go.RowKit

def RS.reset (s : RS) : RS := { P := s.P, W := s.W, mem := List.replicate s.mem.length 0, ia := 0, ih := 0, it := 0, il := [], inn := 0, oa := 0, oh := 0, ot := 0, ol := [] }
def zeroed (w : World) (b : Nat) : World := ((((((((((w.setCell ⟨b, 3, none⟩ .nilFunc).setCell ⟨b, 4, none⟩ (.int .i64 0)).setCell ⟨b, 5, none⟩ (.int .i64 0)).setCell ⟨b, 6, none⟩ (.slice none 0 0)).setCell ⟨b, 7, none⟩ (.int .i64 0)).setCell ⟨b, 8, none⟩ .nilFunc).setCell ⟨b, 9, none⟩ (.int .i64 0)).setCell ⟨b, 10, none⟩ (.int .i64 0)).setCell ⟨b, 11, none⟩ (.slice none 0 0)).setCell ⟨b, 12, none⟩ (.int .i64 0))
theorem zeroed_cells (s : RS) (b mb : Nat) (vi vo : Value) : (((((((((((ringCells s b mb vi vo).setIfInBounds 3 .nilFunc).setIfInBounds 4 (.int .i64 0)).setIfInBounds 5 (.int .i64 0)).setIfInBounds 6 (.slice none 0 0)).setIfInBounds 7 (.int .i64 0)).setIfInBounds 8 .nilFunc).setIfInBounds 9 (.int .i64 0)).setIfInBounds 10 (.int .i64 0)).setIfInBounds 11 (.slice none 0 0)).setIfInBounds 12 (.int .i64 0)) = ringCells s.reset b mb (.slice none 0 0) (.slice none 0 0) := by
  simp [ringCells, nxW, nxR, RS.reset]
theorem zeroed_blk {w : World} {b mb : Nat} {s : RS} {vi vo : Value} (h : Blk w b 70 (ringCells s b mb vi vo)) : Blk (zeroed w b) b 70 (ringCells s.reset b mb (.slice none 0 0) (.slice none 0 0)) := by
  have k := ((((((((((h.set 3 .nilFunc).set 4 (.int .i64 0)).set 5 (.int .i64 0)).set 6 (.slice none 0 0)).set 7 (.int .i64 0)).set 8 .nilFunc).set 9 (.int .i64 0)).set 10 (.int .i64 0)).set 11 (.slice none 0 0)).set 12 (.int .i64 0))
  rw [zeroed_cells] at k
  exact k
theorem zeroed_only (w : World) (b : Nat) : Only (fun k => k = b) w (zeroed w b) := (onl_set (S := fun k => k = b) ((onl_set (S := fun k => k = b) ((onl_set (S := fun k => k = b) ((onl_set (S := fun k => k = b) ((onl_set (S := fun k => k = b) ((onl_set (S := fun k => k = b) ((onl_set (S := fun k => k = b) ((onl_set (S := fun k => k = b) ((onl_set (S := fun k => k = b) ((onl_set (S := fun k => k = b) (onl_refl (fun k => k = b) w) (p := ⟨b, 3, none⟩) (.inl rfl) .nilFunc)) (p := ⟨b, 4, none⟩) (.inl rfl) (.int .i64 0))) (p := ⟨b, 5, none⟩) (.inl rfl) (.int .i64 0))) (p := ⟨b, 6, none⟩) (.inl rfl) (.slice none 0 0))) (p := ⟨b, 7, none⟩) (.inl rfl) (.int .i64 0))) (p := ⟨b, 8, none⟩) (.inl rfl) .nilFunc)) (p := ⟨b, 9, none⟩) (.inl rfl) (.int .i64 0))) (p := ⟨b, 10, none⟩) (.inl rfl) (.int .i64 0))) (p := ⟨b, 11, none⟩) (.inl rfl) (.slice none 0 0))) (p := ⟨b, 12, none⟩) (.inl rfl) (.int .i64 0))
set_option maxRecDepth 100000 in
set_option maxHeartbeats 1600000 in
theorem rreset_any {w : World} {B b mb lb : Nat} {X : Nat → Prop} {s : RS} {vi vo : Value} {c : Int} (h : RAt w B b mb lb X s vi vo c) (hk : s.ok) :
    Calls Tryd.prog 25 #[.pointer (some ⟨b, 0, none⟩)] w fun e w' => e = .returned (.tuple #[]) ∧ RAt w' B b mb lb X s.reset (.slice none 0 0) (.slice none 0 0) c ∧ Only (regS b mb lb) w w' := by
  have c2 := h.c2
  have c3 := h.c3
  have c4 := h.c4
  have c5 := h.c5
  have c6 := h.c6
  have c7 := h.c7
  have c8 := h.c8
  have c9 := h.c9
  have c10 := h.c10
  have c11 := h.c11
  have c12 : w.cell? ⟨b, 12, none⟩ = some (.int .i64 0) := (h.r.cell 12).trans rfl
  have f3 := h.r.fr 3
  have f4 := h.r.fr 4
  have f5 := h.r.fr 5
  have f6 := h.r.fr 6
  have f7 := h.r.fr 7
  have f8 := h.r.fr 8
  have f9 := h.r.fr 9
  have f10 := h.r.fr 10
  have f11 := h.r.fr 11
  have f12 := h.r.fr 12
  have H := Lib.hid h
  have HLEN := Lib.hid (show 0 < s.mem.length by have := ok_len2 hk; omega)
  clear h hk
  go_enter Tryd.func25, Tryd.ntmps25
  go_wp2_with fail
  change Code.wp _ _ _ _ (zeroed w b)
  have hB := zeroed_blk H.out.r
  have hO := zeroed_only w b
  have hM : MemAt (zeroed w b) mb lb s.mem c := H.out.m.onl hO (fun e => H.out.ne.1 e.symm) (fun e => H.out.ne.2 e.symm)
  clear c2 c3 c4 c5 c6 c7 c8 c9 c10 c11 c12 f3 f4 f5 f6 f7 f8 f9 f10 f11 f12
  generalize zeroed w b = w2 at *
  have c2 : w2.cell? ⟨b, 2, none⟩ = some (.pointer (some ⟨mb, 0, none⟩)) := (hB.cell 2).trans rfl
  have HRS := Lib.hid (show ∀ q, Calls Tryd.prog 43 #[.pointer (some ⟨mb, 0, none⟩), .int .i64 0, .int .i64 s.mem.length] (w2.drewN q) fun e w' => e = .returned (.int .i64 0) ∧ MemAt w' mb lb (List.replicate s.mem.length 0) c ∧ Only (fun k => k = lb) (w2.drewN q) w' from
    fun q => mreset_all (w := w2.drewN q) (hM.heap rfl) HLEN.out)
  have HL := Lib.hid (show ∀ q, Calls Tryd.prog 44 #[.pointer (some ⟨mb, 0, none⟩)] (w2.drewN q) fun e w' => e = .returned (.int .i64 s.mem.length) ∧ w' = w2.drewN q from
    fun q => (mlen_any (w := w2.drewN q) (hM.heap rfl)).mono fun _ _ ⟨he, hw⟩ => ⟨he, hw.symm⟩)
  have HB := Lib.hid hB
  have HO := Lib.hid hO
  have HNE := Lib.hid H.out.ne
  clear hB hO hM
  go_still_tail 9, (by kernel_rfl)
  still_call (HL.out 1)
  repeat still_step
  try refine wpStill_nil ?_
  change wpList _ _ _ _ _ w2.drew
  go_wp2_with fail
  refine (HRS.out 1).mono ?_
  rintro e w3 ⟨rfl, hM3, hO3⟩
  have hO3' : Only (fun k => k = lb) w2 w3 := onl_heap hO3 rfl rfl rfl rfl
  have HM3 := Lib.hid hM3
  have HB3 := Lib.hid (blk_onl HB.out hO3' HNE.out.2)
  have HO3 := Lib.hid (show Only (regS b mb lb) w w3 from onl_trans (onl_mono HO.out fun _ e => .inl e) (onl_mono hO3' fun _ e => .inr (.inr e)))
  clear hM3 hO3 hO3' HRS HL HB c2
  go_wp2
  go_end0
  refine ⟨rfl, ⟨HB3.out, HM3.out, World.ownsRow_nil _ _ _ _, World.ownsRow_nil _ _ _ _, fun g hg => by simp [Value.ownBlock] at hg, fun g hg => by simp [Value.ownBlock] at hg, fun g hg => by simp [Value.ownBlock] at hg, fun g hg => by simp [Value.ownBlock] at hg, fun k hk => Nat.lt_of_lt_of_le (H.out.lx k hk) HO3.out.size⟩, HO3.out⟩
theorem reset_new {s : RS} (h : s.ok) : s.reset = RS.new s.P s.W := by
  unfold RS.reset RS.new
  rw [h.len]
theorem ctx_reset {W w : World} {b mb lb : Nat} {X : Nat → Prop} {s : RS} (h : Ctx W w b mb lb X s) :
    Calls Tryd.prog 25 #[.pointer (some ⟨b, 0, none⟩)] w fun e w' => e = .returned (.tuple #[]) ∧ Ctx W w' b mb lb X (RS.new s.P s.W) ∧ Kept X w w' := by
  obtain ⟨vi, vo, c, hT⟩ := h.at_
  have hk := ok_new s.P s.W h.ok.p1 h.ok.p8 h.ok.w1 h.ok.w6
  have := rreset_any hT h.ok
  rw [reset_new h.ok] at this
  exact this.mono fun e w' ⟨he, hT', hO⟩ => ⟨he, h.step hT ⟨_, _, _, hT'⟩ hk (only_turn vo hO)⟩
end Go.Proofs.YtelfclcljdjohaaDoor
