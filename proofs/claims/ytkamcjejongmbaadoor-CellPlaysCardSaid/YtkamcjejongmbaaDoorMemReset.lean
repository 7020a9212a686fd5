/- The memory of words: all cells have 0 again. -/
import Derived.Test.YtkamcjejongmbaaDoorCell
import Derived.Lib.SliceRun
import Derived.BigFrame
namespace Go.Proofs.YtkamcjejongmbaaDoor
open Go.RowKit

theorem zeros_blk {g : Nat} : ∀ (n o : Nat) (w : World) (l : List Int), Blk w g 3 (nums l).toArray → o + n = l.length → Blk (w.setCells g o (List.replicate n (.int .i64 0))) g 3 (nums (l.take o ++ List.replicate n 0)).toArray := by
  intro n
  induction n with
  | zero =>
    intro o w l h ho
    have e : l.take o ++ List.replicate 0 0 = l := by rw [List.take_of_length_le (by omega)]; simp
    rw [e]
    exact h
  | succ n ih =>
    intro o w l h ho
    have h1 := h.set o (.int .i64 0)
    have e1 : (nums l).toArray.setIfInBounds o (.int .i64 0) = (nums (l.set o 0)).toArray := by
      unfold nums; rw [List.setIfInBounds_toArray, List.map_set]
    rw [e1] at h1
    have h2 := ih (o + 1) _ _ h1 (by rw [List.length_set]; omega)
    have e2 : (l.set o 0).take (o + 1) ++ List.replicate n 0 = l.take o ++ List.replicate (n + 1) 0 := by
      rw [List.replicate_succ, List.take_add_one, List.getElem?_set_self (by omega), List.take_set_of_le (Nat.le_refl _)]
      simp
    rw [e2] at h2
    exact h2
theorem zeros_only {g : Nat} : ∀ (vs : List Value) (o : Nat) (w : World), Only (fun k => k = g) w (w.setCells g o vs) := by
  intro vs
  induction vs with
  | nil => intro o w; exact onl_refl _ w
  | cons v r ih =>
    intro o w
    exact onl_trans (onl_set (S := fun k => k = g) (onl_refl _ w) (p := ⟨g, o, none⟩) (.inl rfl) v) (ih (o + 1) _)
theorem zeroInt (w : World) : (zeroValue 3).run Tryd.prog w = .ok (.int .i64 0) w := by kernel_rfl
theorem mreset_all {w : World} {mb lb : Nat} {l : List Int} {c : Int} (h : MemAt w mb lb l c) (hp : 0 < l.length) :
    Calls Tryd.prog 29 #[.pointer (some ⟨mb, 0, none⟩), .int .i64 0, .int .i64 l.length] w fun e w' => e = .returned (.int .i64 0) ∧ MemAt w' mb lb (List.replicate l.length 0) c ∧ Only (fun k => k = lb) w w' := by
  have m0 := h.m0
  have HL := Lib.hid (mlen_any h)
  have hcl : ∀ ty, (Builtin.clear_ #[33] ty #[.slice (some ⟨lb, 0, none⟩) l.length l.length]).run Tryd.prog w = .ok (.tuple #[]) (w.setCells lb 0 (List.replicate l.length (.int .i64 0))) :=
    fun ty => Lib.run_clear_slice w 33 3 ty (.int .i64 0) Tryd.underlying33 zeroInt rfl rfl lb 0 l.length l.length hp (fun j hj => by rw [Nat.zero_add, h.at_ j hj]; rfl) (fun j hj => by rw [Nat.zero_add]; exact h.d.fr j)
  have hO : Only (fun k => k = lb) w (w.setCells lb 0 (List.replicate l.length (.int .i64 0))) := zeros_only _ _ _
  have hd := zeros_blk l.length 0 w l h.d (by omega)
  rw [show l.take 0 ++ List.replicate l.length 0 = List.replicate l.length 0 by simp] at hd
  have hM := Lib.hid (show MemAt (w.setCells lb 0 (List.replicate l.length (.int .i64 0))) mb lb (List.replicate l.length 0) c from
    ⟨by rw [List.length_replicate]; exact blk_onl h.m hO h.ne, hd, by rw [List.length_replicate]; exact h.le⟩)
  have HO := Lib.hid hO
  have hle := h.le
  clear h hO hd
  generalize l.length = n at *
  have b0 : ¬ (n : Int) < 0 := by omega
  have b1 : (0 : Int) ≤ (n : Int) := by omega
  go_enter Tryd.func29, Tryd.ntmps29
  go_wp2_with (go_at_call 19; refine (HL.out).mono ?_; rintro e w' ⟨rfl, rfl⟩)
  go_ret
  exact ⟨rfl, hM.out, HO.out⟩
end Go.Proofs.YtkamcjejongmbaaDoor
