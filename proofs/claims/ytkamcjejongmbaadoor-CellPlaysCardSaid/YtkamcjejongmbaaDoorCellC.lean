/- The memory's functions as one with the plain state CS; Reset of any cells; Why and the reference's. -/
import Derived.Test.YtkamcjejongmbaaDoorCellB
import Derived.Test.YtkamcjejongmbaaDoorCellIs
namespace Go.Proofs.YtkamcjejongmbaaDoor
open Go.RowKit

theorem zeros_at {g : Nat} : ∀ (n o : Nat) (w : World) (l : List Int), Blk w g 3 (nums l).toArray → o + n ≤ l.length → Blk (w.setCells g o (List.replicate n (.int .i64 0))) g 3 (nums (zeroed l o n)).toArray := by
  intro n
  induction n with
  | zero =>
    intro o w l h ho
    have e : zeroed l o 0 = l := by simp [zeroed]
    rw [e]
    exact h
  | succ n ih =>
    intro o w l h ho
    have h1 := h.set o (.int .i64 0)
    have e1 : (nums l).toArray.setIfInBounds o (.int .i64 0) = (nums (l.set o 0)).toArray := by
      unfold nums; rw [List.setIfInBounds_toArray, List.map_set]
    rw [e1] at h1
    have h2 := ih (o + 1) _ _ h1 (by rw [List.length_set]; omega)
    have e2 : zeroed (l.set o 0) (o + 1) n = zeroed l o (n + 1) := by
      apply List.ext_getElem?
      intro j
      rcases Nat.lt_or_ge j l.length with hj | hj
      · rw [zeroed_get _ _ _ _ (by rw [List.length_set]; omega) (by rw [List.length_set]; omega), zeroed_get _ _ _ _ (by omega) hj]
        rcases Nat.lt_trichotomy j o with h | h | h
        · rw [if_neg (by omega), if_neg (by omega), List.getElem?_set_ne (by omega)]
        · subst h
          rw [if_neg (by omega), if_pos (by omega), List.getElem?_set_self hj]
        · by_cases h' : j < o + (n + 1)
          · rw [if_pos (by omega), if_pos (by omega)]
          · rw [if_neg (by omega), if_neg (by omega), List.getElem?_set_ne (by omega)]
      · rw [List.getElem?_eq_none (by rw [zeroed_len _ _ _ (by rw [List.length_set]; omega), List.length_set]; omega), List.getElem?_eq_none (by rw [zeroed_len _ _ _ (by omega)]; omega)]
    rw [e2] at h2
    exact h2
/-- The part of a row from a on, k long. -/
def partA (lb n a : Nat) : Option Addr := if n = a then some ⟨lb, 0, none⟩ else some ⟨lb, a, none⟩
theorem slice_part (lb n a k : Nat) (h : a + k ≤ n) (W : World) : (Instr.slice 33 (.slice (some ⟨lb, 0, none⟩) n n) (some (.int .i64 (a : Int))) (some (.int .i64 ((a : Int) + k))) none).run Tryd.prog W = .ok (.slice (partA lb n a) k (n - a)) W := by
  obtain ⟨i0, hi, hz0, hz1, hz2⟩ := info_parts infoInt
  have hs : (sizeOf 3).run Tryd.prog W = .ok 1 W := by simp [sizeOf, typeInfo, hi, hz1]
  rw [Go.run_slice_lh (t := 33) (ht := (by kernel_rfl : Tryd.prog.underlying 33 = some (.slice (Tryd.prog.elem 33)))) (h0 := by omega) (h1 := by omega) (h2 := by omega)]
  rw [(by kernel_rfl : Tryd.prog.elem 33 = 3), hs]
  simp only [Result.andThen, Go.sliced, partA]
  have e1 : ((a : Int) + k).toNat - (a : Int).toNat = k := by omega
  have e2 : n - (a : Int).toNat = n - a := by omega
  rw [e1, e2]
  by_cases hna : n = a
  · simp [hna]
  · simp [hna, Addr.add]
    omega
theorem clear_part {w : World} {lb a k c : Nat} {n : Nat} {l : List Int} (h : Blk w lb 3 (nums l).toArray) (hn : n = l.length) (hk : a + k ≤ l.length) (ty : TypeId) :
    (Builtin.clear_ #[33] ty #[.slice (partA lb n a) k c]).run Tryd.prog w = .ok (.tuple #[]) (w.setCells lb a (List.replicate k (.int .i64 0))) := by
  subst hn
  rcases Nat.eq_zero_or_pos k with rfl | hp
  · unfold partA
    split <;> simp [Builtin.clear_, run_underlying Tryd.underlying33, World.setCells]
  · rw [partA, if_neg (by omega)]
    exact Lib.run_clear_slice w 33 3 ty (.int .i64 0) Tryd.underlying33 zeroInt rfl rfl lb a k c hp (fun j hj => by rw [h.cell, List.getElem?_toArray, nums_get l (a + j) (by omega)]; rfl) (fun j hj => h.fr _)
set_option maxRecDepth 100000 in
theorem mreset_ok {w : World} {mb lb : Nat} {l : List Int} {c : Int} (h : MemAt w mb lb l c) (a k : Nat) (hk : a + k ≤ l.length) :
    Calls Tryd.prog 29 #[.pointer (some ⟨mb, 0, none⟩), .int .i64 a, .int .i64 k] w fun e w' => e = .returned (.int .i64 0) ∧ MemAt w' mb lb (zeroed l a k) c ∧ Only (fun k => k = lb) w w' := by
  have m0 := h.m0
  have HL := Lib.hid (mlen_any h)
  have hcl : ∀ ty, (Builtin.clear_ #[33] ty #[.slice (partA lb l.length a) k (l.length - a)]).run Tryd.prog w = .ok (.tuple #[]) (w.setCells lb a (List.replicate k (.int .i64 0))) := fun ty => clear_part h.d rfl hk ty
  have hsl := slice_part lb l.length a k hk
  have hO : Only (fun k => k = lb) w (w.setCells lb a (List.replicate k (.int .i64 0))) := zeros_only _ _ _
  have hd := zeros_at k a w l h.d hk
  have hM := Lib.hid (show MemAt (w.setCells lb a (List.replicate k (.int .i64 0))) mb lb (zeroed l a k) c from
    ⟨by rw [zeroed_len _ _ _ hk]; exact blk_onl h.m hO h.ne, hd, by rw [zeroed_len _ _ _ hk]; exact h.le⟩)
  have HO := Lib.hid hO
  have hle := h.le
  clear h hO hd
  generalize zeroed l a k = lz at *
  generalize l.length = n at *
  have b0 : ¬ (k : Int) < 0 := by omega
  have b1 : ¬ (a : Int) < 0 := by omega
  have b2 : ¬ (n : Int) < (a : Int) := by omega
  have e1 : wrap64 ((n : Int) - (a : Int)) = (n : Int) - a := by unfold wrap64; omega
  have e2 : wrap64 ((a : Int) + (k : Int)) = (a : Int) + k := by unfold wrap64; omega
  have b3 : ¬ (n : Int) - (a : Int) < (k : Int) := by omega
  clear hle hk
  generalize partA lb n a = X at *
  generalize n - a = nc at *
  go_enter Tryd.func29, Tryd.ntmps29
  go_wp2_with (go_at_call 19; refine (HL.out).mono ?_; rintro e w' ⟨rfl, rfl⟩)
  go_ret
  exact ⟨rfl, hM.out, HO.out⟩
/-! ### All as one -/
theorem val_lt (s : CS) (i : Int) (h0 : 0 ≤ i) (h1 : i < s.l.length) : s.val i = s.l[i.toNat]'(by omega) := by
  unfold CS.val
  rw [List.getD_eq_getElem?_getD, List.getElem?_eq_getElem (by omega)]
  rfl
theorem wrap_succ (c : Nat) (h : c < 4611686018427387904) : wrap64 ((c : Int) + 1) = ((c + 1 : Nat) : Int) := by unfold wrap64; omega
theorem cread_any {w : World} {mb lb : Nat} {s : CS} (h : MemAt w mb lb s.l s.c) (hE : ErrT w) (hc : s.c < 4611686018427387904) (i : Int) :
    Calls Tryd.prog 22 #[.pointer (some ⟨mb, 0, none⟩), .int .i64 i] w fun e w' => e = .returned (.tuple #[.int .i64 (s.read i).2.1, .int .i64 (s.read i).2.2]) ∧ MemAt w' mb lb (s.read i).1.l (s.read i).1.c ∧ Only (memS mb lb) w w' := by
  unfold CS.read CS.why
  rcases why_cases s.l.length i 0 with ⟨e, h0, h1, _⟩ | ⟨e, h1⟩ | ⟨e, h0, h1, h2⟩
  · rw [if_pos e]
    obtain ⟨j, rfl⟩ := Int.eq_ofNat_of_zero_le h0
    have hj : j < s.l.length := by omega
    refine (read_ok h j hj).mono ?_
    rintro r w' ⟨rfl, hM, hO⟩
    rw [wrap_succ _ hc] at hM
    exact ⟨by rw [val_lt s _ h0 h1]; rfl, hM, hO⟩
  all_goals
    rw [if_neg (by rw [e]; decide)]
    refine (read_bad (mlen_any h) hE i (by rw [e]; decide)).mono ?_
    rintro r w' ⟨rfl, hB⟩
    exact ⟨rfl, ⟨h.m.below hB h.m.lt, h.d.below hB h.d.lt, h.le⟩, onl_below hB⟩
theorem cswap_any {w : World} {mb lb : Nat} {s : CS} (h : MemAt w mb lb s.l s.c) (hE : ErrT w) (hc : s.c < 4611686018427387904) (i v : Int) :
    Calls Tryd.prog 21 #[.pointer (some ⟨mb, 0, none⟩), .int .i64 i, .int .i64 v] w fun e w' => e = .returned (.tuple #[.int .i64 (s.swap i v).2.1, .int .i64 (s.swap i v).2.2]) ∧ MemAt w' mb lb (s.swap i v).1.l (s.swap i v).1.c ∧ Only (memS mb lb) w w' := by
  unfold CS.swap CS.why
  rcases why_cases s.l.length i v with ⟨e, h0, h1, h2, h3⟩ | ⟨e, h1⟩ | ⟨e, h0, h1, h2⟩
  · rw [if_pos e]
    obtain ⟨j, rfl⟩ := Int.eq_ofNat_of_zero_le h0
    have hj : j < s.l.length := by omega
    refine (swap_ok h j v hj h2 h3).mono ?_
    rintro r w' ⟨rfl, hM, hO⟩
    rw [wrap_succ _ hc] at hM
    exact ⟨by rw [val_lt s _ h0 h1]; rfl, hM, hO⟩
  all_goals
    rw [if_neg (by rw [e]; decide)]
    refine (swap_bad (mlen_any h) hE i v (by rw [e]; decide)).mono ?_
    rintro r w' ⟨rfl, hB⟩
    exact ⟨rfl, ⟨h.m.below hB h.m.lt, h.d.below hB h.d.lt, h.le⟩, onl_below hB⟩
theorem cwrite_any {w : World} {mb lb : Nat} {s : CS} (h : MemAt w mb lb s.l s.c) (hE : ErrT w) (hc : s.c < 4611686018427387904) (i v : Int) :
    Calls Tryd.prog 15 #[.pointer (some ⟨mb, 0, none⟩), .int .i64 i, .int .i64 v] w fun e w' => e = .returned (.int .i64 (s.swap i v).2.2) ∧ MemAt w' mb lb (s.swap i v).1.l (s.swap i v).1.c ∧ Only (memS mb lb) w w' := by
  unfold CS.swap CS.why
  rcases why_cases s.l.length i v with ⟨e, h0, h1, h2, h3⟩ | ⟨e, h1⟩ | ⟨e, h0, h1, h2⟩
  · rw [if_pos e]
    obtain ⟨j, rfl⟩ := Int.eq_ofNat_of_zero_le h0
    have hj : j < s.l.length := by omega
    refine (write_ok h j v hj h2 h3).mono ?_
    rintro r w' ⟨rfl, hM, hO⟩
    rw [wrap_succ _ hc] at hM
    exact ⟨rfl, hM, hO⟩
  all_goals
    rw [if_neg (by rw [e]; decide)]
    refine (write_bad (mlen_any h) hE i v (by rw [e]; decide)).mono ?_
    rintro r w' ⟨rfl, hB⟩
    exact ⟨rfl, ⟨h.m.below hB h.m.lt, h.d.below hB h.d.lt, h.le⟩, onl_below hB⟩
theorem creset_any {w : World} {mb lb : Nat} {s : CS} (h : MemAt w mb lb s.l s.c) (a k : Int) (hk : -9223372036854775808 ≤ k ∧ k ≤ 9223372036854775807) (ha : -9223372036854775808 ≤ a ∧ a ≤ 9223372036854775807) :
    Calls Tryd.prog 29 #[.pointer (some ⟨mb, 0, none⟩), .int .i64 a, .int .i64 k] w fun e w' => e = .returned (.int .i64 (s.reset a k).2) ∧ MemAt w' mb lb (s.reset a k).1.l (s.reset a k).1.c ∧ Only (memS mb lb) w w' := by
  unfold CS.reset
  by_cases hf : s.fits a k
  · rw [if_pos hf]
    unfold CS.fits at hf
    obtain ⟨a, rfl⟩ := Int.eq_ofNat_of_zero_le hf.2.1
    obtain ⟨k, rfl⟩ := Int.eq_ofNat_of_zero_le hf.1
    refine (mreset_ok h a k (by omega)).mono ?_
    rintro r w' ⟨rfl, hM, hO⟩
    exact ⟨rfl, hM, onl_mono hO (fun j e => Or.inr e)⟩
  · rw [if_neg hf]
    unfold CS.fits at hf
    have := h.le
    refine (mreset_bad (mlen_any h) a k (by omega) hk ha (by omega)).mono ?_
    rintro r w' ⟨rfl, rfl⟩
    exact ⟨rfl, h, onl_refl _ _⟩
/-! ### Why -/
def whyB (k i : Int) : ByteArray := if k = 0 then ⟨#[]⟩ else faultB k i
theorem why_any {w : World} (k i : Int) (hi : -9223372036854775808 ≤ i ∧ i ≤ 9223372036854775807) (hI : ItoaAt w i) :
    Calls Tryd.prog 12 #[.int .i64 k, .int .i64 i] w fun e w' => e = .returned (.string (whyB k i)) ∧ Below w.heap.size w w' := by
  have HS := Lib.hid (is_err k)
  have HE := Lib.hid (fault_error (k := k) (Blk.new w 60 #[.int .i64 i, .iface 24 (.int .i64 k)]) hi (hI.below (below_alloc (Nat.le_refl _) _)))
  unfold whyB
  by_cases h : k = 0
  · rw [if_pos h]
    have hb : (k == 0) = true := by simp [h]
    rw [hb] at HS
    clear h HE hI hi
    go_enter Tryd.func12, Tryd.ntmps12
    go_wp2_with (go_at_call 30; refine (HS.out _).mono ?_; rintro e w' ⟨rfl, rfl⟩)
    go_ret
    exact ⟨rfl, Below.refl _ _⟩
  · rw [if_neg h]
    have hb : (k == 0) = false := by simp [h]
    rw [hb] at HS
    clear h hI hi
    generalize faultB k i = B at *
    go_enter Tryd.func12, Tryd.ntmps12
    go_wp2_with (first | (go_at_call 30; refine (HS.out _).mono ?_; rintro e w' ⟨rfl, rfl⟩) | (go_at_call 31; refine (HE.out).mono ?_; rintro e w' ⟨rfl, hb⟩; have HB := Lib.hid hb; clear hb))
    go_ret
    exact ⟨rfl, (below_alloc (Nat.le_refl _) _).trans (HB.out.mono (by simp))⟩
theorem rwhy_any {w : World} (k i : Int) (hi : -9223372036854775808 ≤ i ∧ i ≤ 9223372036854775807) :
    Calls Tryd.prog 13 #[.int .i64 k, .int .i64 i] w fun e w' => e = .returned (.string (whyB k i)) ∧ Below w.heap.size w w' := by
  unfold whyB
  by_cases h : k = 0
  · rw [if_pos h]
    have hb : (k == 0) = true := by simp [h]
    clear h hi
    go_enter Tryd.func13, Tryd.ntmps13
    go_wp2
    go_ret
    exact ⟨rfl, Below.refl _ _⟩
  · rw [if_neg h]
    have hb : (k == 0) = false := by simp [h]
    have HT := Lib.hid (rtext_any k w)
    have HD := Lib.hid (digits_q i hi.1 hi.2)
    have s1 := text_size k
    have s2 := num_size i hi.1 hi.2
    have z1 : ¬ 9223372036854775807 < (textB k).size + 4 := by omega
    have z2 : ¬ 9223372036854775807 < (textB k).size + 4 + (numB i).size := by omega
    unfold faultB
    generalize textB k = tk at *
    generalize numB i = ni at *
    clear h hi
    go_enter Tryd.func13, Tryd.ntmps13
    go_wp2_with (first | (go_at_call 32; refine (HT.out).mono ?_; rintro e w' ⟨rfl, hb⟩; have HB := Lib.hid hb; clear hb) | (go_at_call 33; refine (HD.out _).mono ?_; rintro e w'' ⟨rfl, rfl⟩))
    go_ret
    exact ⟨rfl, HB.out⟩
end Go.Proofs.YtkamcjejongmbaaDoor
