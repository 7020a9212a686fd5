/- CellSame: two memories that are told the same. -/
import Derived.Test.YtkamcjejongmbaaDoorCellOwns
namespace Go.Proofs.YtkamcjejongmbaaDoor
open Go.RowKit

theorem early_any (A : Option Addr) (n c : Nat) (w : World) (hn : n ≤ c) (_ : c ≤ maxLen) :
    Calls Tryd.prog 20 #[.slice A n c] w fun e w' => e = .returned (.slice A (min n 80) c) ∧ w = w' := by
  have e : min (n : Int) 80 = ((min n 80 : Nat) : Int) := by omega
  by_cases h : n ≤ 80
  · rw [show min n 80 = n from by omega]
    have e2 : min (n : Int) 80 = (n : Int) := by omega
    clear e
    go_enter Tryd.func20, Tryd.ntmps20
    go_wp2
    go_ret
    exact ⟨rfl, rfl⟩
  · rw [show min n 80 = 80 from by omega]
    have e2 : min (n : Int) 80 = 80 := by omega
    clear e
    go_enter Tryd.func20, Tryd.ntmps20
    go_wp2
    go_ret
    exact ⟨rfl, rfl⟩
theorem why_zero {n : Nat} {i v : Int} (h : why n i v = 0) : why n i 0 = 0 := by
  rcases why_cases n i v with ⟨_, h0, h1, _⟩ | ⟨e, _⟩ | ⟨e, _⟩
  · unfold why; rw [if_neg (by omega), if_neg (by omega)]
  · rw [e] at h; exact absurd h (by decide)
  · rw [e] at h; exact absurd h (by decide)
theorem same_step {a b : CS} (h : a.l = b.l) (i v : Int) :
    ((b.read i).1.swap i v).2.2 = (a.swap i v).2.2 ∧ ((a.swap i v).2.2 = 0 → (a.swap i v).2.1 = (b.read i).2.1 ∧ (b.read i).2.2 = 0) ∧ (a.swap i v).1.l = ((b.read i).1.swap i v).1.l := by
  have h1 : (b.read i).1.l = b.l := read_l b i
  unfold CS.swap CS.why
  rw [h1, ← h]
  by_cases hw : why a.l.length i v = 0
  · have hw0 := why_zero hw
    simp only [hw, if_true]
    refine ⟨trivial, fun _ => ?_, trivial⟩
    unfold CS.read CS.why
    rw [← h, if_pos hw0]
    exact ⟨by unfold CS.val; rw [h], rfl⟩
  · simp only [hw, if_false]
    exact ⟨trivial, fun e => e.elim, by rw [h, h1]⟩
set_option maxRecDepth 100000 in
set_option maxHeartbeats 1600000 in
theorem law_cellSame (A : Option Addr) (len cap : Nat) (l : List St) {w : World} (hE : ErrT w) (hs : StsIn w (.slice A len cap) l) (hlc : len ≤ cap) (hcap : cap ≤ maxLen) :
    Calls Tryd.prog 6 #[.slice A len cap] w fun r w' => r = .returned (.bool true) ∧ Below w.heap.size w w' := by
  have HL := Lib.hid (lives_any hE (Below.refl _ w))
  have HN := Lib.hid (fun w1 (h1 : Below w.heap.size w w1) => cctx_new hE h1 12 (by omega))
  have HA := Lib.hid (fun W => early_any A len cap W hlc hcap)
  have HS0 := hs.take (m := min len 80) (by omega)
  have hn : min len 80 = (l.take (min len 80)).length := by
    obtain ⟨_, _, e, _⟩ := HS0
    injection e
  generalize l.take (min len 80) = L at *
  rw [hn] at HS0
  have HS := Lib.hid HS0
  have hL80 : L.length ≤ 80 := by omega
  have HA' := Lib.hid (show ∀ W, Calls Tryd.prog 20 #[.slice A len cap] W fun e w' => e = .returned (.slice A L.length cap) ∧ W = w' from fun W => by have := HA.out W; rw [hn] at this; exact this)
  clear hE HS0 hs HA hn hlc hcap
  go_enter Tryd.func6, Tryd.ntmps6
  go_wp2_with fail
  refine HL.out.mono ?_
  rintro r w1 ⟨rfl, hb⟩
  have HB := Lib.hid hb
  clear hb HL
  go_wp2_with fail
  refine (HN.out w1 HB.out).mono ?_
  rintro r w2 ⟨rfl, hC, -⟩
  have hd1 : w1.heap.size + 1 < w2.heap.size ∧ w1.heap.size < w2.heap.size := ⟨hC.at_.m.lt, hC.at_.d.lt⟩
  generalize w1.heap.size + 1 = ma at *
  generalize w1.heap.size = la at *
  have HC := Lib.hid hC
  clear hC HB
  go_wp2_with fail
  refine (HN.out w2 HC.out.bel).mono ?_
  rintro r w3 ⟨rfl, hD, hb3⟩
  have HA3 := Lib.hid (HC.out.below hb3)
  have HB3 := Lib.hid hD
  have hd2 : ma < w2.heap.size + 1 ∧ ma < w2.heap.size ∧ la < w2.heap.size + 1 ∧ la < w2.heap.size := by omega
  generalize w2.heap.size + 1 = mb at *
  generalize w2.heap.size = lb at *
  have hn1 : ¬ memS ma la mb := by unfold memS; omega
  have hn2 : ¬ memS ma la lb := by unfold memS; omega
  have hn3 : ¬ memS mb lb ma := by unfold memS; omega
  have hn4 : ¬ memS mb lb la := by unfold memS; omega
  have HG := Lib.hid (show w.heap.size ≤ ma ∧ w.heap.size ≤ la ∧ w.heap.size ≤ mb ∧ w.heap.size ≤ lb from ⟨HC.out.ge1, HC.out.ge2, hD.ge1, hD.ge2⟩)
  have HM := Lib.hid (And.intro hn1 (And.intro hn2 (And.intro hn3 hn4)))
  clear HN HC hD hb3 hd1 hd2 hn1 hn2 hn3 hn4
  go_wp2_with (go_at_call 20; refine (HA'.out _).mono ?_; rintro r w9 ⟨rfl, rfl⟩)
  clear HA'
  go_loopw [5] (fun i wr => ∃ k : Nat, k ≤ L.length ∧ i = .int .i64 k ∧ ∃ a b : CS, CCtx w wr ma la a ∧ CCtx w wr mb lb b ∧ a.l = b.l ∧ a.l.length = 12 ∧ a.c ≤ k ∧ b.c ≤ 2 * k) (fun i _ => L.length - (intOf i).toNat)
  case atStart => exact ⟨0, Nat.zero_le _, rfl, _, _, HA3.out, HB3.out, rfl, by simp, Nat.le_refl _, Nat.le_refl _⟩
  case round =>
    obtain ⟨k, hk, rfl, a, b, hA, hB, hab, ha12, hca, hcb⟩ := hrel
    clear HA3 HB3
    by_cases hlt : k < L.length
    · have hS := HS.out.below hA.bel
      obtain ⟨_, _, e, hl2, hc⟩ := hS
      injection e with e1 _ e3
      subst e1 e3
      obtain ⟨g, o, rfl, hcell⟩ := hc (by omega)
      obtain ⟨hst, -⟩ := hcell k hlt
      obtain ⟨-, s1, s2⟩ := hst
      have b0 : (0 : Int) ≤ (k : Int) := by omega
      have b1 : (k : Int) < (L.length : Int) := by omega
      obtain ⟨P1, P2, P3⟩ := same_step hab L[k].i L[k].v
      generalize L[k].i = i at *
      generalize L[k].v = v at *
      have HAc := Lib.hid hA
      have HBc := Lib.hid hB
      clear hcell hc hA hB
      go_wp2
      go_quiet (fail)
      go_wp2_with fail
      refine (cctx_swap (HAc.out.drewN _) (by omega) i v).mono ?_
      rintro r w4 ⟨rfl, hA, hO⟩
      have HA4 := Lib.hid hA
      have HB4 := Lib.hid ((HBc.out.drewN _).other hO HM.out.1 HM.out.2.1 (by have := HG.out; rintro k (rfl | rfl) <;> omega))
      clear hA hO HAc HBc s1 s2
      go_wp2_with fail
      refine (cctx_read HB4.out (by omega) i).mono ?_
      rintro r w5 ⟨rfl, hB, hO⟩
      have HB5 := Lib.hid hB
      have HA5 := Lib.hid (HA4.out.other hO HM.out.2.2.1 HM.out.2.2.2 (by have := HG.out; rintro k (rfl | rfl) <;> omega))
      clear hB hO HA4 HB4
      go_wp2_with fail
      refine (cctx_write HB5.out (by have := read_c b i; omega) i v).mono ?_
      rintro r w6 ⟨rfl, hB, hO⟩
      have HB6 := Lib.hid hB
      have HA6 := Lib.hid (HA5.out.other hO HM.out.2.2.1 HM.out.2.2.2 (by have := HG.out; rintro k (rfl | rfl) <;> omega))
      clear hB hO HA5 HB5
      have q1 := swap_len a i v
      have q2 := swap_c a i v
      have q3 := swap_c (b.read i).1 i v
      have q4 := read_c b i
      rw [P1]
      clear P1 hab
      generalize ((b.read i).1.swap i v).1 = b' at *
      generalize (a.swap i v).1 = a' at *
      generalize (a.swap i v).2.1 = xa at *
      generalize (b.read i).2.1 = xb at *
      generalize (b.read i).2.2 = fb at *
      generalize (a.swap i v).2.2 = ea at *
      by_cases he : ea = 0
      · obtain ⟨rfl, rfl⟩ := P2 he
        subst he
        clear P2
        go_wp2_with fail
        refine (cctx_all HA6.out).mono ?_
        rintro r w7 ⟨v1, rfl, hO, hA, hb⟩
        have HB7 := Lib.hid (HB6.out.below hb)
        have HA7 := Lib.hid hA
        have HI := Lib.hid (IntsIn.of_own hO rfl)
        clear hA hO hb HA6 HB6
        go_wp2_with fail
        refine (cctx_all HB7.out).mono ?_
        rintro r w8 ⟨v2, rfl, hO, hB, hb⟩
        have HA8 := Lib.hid (HA7.out.below hb)
        have HB8 := Lib.hid hB
        have HI8 := Lib.hid (HI.out.below hb)
        have HJ := Lib.hid (IntsIn.of_own hO rfl)
        clear hB hO hb HA7 HB7 HI
        go_wp2_with fail
        refine (same_yes HI8.out (P3 ▸ HJ.out) (by rw [q1]; omega)).mono ?_
        rintro r w9 ⟨rfl, k9, rfl⟩
        go_wp2
        go_roundw
        case rel => exact ⟨k + 1, by omega, by go_num, _, _, HA8.out.drewN _, HB8.out.drewN _, P3, by rw [q1]; exact ha12, by omega, by omega⟩
        case measure => simp [intOf]; omega
      · have hq : (ea == 0) = false := by simp [he]
        clear P2
        go_wp2_with fail
        refine (cctx_all HA6.out).mono ?_
        rintro r w7 ⟨v1, rfl, hO, hA, hb⟩
        have HB7 := Lib.hid (HB6.out.below hb)
        have HA7 := Lib.hid hA
        have HI := Lib.hid (IntsIn.of_own hO rfl)
        clear hA hO hb HA6 HB6
        go_wp2_with fail
        refine (cctx_all HB7.out).mono ?_
        rintro r w8 ⟨v2, rfl, hO, hB, hb⟩
        have HA8 := Lib.hid (HA7.out.below hb)
        have HB8 := Lib.hid hB
        have HI8 := Lib.hid (HI.out.below hb)
        have HJ := Lib.hid (IntsIn.of_own hO rfl)
        clear hB hO hb HA7 HB7 HI
        go_wp2_with fail
        refine (same_yes HI8.out (P3 ▸ HJ.out) (by rw [q1]; omega)).mono ?_
        rintro r w9 ⟨rfl, k9, rfl⟩
        go_wp2
        go_roundw
        case rel => exact ⟨k + 1, by omega, by go_num, _, _, HA8.out.drewN _, HB8.out.drewN _, P3, by rw [q1]; exact ha12, by omega, by omega⟩
        case measure => simp [intOf]; omega
    · obtain rfl : k = L.length := by omega
      have HAc := Lib.hid hA
      clear hA hB hlt hab
      go_wp2_with (go_at_call 19; refine (cctx_len HAc.out).mono ?_; rintro r w11 ⟨rfl, rfl⟩)
      go_ret
      exact ⟨rfl, HAc.out.bel⟩
theorem cellSame_law (A : Option Addr) (len cap : Nat) (l : List St) (W : World) (hs : StsIn W (.slice A len cap) l) (hlc : len ≤ cap) (hcap : cap ≤ maxLen) (hL : laidC W) :
    Calls Tryd.prog 6 #[.slice A len cap] W fun r w' => r = .returned (.bool true) ∧ Below W.heap.size W w' := law_cellSame A len cap l (err_of_laid hL) hs hlc hcap
end Go.Proofs.YtkamcjejongmbaaDoor
