/- A memory as the laws see it; lives. -/
import Derived.Test.YtkamcjejongmbaaDoorCellC
namespace Go.Proofs.YtkamcjejongmbaaDoor
open Go.RowKit

/-- A memory made by the law itself, above all that was there. -/
structure CCtx (W w : World) (mb lb : Nat) (s : CS) : Prop where
  at_ : MemAt w mb lb s.l s.c
  err : ErrT W
  bel : Below W.heap.size W w
  ge1 : W.heap.size ≤ mb
  ge2 : W.heap.size ≤ lb
section
variable {W w w' : World} {mb lb : Nat} {s : CS}
theorem CCtx.errT (h : CCtx W w mb lb s) : ErrT w := (h.bel.cell (p := ⟨0, 0, none⟩) (World.block_lt_of_cell? _ _ h.err)).trans h.err
theorem CCtx.only {s' : CS} (h : CCtx W w mb lb s) (hM : MemAt w' mb lb s'.l s'.c) (hO : Only (memS mb lb) w w') : CCtx W w' mb lb s' :=
  ⟨hM, h.err, below_onl h.bel hO h.bel.size (by have := h.ge1; have := h.ge2; rintro k (rfl | rfl) <;> assumption), h.ge1, h.ge2⟩
theorem CCtx.below (h : CCtx W w mb lb s) (hb : Below w.heap.size w w') : CCtx W w' mb lb s :=
  ⟨⟨h.at_.m.below hb h.at_.m.lt, h.at_.d.below hb h.at_.d.lt, h.at_.le⟩, h.err, h.bel.trans (hb.mono h.bel.size), h.ge1, h.ge2⟩
theorem CCtx.drewN (h : CCtx W w mb lb s) (n : Nat) : CCtx W (w.drewN n) mb lb s := h.below (below_drewN' w n)
theorem CCtx.drew (h : CCtx W w mb lb s) : CCtx W w.drew mb lb s := h.below (Below.refl _ _).drew
/-- Another object, of the law's own, has turned. -/
theorem CCtx.other {S : Nat → Prop} (h : CCtx W w mb lb s) (hO : Only S w w') (h1 : ¬ S mb) (h2 : ¬ S lb) (hs : ∀ k, S k → W.heap.size ≤ k) : CCtx W w' mb lb s :=
  ⟨h.at_.onl hO h1 h2, h.err, below_onl h.bel hO h.bel.size hs, h.ge1, h.ge2⟩
theorem cctx_new (hE : ErrT W) (h : Below W.heap.size W w) (n : Nat) (hn : n ≤ 4096) :
    Calls Tryd.prog 14 #[.int .i64 n] w fun r w' => r = .returned (.pointer (some ⟨w.heap.size + 1, 0, none⟩)) ∧ CCtx W w' (w.heap.size + 1) w.heap.size ⟨List.replicate n 0, 0⟩ ∧ Below w.heap.size w w' :=
  (mnew_any n w hn).mono fun _ _ ⟨hr, hM, hB⟩ => ⟨hr, ⟨hM, hE, h.trans (hB.mono h.size), by have := h.size; omega, h.size⟩, hB⟩
theorem cctx_read (h : CCtx W w mb lb s) (hc : s.c < 4611686018427387904) (i : Int) :
    Calls Tryd.prog 22 #[.pointer (some ⟨mb, 0, none⟩), .int .i64 i] w fun e w' => e = .returned (.tuple #[.int .i64 (s.read i).2.1, .int .i64 (s.read i).2.2]) ∧ CCtx W w' mb lb (s.read i).1 ∧ Only (memS mb lb) w w' :=
  (cread_any h.at_ h.errT hc i).mono fun _ _ ⟨hr, hM, hO⟩ => ⟨hr, h.only hM hO, hO⟩
theorem cctx_swap (h : CCtx W w mb lb s) (hc : s.c < 4611686018427387904) (i v : Int) :
    Calls Tryd.prog 21 #[.pointer (some ⟨mb, 0, none⟩), .int .i64 i, .int .i64 v] w fun e w' => e = .returned (.tuple #[.int .i64 (s.swap i v).2.1, .int .i64 (s.swap i v).2.2]) ∧ CCtx W w' mb lb (s.swap i v).1 ∧ Only (memS mb lb) w w' :=
  (cswap_any h.at_ h.errT hc i v).mono fun _ _ ⟨hr, hM, hO⟩ => ⟨hr, h.only hM hO, hO⟩
theorem cctx_write (h : CCtx W w mb lb s) (hc : s.c < 4611686018427387904) (i v : Int) :
    Calls Tryd.prog 15 #[.pointer (some ⟨mb, 0, none⟩), .int .i64 i, .int .i64 v] w fun e w' => e = .returned (.int .i64 (s.swap i v).2.2) ∧ CCtx W w' mb lb (s.swap i v).1 ∧ Only (memS mb lb) w w' :=
  (cwrite_any h.at_ h.errT hc i v).mono fun _ _ ⟨hr, hM, hO⟩ => ⟨hr, h.only hM hO, hO⟩
theorem cctx_reset (h : CCtx W w mb lb s) (a k : Int) (hk : -9223372036854775808 ≤ k ∧ k ≤ 9223372036854775807) (ha : -9223372036854775808 ≤ a ∧ a ≤ 9223372036854775807) :
    Calls Tryd.prog 29 #[.pointer (some ⟨mb, 0, none⟩), .int .i64 a, .int .i64 k] w fun e w' => e = .returned (.int .i64 (s.reset a k).2) ∧ CCtx W w' mb lb (s.reset a k).1 ∧ Only (memS mb lb) w w' :=
  (creset_any h.at_ a k hk ha).mono fun _ _ ⟨hr, hM, hO⟩ => ⟨hr, h.only hM hO, hO⟩
theorem cctx_len (h : CCtx W w mb lb s) : Calls Tryd.prog 19 #[.pointer (some ⟨mb, 0, none⟩)] w fun e w' => e = .returned (.int .i64 s.l.length) ∧ w = w' := mlen_any h.at_
theorem cctx_count (h : CCtx W w mb lb s) : Calls Tryd.prog 17 #[.pointer (some ⟨mb, 0, none⟩)] w fun e w' => e = .returned (.int .i64 s.c) ∧ w = w' := mcount_any h.at_
theorem cctx_all (h : CCtx W w mb lb s) : Calls Tryd.prog 16 #[.pointer (some ⟨mb, 0, none⟩)] w fun e w' => ∃ v, e = .returned v ∧ w'.ownsRow w.heap.size 3 1 v s.l.length (nums s.l) ∧ CCtx W w' mb lb s ∧ Below w.heap.size w w' :=
  (all_any h.at_).mono fun _ _ ⟨v, hr, hO, hB⟩ => ⟨v, hr, hO, h.below hB, hB⟩
end
theorem why_75 : whyB 7 5 = ⟨#[114, 97, 110, 103, 101, 32, 97, 116, 32, 53]⟩ := by
  have e : numB 5 = ⟨#[53]⟩ := by simp [numB, Lib.itoa, Lib.decDigits]
  simp only [whyB, faultB, e]
  rfl
set_option maxRecDepth 100000 in
set_option maxHeartbeats 3200000 in
theorem lives_any {W w : World} (hE : ErrT W) (hw : Below W.heap.size W w) : Calls Tryd.prog 11 #[] w fun r w' => r = .returned (.bool true) ∧ Below W.heap.size W w' := by
  have HY := Lib.hid (fun w' => why_any (w := w') 7 5 (by omega) (itoa_small w' 5 (by omega) (by omega)))
  rw [why_75] at HY
  have HN := Lib.hid (cctx_new hE hw 3 (by omega))
  go_enter Tryd.func11, Tryd.ntmps11
  go_wp2_with fail
  refine HN.out.mono ?_
  rintro r w1 ⟨rfl, hC, -⟩
  clear HN
  generalize w.heap.size + 1 = mb at *
  generalize w.heap.size = lb at *
  have HC := Lib.hid hC
  clear hC
  go_wp2_with fail
  refine (cctx_write HC.out (by decide) 2 7).mono ?_
  rw [show CS.swap ⟨List.replicate 3 0, 0⟩ 2 7 = (⟨[0, 0, 7], 1⟩, 0, 0) from rfl]
  rintro r w2 ⟨rfl, hC, -⟩
  clear HC
  have HC := Lib.hid hC
  clear hC
  go_wp2_with fail
  refine (cctx_swap HC.out (by decide) 2 9).mono ?_
  rw [show CS.swap ⟨[0, 0, 7], 1⟩ 2 9 = (⟨[0, 0, 9], 2⟩, 7, 0) from rfl]
  rintro r w3 ⟨rfl, hC, -⟩
  clear HC
  have HC := Lib.hid hC
  clear hC
  go_wp2_with fail
  refine (cctx_read HC.out (by decide) 2).mono ?_
  rw [show CS.read ⟨[0, 0, 9], 2⟩ 2 = (⟨[0, 0, 9], 3⟩, 9, 0) from rfl]
  rintro r w4 ⟨rfl, hC, -⟩
  clear HC
  have HC := Lib.hid hC
  clear hC
  go_wp2_with (first | (go_at_call 17; refine (cctx_count HC.out).mono ?_; rintro e w' ⟨rfl, rfl⟩) | (go_at_call 12; refine (HY.out _).mono ?_; rintro e w5 ⟨rfl, hb⟩; have HB := Lib.hid hb; clear hb))
  go_ret
  exact ⟨rfl, HC.out.bel.trans (HB.out.mono HC.out.bel.size)⟩
end Go.Proofs.YtkamcjejongmbaaDoor
