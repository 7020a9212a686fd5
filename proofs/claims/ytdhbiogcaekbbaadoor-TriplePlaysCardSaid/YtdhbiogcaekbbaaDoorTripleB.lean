/- The register of three slots: its functions' contracts (2). -/
import Derived.Test.YtdhbiogcaekbbaaDoorTriple
import Derived.Deep.RegionHeld3
import Derived.Deep.RegionLawGrows
namespace Go.Proofs.YtdhbiogcaekbbaaDoor
open Go.RowKit

theorem TAt.upd {w : World} {b mb lb : Nat} {s s' : TS} {vi vo vi' vo' : Value} {c : Int} (h : TAt w b mb lb s vi vo c) (i : Nat) (u : Value) (hr : (regCells s mb vi vo).setIfInBounds i u = regCells s' mb vi' vo')
    (hm : s'.mem = s.mem) (hil : IntsIn w vi' s'.il) (hol : FullIn w vo' s'.ol) (hsi : ∀ g, vi'.ownBlock = some g → ¬ offS b mb lb s'.x g) (hso : ∀ g, vo'.ownBlock = some g → ¬ offS b mb lb s'.x g) (hxe : s'.x = s.x) :
    TAt (w.setCell ⟨b, i, none⟩ u) b mb lb s' vi' vo' c := by
  have hO : Only (fun k => k = b) w (w.setCell ⟨b, i, none⟩ u) := onl_set (S := fun k => k = b) (onl_refl _ w) (p := ⟨b, i, none⟩) (.inl rfl) u
  have hb := h.r.set i u
  rw [hr] at hb
  have hne := h.ne
  refine ⟨hb, ?_, ints_onl hil hO (fun g hg e => hsi g hg (.inl (.inl e))), full_onl hol hO (fun g hg e => hso g hg (.inl (.inl e))), hsi, hso, by rw [hxe]; exact Nat.lt_of_lt_of_le h.lx hO.size⟩
  rw [hm]
  exact h.m.onl hO (fun e => hne.1 e.symm) (fun e => hne.2 e.symm)
/-- The same field by field. -/
theorem TAt.same {w : World} {b mb lb : Nat} {s s' : TS} {vi vo : Value} {c : Int} (h : TAt w b mb lb s vi vo c) (i : Nat) (u : Value) (hr : (regCells s mb vi vo).setIfInBounds i u = regCells s' mb vi vo)
    (hm : s'.mem = s.mem) (hil : s'.il = s.il) (hol : s'.ol = s.ol) (hxe : s'.x = s.x := by rfl) : TAt (w.setCell ⟨b, i, none⟩ u) b mb lb s' vi vo c :=
  h.upd i u hr hm (by rw [hil]; exact h.il) (by rw [hol]; exact h.ol) (by rw [hxe]; exact h.sx) (by rw [hxe]; exact h.sy) hxe
/-- Behind an access of the memory. -/
theorem TAt.mem_ {w w' : World} {b mb lb : Nat} {s : TS} {vi vo : Value} {c c' : Int} (h : TAt w b mb lb s vi vo c) {l : List Int} (hm : MemAt w' mb lb l c') (hO : Only (memS mb lb) w w') : TAt w' b mb lb { s with mem := l } vi vo c' := by
  have hne := h.ne
  refine ⟨blk_onl h.r hO (fun e => e.elim hne.1 hne.2), hm, ints_onl h.il hO (fun g hg e => h.si g hg (.inr e)), full_onl h.ol hO (fun g hg e => h.so g hg (.inr e)), h.sx, h.sy, Nat.lt_of_lt_of_le h.lx hO.size⟩

theorem TAt.drewN {w : World} {b mb lb : Nat} {s : TS} {vi vo : Value} {c : Int} (h : TAt w b mb lb s vi vo c) (n : Nat) : TAt (w.drewN n) b mb lb s vi vo c := h.below (below_drewN' w n)
theorem TAt.drew {w : World} {b mb lb : Nat} {s : TS} {vi vo : Value} {c : Int} (h : TAt w b mb lb s vi vo c) : TAt w.drew b mb lb s vi vo c := h.below (Below.refl _ w).drew

/-- The bounds that hold throughout. -/
structure TS.ok (s : TS) : Prop where
  w1 : 1 ≤ s.W
  w6 : s.W ≤ 6
  len : s.mem.length = 1 + 3 * s.W
  io : s.io ≤ 2
  oo : s.oo ≤ 2
  ia : s.ia = 0 ∨ s.ia = 3
  il : s.ia = 3 → s.il.length = s.W ∧ s.inn ≤ s.W ∧ ∀ v ∈ s.il, 0 ≤ v ∧ v ≤ 2147483647
  oa : s.oa ≤ 3
  ol : s.oa = 3 → s.ol.length < s.W
  ol' : s.ol.length ≤ s.W
  mid : ∃ m : Nat, s.mem[0]? = some (m : Int) ∧ m ≤ 6 ∧ m % 4 ≤ 2

set_option maxHeartbeats 800000 in
theorem swap_any {w : World} {b mb lb : Nat} {l : List Int} {c : Int} (hM : MemAt w mb lb l c) (hb1 : b ≠ mb) (hb2 : b ≠ lb) (c1 : w.cell? ⟨b, 1, none⟩ = some (.pointer (some ⟨mb, 0, none⟩)))
    (off : Nat) (x : Nat) (c3 : w.cell? ⟨b, off + 1, none⟩ = some (.int .i64 x)) (f3 : w.frozen? ⟨b, off + 1, none⟩ = false) (hx : x ≤ 2) (more : Nat) (hmore : more ≤ 4) (m : Nat) (hl0 : 0 < l.length) (hm : l[0] = (m : Int)) :
    Calls Tryd.prog 42 #[.pointer (some ⟨b, 0, none⟩), .pointer (some ⟨b, off, none⟩), .int .i64 more] w fun e w' =>
      e = .returned (.tuple #[]) ∧ ∃ w1, MemAt w1 mb lb (l.set 0 ((x + more : Nat) : Int)) (wrap64 (c + 1)) ∧ Only (memS mb lb) w w1 ∧ w' = w1.setCell ⟨b, off + 1, none⟩ (.int .i64 ((m % 4 : Nat) : Int)) := by
  have hMd : MemAt w.drew mb lb l c := hM.onl (S := fun _ => False) (onl_below (Below.refl _ w).drew) id id
  have HS := Lib.hid (swap_ok hMd 0 ((x : Int) + (more : Int)) hl0 (by omega) (by omega))
  rw [hm, show ((0 : Nat) : Int) = 0 from rfl] at HS
  have hnb := Lib.hid (show ¬ memS mb lb b from fun e => e.elim hb1 hb2)
  have hm0 : 0 ≤ (m : Int) := by omega
  clear hM hMd hm hl0 hb1 hb2
  have hw1 : IntKind.i64.wrap ((x : Int) + (more : Int)) = (x : Int) + (more : Int) := by rw [IntKind.wrap_i64]; omega
  go_enter Tryd.func42, Tryd.ntmps42
  go_wp2_with fail
  go_region_held3 (fun w' => w'.cell? ⟨b, 1, none⟩ = some (.pointer (some ⟨mb, 0, none⟩)) ∧ w'.cell? ⟨b, off + 1, none⟩ = some (.int .i64 x)) (go_keep) ((go_at_call 44; refine (HS.out).mono ?_; rintro e w' ⟨rfl, hM, hO⟩; have k1 := cell_onl (w := w.drew) c1 hO hnb.out; have k3 := cell_onl (w := w.drew) c3 hO hnb.out; have HM := Lib.hid hM; have HO := Lib.hid hO; clear hM hO))
  have f3' : w'.frozen? ⟨b, off + 1, none⟩ = false := (World.frozen?_of_block (a := ⟨b, off + 1, none⟩) (HO.out.block b (World.block_lt_of_cell? _ _ c1) hnb.out)).trans f3
  go_wp2
  go_end0
  refine ⟨rfl, w', ?_, ⟨HO.out.os, HO.out.tape, HO.out.output, HO.out.size, HO.out.block⟩, rfl⟩
  exact HM.out
theorem swap_w {w : World} {b mb lb : Nat} {s : TS} {vi vo : Value} {c : Int} (h : TAt w b mb lb s vi vo c) (hk : s.ok) (m : Nat) (hm : s.mem[0]? = some (m : Int)) :
    Calls Tryd.prog 42 #[.pointer (some ⟨b, 0, none⟩), .pointer (some ⟨b, 2, none⟩), .int .i64 4] w fun e w' =>
      e = .returned (.tuple #[]) ∧ TAt w' b mb lb { s with mem := s.mem.set 0 ((s.io + 4 : Nat) : Int), io := m % 4 } vi vo (wrap64 (c + 1)) ∧ Only (regS b mb lb) w w' := by
  have hl0 : 0 < s.mem.length := by rw [hk.len]; omega
  have hg0 : s.mem[0] = (m : Int) := by rw [List.getElem?_eq_getElem hl0] at hm; exact Option.some.inj hm
  refine (swap_any h.m h.ne.1 h.ne.2 h.c1 2 s.io h.c3 (h.r.fr _) hk.io 4 (by omega) m hl0 hg0).mono ?_
  rintro e w' ⟨rfl, w1, hM, hO, rfl⟩
  exact ⟨rfl, (h.mem_ hM hO).same 3 _ rfl rfl rfl rfl, onl_set (onl_mono hO fun k e => .inr e) (p := ⟨b, 3, none⟩) (.inl (.inl rfl)) _⟩
theorem swap_r {w : World} {b mb lb : Nat} {s : TS} {vi vo : Value} {c : Int} (h : TAt w b mb lb s vi vo c) (hk : s.ok) (m : Nat) (hm : s.mem[0]? = some (m : Int)) :
    Calls Tryd.prog 42 #[.pointer (some ⟨b, 0, none⟩), .pointer (some ⟨b, 6, none⟩), .int .i64 0] w fun e w' =>
      e = .returned (.tuple #[]) ∧ TAt w' b mb lb { s with mem := s.mem.set 0 (s.oo : Int), oo := m % 4 } vi vo (wrap64 (c + 1)) ∧ Only (regS b mb lb) w w' := by
  have hl0 : 0 < s.mem.length := by rw [hk.len]; omega
  have hg0 : s.mem[0] = (m : Int) := by rw [List.getElem?_eq_getElem hl0] at hm; exact Option.some.inj hm
  refine (swap_any h.m h.ne.1 h.ne.2 h.c1 6 s.oo h.c7 (h.r.fr _) hk.oo 0 (by omega) m hl0 hg0).mono ?_
  rintro e w' ⟨rfl, w1, hM, hO, rfl⟩
  exact ⟨rfl, (h.mem_ hM hO).same 7 _ rfl rfl rfl rfl, onl_set (onl_mono hO fun k e => .inr e) (p := ⟨b, 7, none⟩) (.inl (.inl rfl)) _⟩
theorem cell_any {w : World} {b : Nat} (off W x n : Nat) (c0 : w.cell? ⟨b, 0, none⟩ = some (.int .i64 W)) (c1 : w.cell? ⟨b, off + 1, none⟩ = some (.int .i64 x)) (c3 : w.cell? ⟨b, off + 3, none⟩ = some (.int .i64 n)) (hW : W ≤ 6) (hx : x ≤ 2) (hn : n ≤ 6) :
    Calls Tryd.prog 41 #[.pointer (some ⟨b, 0, none⟩), .pointer (some ⟨b, off, none⟩)] w fun e w' => e = .returned (.int .i64 ((1 + x * W + n : Nat) : Int)) ∧ ∃ q, w' = w.drewN q := by
  have hp : x * W ≤ 12 := Nat.mul_le_mul hx hW
  have e1 := Lib.hid (show (x : Int) * (W : Int) = ((x * W : Nat) : Int) by rw [Int.natCast_mul])
  generalize x * W = p at *
  have w1 : IntKind.i64.wrap ((x : Int) * (W : Int)) = (p : Int) := by rw [e1.out, IntKind.wrap_i64]; omega
  have w2 : IntKind.i64.wrap (1 + (p : Int)) = 1 + (p : Int) := by rw [IntKind.wrap_i64]; omega
  have w3 : IntKind.i64.wrap (1 + (p : Int) + (n : Int)) = 1 + (p : Int) + (n : Int) := by rw [IntKind.wrap_i64]; omega
  clear hW hx hn hp
  go_enter Tryd.func41, Tryd.ntmps41
  go_wp2_with fail
  go_quiet (fail)
  go_wp2
  go_ret
  exact ⟨by simp, _, rfl⟩
end Go.Proofs.YtdhbiogcaekbbaaDoor
