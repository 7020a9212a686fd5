/- The register of three slots: the exported functions. -/
import Derived.Test.YtdhbiogcaekbbaaDoorTripleD
namespace Go.Proofs.YtdhbiogcaekbbaaDoor
open Go.RowKit

theorem clip_any {w : World} {v : Value} {l : List Int} (h : IntsIn w v l) :
    Calls Tryd.prog 38 #[v] w fun e w' => ∃ v', e = .returned v' ∧ FullIn w v' l ∧ (∀ g, v'.ownBlock = some g → v.ownBlock = some g) ∧ w = w' := by
  obtain ⟨A, c, rfl, hc, k⟩ := h
  have H := Lib.hid (show FullIn w (.slice A l.length l.length) l from ⟨⟨A, _, rfl, Nat.le_refl _, k⟩, A, rfl⟩)
  have b1 : (l.length : Int) ≤ (c : Int) := by omega
  have hown := Lib.hid (show ∀ g, (Value.slice A l.length l.length).ownBlock = some g → (Value.slice A l.length c).ownBlock = some g from fun g hg => by cases A <;> exact hg)
  clear k
  go_enter Tryd.func38, Tryd.ntmps38
  go_wp2
  go_ret
  exact ⟨_, rfl, H.out, hown.out, rfl⟩
theorem drop_w {w : World} {b mb lb : Nat} {s : TS} {vi vo : Value} {c : Int} (h : TAt w b mb lb s vi vo c) (hia : s.ia = 3) :
    Calls Tryd.prog 11 #[.pointer (some ⟨b, 0, none⟩), .bool true] w fun e w' => e = .returned (.bool true) ∧ TAt w' b mb lb { s with ia := 0 } vi vo c ∧ Only (regS b mb lb) w w' := by
  have HB := Lib.hid (busy_w h)
  rw [hia, show (((3 : Nat) : Int) != 0) = true from rfl] at HB
  have c2 := h.c2
  have f2 := h.r.fr 2
  have HT := Lib.hid (h.same 2 (.int .i64 0) (s' := { s with ia := 0 }) rfl rfl rfl rfl)
  have HO := Lib.hid (onl_set (S := regS b mb lb) (onl_refl _ w) (p := ⟨b, 2, none⟩) (.inl (.inl rfl)) (.int .i64 0))
  clear h hia
  go_enter Tryd.func11, Tryd.ntmps11
  go_wp2_with fail
  refine HB.out.mono ?_
  rintro e w' ⟨rfl, rfl⟩
  go_wp2_with fail
  refine (side_w b w).mono ?_
  rintro e w' ⟨rfl, rfl⟩
  go_wp2
  go_ret
  exact ⟨rfl, HT.out, HO.out⟩
theorem drop_w0 {w : World} {b mb lb : Nat} {s : TS} {vi vo : Value} {c : Int} (h : TAt w b mb lb s vi vo c) (hia : s.ia = 0) :
    Calls Tryd.prog 11 #[.pointer (some ⟨b, 0, none⟩), .bool true] w fun e w' => e = .returned (.bool false) ∧ w = w' := by
  have HB := Lib.hid (busy_w h)
  rw [hia, show (((0 : Nat) : Int) != 0) = false from rfl] at HB
  clear h hia
  go_enter Tryd.func11, Tryd.ntmps11
  go_wp2_with fail
  refine HB.out.mono ?_
  rintro e w' ⟨rfl, rfl⟩
  go_wp2
  go_ret
  exact ⟨rfl, rfl⟩
theorem drop_r {w : World} {b mb lb : Nat} {s : TS} {vi vo : Value} {c : Int} (h : TAt w b mb lb s vi vo c) (hoa : s.oa ≠ 0) :
    Calls Tryd.prog 11 #[.pointer (some ⟨b, 0, none⟩), .bool false] w fun e w' => e = .returned (.bool true) ∧ TAt w' b mb lb { s with oa := 0 } vi vo c ∧ Only (regS b mb lb) w w' := by
  have HB := Lib.hid (busy_r h)
  rw [show ((s.oa : Int) != 0) = true from by simp; omega] at HB
  have c6 := h.c6
  have f6 := h.r.fr 6
  have HT := Lib.hid (h.same 6 (.int .i64 0) (s' := { s with oa := 0 }) rfl rfl rfl rfl)
  have HO := Lib.hid (onl_set (S := regS b mb lb) (onl_refl _ w) (p := ⟨b, 6, none⟩) (.inl (.inl rfl)) (.int .i64 0))
  clear h hoa
  go_enter Tryd.func11, Tryd.ntmps11
  go_wp2_with fail
  refine HB.out.mono ?_
  rintro e w' ⟨rfl, rfl⟩
  go_wp2_with fail
  refine (side_r b w).mono ?_
  rintro e w' ⟨rfl, rfl⟩
  go_wp2
  go_ret
  exact ⟨rfl, HT.out, HO.out⟩
theorem drop_r0 {w : World} {b mb lb : Nat} {s : TS} {vi vo : Value} {c : Int} (h : TAt w b mb lb s vi vo c) (hoa : s.oa = 0) :
    Calls Tryd.prog 11 #[.pointer (some ⟨b, 0, none⟩), .bool false] w fun e w' => e = .returned (.bool false) ∧ w = w' := by
  have HB := Lib.hid (busy_r h)
  rw [hoa, show (((0 : Nat) : Int) != 0) = false from rfl] at HB
  clear h hoa
  go_enter Tryd.func11, Tryd.ntmps11
  go_wp2_with fail
  refine HB.out.mono ?_
  rintro e w' ⟨rfl, rfl⟩
  go_wp2
  go_ret
  exact ⟨rfl, rfl⟩
theorem drop_nil (x : Bool) (w : World) :
    Calls Tryd.prog 11 #[.pointer none, .bool x] w fun e w' => e = .returned (.bool false) ∧ w = w' := by
  go_enter Tryd.func11, Tryd.ntmps11
  go_wp2_with fail
  refine (busy_nil x w).mono ?_
  rintro e w' ⟨rfl, rfl⟩
  go_wp2
  go_ret
  exact ⟨rfl, rfl⟩
theorem own_w {w : World} {b mb lb : Nat} {s : TS} {vi vo : Value} {c : Int} (h : TAt w b mb lb s vi vo c) :
    Calls Tryd.prog 28 #[.pointer (some ⟨b, 0, none⟩), .bool true] w fun e w' => e = .returned (.int .i64 s.io) ∧ w = w' := by
  have c3 := h.c3
  clear h
  go_enter Tryd.func28, Tryd.ntmps28
  go_wp2_with fail
  refine (side_w b w).mono ?_
  rintro e w' ⟨rfl, rfl⟩
  go_wp2
  go_ret
  exact ⟨rfl, rfl⟩
theorem own_r {w : World} {b mb lb : Nat} {s : TS} {vi vo : Value} {c : Int} (h : TAt w b mb lb s vi vo c) :
    Calls Tryd.prog 28 #[.pointer (some ⟨b, 0, none⟩), .bool false] w fun e w' => e = .returned (.int .i64 s.oo) ∧ w = w' := by
  have c7 := h.c7
  clear h
  go_enter Tryd.func28, Tryd.ntmps28
  go_wp2_with fail
  refine (side_r b w).mono ?_
  rintro e w' ⟨rfl, rfl⟩
  go_wp2
  go_ret
  exact ⟨rfl, rfl⟩
theorem own_nil (x : Bool) (w : World) :
    Calls Tryd.prog 28 #[.pointer none, .bool x] w fun e w' => e = .returned (.int .i64 0) ∧ w = w' := by
  go_enter Tryd.func28, Tryd.ntmps28
  go_wp2
  go_ret
  exact ⟨rfl, rfl⟩
theorem words_any {w : World} {b mb lb : Nat} {s : TS} {vi vo : Value} {c : Int} (h : TAt w b mb lb s vi vo c) :
    Calls Tryd.prog 14 #[.pointer (some ⟨b, 0, none⟩)] w fun e w' => e = .returned (.int .i64 s.W) ∧ w = w' := by
  have c0 := h.c0
  clear h
  go_enter Tryd.func14, Tryd.ntmps14
  go_wp2
  go_ret
  exact ⟨rfl, rfl⟩
theorem words_nil (w : World) :
    Calls Tryd.prog 14 #[.pointer none] w fun e w' => e = .returned (.int .i64 0) ∧ w = w' := by
  go_enter Tryd.func14, Tryd.ntmps14
  go_wp2
  go_ret
  exact ⟨rfl, rfl⟩
theorem cells_any {w : World} {b mb lb : Nat} {s : TS} {vi vo : Value} {c : Int} (h : TAt w b mb lb s vi vo c) :
    Calls Tryd.prog 29 #[.pointer (some ⟨b, 0, none⟩)] w fun e w' => ∃ v', e = .returned v' ∧ w'.ownsRow w.heap.size 3 1 v' s.mem.length (nums s.mem) ∧ Below w.heap.size w w' := by
  have c1 := h.c1
  have HA := Lib.hid (all_any h.m)
  clear h
  go_enter Tryd.func29, Tryd.ntmps29
  go_wp2_with fail
  refine HA.out.mono ?_
  rintro e w' ⟨v', rfl, ho, hb⟩
  have HO := Lib.hid ho
  have HB := Lib.hid hb
  clear ho hb HA
  go_wp2
  go_ret
  exact ⟨_, rfl, HO.out, HB.out⟩
theorem cells_nil (w : World) :
    Calls Tryd.prog 29 #[.pointer none] w fun e w' => e = .returned (.slice none 0 0) ∧ w = w' := by
  go_enter Tryd.func29, Tryd.ntmps29
  go_wp2
  go_ret
  exact ⟨rfl, rfl⟩
theorem read_begin {w : World} {b mb lb : Nat} {s : TS} {vi vo : Value} {c : Int} (h : TAt w b mb lb s vi vo c) (hoa : s.oa = 0) :
    Calls Tryd.prog 17 #[.pointer (some ⟨b, 0, none⟩)] w fun e w' => e = .returned (.int .i64 0) ∧ TAt w' b mb lb { s with oa := 1, ol := [] } vi (.slice none 0 0) c ∧ Only (regS b mb lb) w w' := by
  have c6 := h.c6
  have c8 := h.c8
  have c9 := h.c9
  have f6 := h.r.fr 6
  have f8 := h.r.fr 8
  have f9 := h.r.fr 9
  rw [hoa, show ((0 : Nat) : Int) = 0 from rfl] at c6
  have hn : ∀ W, FullIn W (.slice none 0 0) [] := fun W => ⟨IntsIn.nil W, none, rfl⟩
  have hO : ∀ (W : World) (i : Nat) (u : Value), Only (fun k => k = b) W (W.setCell ⟨b, i, none⟩ u) := fun W i u => onl_set (S := fun k => k = b) (onl_refl _ W) (p := ⟨b, i, none⟩) (.inl rfl) u
  have HT := Lib.hid (show TAt (((w.setCell ⟨b, 6, none⟩ (.int .i64 1)).setCell ⟨b, 8, none⟩ (.slice none 0 0)).setCell ⟨b, 9, none⟩ (.int .i64 0)) b mb lb { s with oa := 1, ol := [] } vi (.slice none 0 0) c from by
    have hne := h.ne
    have hall := onl_trans (hO w 6 (.int .i64 1)) (onl_trans (hO _ 8 (.slice none 0 0)) (hO _ 9 (.int .i64 0)))
    exact ⟨((h.r.set 6 (.int .i64 1)).set 8 (.slice none 0 0)).set 9 (.int .i64 0), h.m.onl hall (fun e => hne.1 e.symm) (fun e => hne.2 e.symm), ints_onl h.il hall (fun g hg e => h.si g hg (.inl e)), hn _, h.sx, fun g hg => by simp [Value.ownBlock] at hg, Nat.lt_of_lt_of_le h.lx hall.size⟩)
  have HO := Lib.hid (onl_mono (T := regS b mb lb) (onl_trans (hO w 6 (.int .i64 1)) (onl_trans (hO _ 8 (.slice none 0 0)) (hO _ 9 (.int .i64 0)))) fun k e => .inl e)
  clear h hoa hn hO
  go_enter Tryd.func17, Tryd.ntmps17
  go_wp2
  go_ret
  exact ⟨rfl, HT.out, HO.out⟩
theorem read_busy {w : World} {b mb lb : Nat} {s : TS} {vi vo : Value} {c : Int} (h : TAt w b mb lb s vi vo c) (hoa : s.oa ≠ 0) :
    Calls Tryd.prog 17 #[.pointer (some ⟨b, 0, none⟩)] w fun e w' => e = .returned (.int .i64 1) ∧ w = w' := by
  have c6 := h.c6
  have hb : ((s.oa : Int) != 0) = true := by simp; omega
  clear h hoa
  go_enter Tryd.func17, Tryd.ntmps17
  go_wp2
  go_ret
  exact ⟨rfl, rfl⟩
theorem read_nil (w : World) :
    Calls Tryd.prog 17 #[.pointer none] w fun e w' => e = .returned (.int .i64 1) ∧ w = w' := by
  go_enter Tryd.func17, Tryd.ntmps17
  go_wp2
  go_ret
  exact ⟨rfl, rfl⟩
end Go.Proofs.YtdhbiogcaekbbaaDoor
