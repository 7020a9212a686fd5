/- The register of three slots: New; a step. -/
import Derived.Test.YtdhbiogcaekbbaaDoorTripleF
namespace Go.Proofs.YtdhbiogcaekbbaaDoor
open Go.RowKit

theorem step_idle_w {w : World} {b mb lb : Nat} {s : TS} {vi vo : Value} {c : Int} (h : TAt w b mb lb s vi vo c) (hia : s.ia = 0) :
    Calls Tryd.prog 18 #[.pointer (some ⟨b, 0, none⟩), .bool true] w fun e w' => e = .returned (.tuple #[.slice none 0 0, .bool false, .int .i64 2]) ∧ w = w' := by
  have HB := Lib.hid (busy_w h)
  rw [hia, show (((0 : Nat) : Int) != 0) = false from rfl] at HB
  clear h hia
  go_enter Tryd.func18, Tryd.ntmps18
  go_wp2_with fail
  refine HB.out.mono ?_
  rintro e w' ⟨rfl, rfl⟩
  go_wp2
  go_ret3
  exact ⟨rfl, rfl⟩
theorem step_idle_r {w : World} {b mb lb : Nat} {s : TS} {vi vo : Value} {c : Int} (h : TAt w b mb lb s vi vo c) (hoa : s.oa = 0) :
    Calls Tryd.prog 18 #[.pointer (some ⟨b, 0, none⟩), .bool false] w fun e w' => e = .returned (.tuple #[.slice none 0 0, .bool false, .int .i64 2]) ∧ w = w' := by
  have HB := Lib.hid (busy_r h)
  rw [hoa, show (((0 : Nat) : Int) != 0) = false from rfl] at HB
  clear h hoa
  go_enter Tryd.func18, Tryd.ntmps18
  go_wp2_with fail
  refine HB.out.mono ?_
  rintro e w' ⟨rfl, rfl⟩
  go_wp2
  go_ret3
  exact ⟨rfl, rfl⟩
theorem step_nil (x : Bool) (w : World) :
    Calls Tryd.prog 18 #[.pointer none, .bool x] w fun e w' => e = .returned (.tuple #[.slice none 0 0, .bool false, .int .i64 2]) ∧ w = w' := by
  go_enter Tryd.func18, Tryd.ntmps18
  go_wp2_with fail
  refine (busy_nil x w).mono ?_
  rintro e w' ⟨rfl, rfl⟩
  go_wp2
  go_ret3
  exact ⟨rfl, rfl⟩
theorem step_w_more {w : World} {b mb lb : Nat} {s : TS} {vi vo : Value} {c : Int} (h : TAt w b mb lb s vi vo c) (hk : s.ok) (hia : s.ia = 3) (hn : s.inn < s.W) (x : Int) (hx : s.il[s.inn]? = some x) :
    Calls Tryd.prog 18 #[.pointer (some ⟨b, 0, none⟩), .bool true] w fun e w' => e = .returned (.tuple #[.slice none 0 0, .bool false, .int .i64 0]) ∧
      TAt w' b mb lb { s with mem := s.mem.set (1 + s.io * s.W + s.inn) x, inn := s.inn + 1 } vi vo (wrap64 (c + 1)) ∧ Only (regS b mb lb) w w' := by
  have HB := Lib.hid (busy_w h)
  rw [hia, show (((3 : Nat) : Int) != 0) = true from rfl] at HB
  have HW := Lib.hid (write_more h hk hia hn x hx)
  clear h hk hia hn hx
  go_enter Tryd.func18, Tryd.ntmps18
  go_wp2_with fail
  refine HB.out.mono ?_
  rintro e w' ⟨rfl, rfl⟩
  go_wp2_with fail
  refine HW.out.mono ?_
  rintro e w' ⟨rfl, hT, hO⟩
  have HT := Lib.hid hT
  have HO := Lib.hid hO
  clear hT hO HW HB
  go_wp2
  go_ret3
  exact ⟨rfl, HT.out, HO.out⟩
theorem step_w_last {w : World} {b mb lb : Nat} {s : TS} {vi vo : Value} {c : Int} (h : TAt w b mb lb s vi vo c) (hk : s.ok) (hia : s.ia = 3) (hn : s.inn = s.W) (m : Nat) (hm : s.mem[0]? = some (m : Int)) :
    Calls Tryd.prog 18 #[.pointer (some ⟨b, 0, none⟩), .bool true] w fun e w' => e = .returned (.tuple #[.slice none 0 0, .bool true, .int .i64 0]) ∧
      TAt w' b mb lb { s with mem := s.mem.set 0 ((s.io + 4 : Nat) : Int), io := m % 4, ia := 0 } vi vo (wrap64 (c + 1)) ∧ Only (regS b mb lb) w w' := by
  have HB := Lib.hid (busy_w h)
  rw [hia, show (((3 : Nat) : Int) != 0) = true from rfl] at HB
  have HW := Lib.hid (write_last h hk hn m hm)
  have HIA := Lib.hid hia
  clear h hk hia hn hm
  go_enter Tryd.func18, Tryd.ntmps18
  go_wp2_with fail
  refine HB.out.mono ?_
  rintro e w' ⟨rfl, rfl⟩
  go_wp2_with fail
  refine HW.out.mono ?_
  rintro e w' ⟨rfl, hT, hO⟩
  have HD := Lib.hid (drop_w hT HIA.out)
  have HO := Lib.hid hO
  clear hT hO HW HB
  go_wp2_with fail
  refine HD.out.mono ?_
  rintro e w2 ⟨rfl, hT2, hO2⟩
  have HT2 := Lib.hid hT2
  have HO2 := Lib.hid (onl_trans HO.out hO2)
  clear hT2 hO2 HD HO
  go_wp2
  go_ret3
  exact ⟨rfl, HT2.out, HO2.out⟩

/-- the read's step, where read tells false and the words are s1's. -/
theorem clip_part {w : World} {b mb lb : Nat} {s : TS} {vi vo vo' : Value} {c : Int} (hr : Blk w b 72 (regCells s mb vi vo)) (hm : MemAt w mb lb s.mem c) (hil : IntsIn w vi s.il) (hsi : ∀ g, vi.ownBlock = some g → ¬ offS b mb lb s.x g)
    (hol : FullIn w vo' s.ol) (hso : ∀ g, vo'.ownBlock = some g → ¬ offS b mb lb s.x g) (hlx : s.x < w.heap.size) : TAt (w.setCell ⟨b, 8, none⟩ vo') b mb lb s vi vo' c := by
  have hO : Only (fun k => k = b) w (w.setCell ⟨b, 8, none⟩ vo') := onl_set (S := fun k => k = b) (onl_refl _ w) (p := ⟨b, 8, none⟩) (.inl rfl) vo'
  have hne : b ≠ mb ∧ b ≠ lb := ⟨hr.ne hm.m (by decide), hr.ne hm.d (by decide)⟩
  exact ⟨hr.set 8 vo', hm.onl hO (fun e => hne.1 e.symm) (fun e => hne.2 e.symm), ints_onl hil hO (fun g hg e => hsi g hg (.inl (.inl e))), full_onl hol hO (fun g hg e => hso g hg (.inl (.inl e))), hsi, hso, Nat.lt_of_lt_of_le hlx hO.size⟩
set_option maxHeartbeats 800000 in
theorem step_r_quiet {w : World} {b mb lb : Nat} {s s' : TS} {vi vo : Value} {c c' : Int} (h : TAt w b mb lb s vi vo c) (hoa : s.oa ≠ 0)
    (HR : Calls Tryd.prog 37 #[.pointer (some ⟨b, 0, none⟩)] w fun e w' => e = .returned (.bool false) ∧ TAt w' b mb lb s' vi vo c' ∧ Only (regS b mb lb) w w') :
    Calls Tryd.prog 18 #[.pointer (some ⟨b, 0, none⟩), .bool false] w fun e w' => e = .returned (.tuple #[.slice none 0 0, .bool false, .int .i64 0]) ∧
      ∃ vo', TAt w' b mb lb s' vi vo' c' ∧ Only (regS b mb lb) w w' := by
  have HB := Lib.hid (busy_r h)
  rw [show ((s.oa : Int) != 0) = true from by simp; omega] at HB
  have HR' := Lib.hid HR
  clear h hoa HR
  go_enter Tryd.func18, Tryd.ntmps18
  go_wp2_with fail
  refine HB.out.mono ?_
  rintro e w' ⟨rfl, rfl⟩
  go_wp2_with fail
  refine HR'.out.mono ?_
  rintro e w' ⟨rfl, hT, hO⟩
  have d8 := hT.c8
  have f8 := hT.r.fr 8
  have HC := Lib.hid (clip_any hT.ol.1)
  have HT := Lib.hid hT
  have HO := Lib.hid hO
  clear hT hO HR' HB
  go_wp2_with fail
  refine HC.out.mono ?_
  rintro e w2 ⟨vo', rfl, hF, hown, rfl⟩
  obtain ⟨A', rfl⟩ := hF.2
  have HT2 := Lib.hid (clip_part HT.out.r HT.out.m HT.out.il HT.out.sx hF (fun g hg => HT.out.sy g (hown g hg)) HT.out.lx)
  have HO2 := Lib.hid (onl_set (S := regS b mb lb) HO.out (p := ⟨b, 8, none⟩) (.inl (.inl rfl)) (.slice A' s'.ol.length s'.ol.length))
  clear hF hown HC
  go_wp2
  go_ret3
  exact ⟨rfl, _, HT2.out, HO2.out⟩
set_option maxHeartbeats 800000 in
theorem step_r_word {w : World} {b mb lb : Nat} {s : TS} {vi vo : Value} {c : Int} (h : TAt w b mb lb s vi vo c) (hk : s.ok) (hoa : s.oa = 3) (x : Int) (hx : s.mem[1 + s.oo * s.W + s.ol.length]? = some x) (hlt : s.ol.length + 1 < s.W) :
    Calls Tryd.prog 18 #[.pointer (some ⟨b, 0, none⟩), .bool false] w fun e w' => e = .returned (.tuple #[.slice none 0 0, .bool false, .int .i64 0]) ∧
      ∃ vo', TAt w' b mb lb { s with ol := s.ol ++ [x] } vi vo' (wrap64 (c + 1)) ∧ Only (regS b mb lb) w w' := by
  have HB := Lib.hid (busy_r h)
  rw [hoa, show (((3 : Nat) : Int) != 0) = true from rfl] at HB
  have HR := read_word h hk hoa x hx
  rw [show decide (s.ol.length + 1 = s.W) = false from by simp; omega] at HR
  have HR' := Lib.hid HR
  have HSI := Lib.hid (And.intro h.sx h.lx)
  clear h hoa HR hk hx hlt
  go_enter Tryd.func18, Tryd.ntmps18
  go_wp2_with fail
  refine HB.out.mono ?_
  rintro e w' ⟨rfl, rfl⟩
  go_wp2_with fail
  refine HR'.out.mono ?_
  rintro e w' ⟨rfl, v1, r1, r2, r3, r4, r5, hO⟩
  have d8 : w'.cell? ⟨b, 8, none⟩ = some v1 := (r2.cell 8).trans rfl
  have f8 := r2.fr 8
  have HC := Lib.hid (clip_any r1)
  have R2 := Lib.hid r2
  have R3 := Lib.hid r3
  have R4 := Lib.hid r4
  have R5 := Lib.hid r5
  have HO := Lib.hid hO
  clear hO HR' HB r1 r2 r3 r4 r5
  go_wp2_with fail
  refine HC.out.mono ?_
  rintro e w2 ⟨vo', rfl, hF, hown, rfl⟩
  obtain ⟨A', rfl⟩ := hF.2
  have hT2 := clip_part (s := { s with ol := s.ol ++ [x] }) R2.out R3.out R4.out HSI.out.1 hF (fun g hg => R5.out g (hown g hg)) (Nat.lt_of_lt_of_le HSI.out.2 HO.out.size)
  have hO2 := onl_set (S := regS b mb lb) HO.out (p := ⟨b, 8, none⟩) (.inl (.inl rfl)) (.slice A' (s.ol ++ [x]).length (s.ol ++ [x]).length)
  have eL : (s.ol ++ [x]).length = s.ol.length + 1 := by simp
  rw [eL] at hT2 hO2
  have HT2 := Lib.hid hT2
  have HO2 := Lib.hid hO2
  clear hF hown HC hT2 hO2 eL
  go_wp2
  go_ret3
  exact ⟨rfl, _, HT2.out, HO2.out⟩
set_option maxHeartbeats 1600000 in
theorem step_r_last {w : World} {b mb lb : Nat} {s : TS} {vi vo : Value} {c : Int} (h : TAt w b mb lb s vi vo c) (hk : s.ok) (hoa : s.oa = 3) (x : Int) (hx : s.mem[1 + s.oo * s.W + s.ol.length]? = some x) (hlt : s.ol.length + 1 = s.W) :
    Calls Tryd.prog 18 #[.pointer (some ⟨b, 0, none⟩), .bool false] w fun e w' => ∃ v, e = .returned (.tuple #[v, .bool true, .int .i64 0]) ∧
      ∃ vo', TAt w' b mb lb { s with ol := s.ol ++ [x], oa := 0 } vi vo' (wrap64 (c + 1)) ∧ Only (regS b mb lb) w w' ∧ IntsIn w' v (s.ol ++ [x]) ∧ ∀ g, v.ownBlock = some g → w.heap.size ≤ g := by
  have HB := Lib.hid (busy_r h)
  rw [hoa, show (((3 : Nat) : Int) != 0) = true from rfl] at HB
  have HR := read_word h hk hoa x hx
  rw [show decide (s.ol.length + 1 = s.W) = true from by simp; omega] at HR
  have HR' := Lib.hid HR
  have HSI := Lib.hid (And.intro h.sx h.lx)
  have hw6 := hk.w6
  have HOA := Lib.hid (show s.oa ≠ 0 by omega)
  clear h hoa HR hk hx
  have hl6 : s.ol.length + 1 ≤ 65536 := by omega
  clear hlt
  go_enter Tryd.func18, Tryd.ntmps18
  go_wp2_with fail
  refine HB.out.mono ?_
  rintro e w' ⟨rfl, rfl⟩
  go_wp2_with fail
  refine HR'.out.mono ?_
  rintro e w' ⟨rfl, v1, r1, r2, r3, r4, r5, hO⟩
  have d8 : w'.cell? ⟨b, 8, none⟩ = some v1 := (r2.cell 8).trans rfl
  have HCL := Lib.hid (clone_any r1 (by simp; omega))
  have hbl := r2.lt
  have hml := r3.m.lt
  have hll := r3.d.lt
  have hsz := hO.size
  have R1 := Lib.hid r1
  have R2 := Lib.hid r2
  have R3 := Lib.hid r3
  have R4 := Lib.hid r4
  have R5 := Lib.hid r5
  have HO := Lib.hid hO
  clear hO HR' HB r1 r2 r3 r4 r5
  go_wp2_with fail
  refine HCL.out.mono ?_
  rintro e w2 ⟨v, rfl, ho, hb⟩
  obtain ⟨A, cc, rfl⟩ := own_form ho
  have e8 : w2.cell? ⟨b, 8, none⟩ = some v1 := (hb.cell (p := ⟨b, 8, none⟩) hbl).trans d8
  have f8 : w2.frozen? ⟨b, 8, none⟩ = false := (hb.frozen (p := ⟨b, 8, none⟩) hbl).trans (R2.out.fr 8)
  have HC := Lib.hid (clip_any (R1.out.below hb))
  have HOWN := Lib.hid ho
  have HB2 := Lib.hid hb
  clear ho hb HCL d8
  go_wp2_with fail
  refine HC.out.mono ?_
  rintro e w3 ⟨vo', rfl, hF, hown, rfl⟩
  obtain ⟨A', rfl⟩ := hF.2
  have hT2 := clip_part (s := { s with ol := s.ol ++ [x] }) (R2.out.below HB2.out hbl) (R3.out.onl (S := fun _ => False) (onl_below HB2.out) id id) (R4.out.below HB2.out) HSI.out.1 hF (fun g hg => R5.out g (hown g hg)) (Nat.lt_of_lt_of_le HSI.out.2 (onl_trans HO.out (onl_below (S := regS b mb lb) HB2.out)).size)
  have hO2 := onl_set (S := regS b mb lb) (onl_trans HO.out (onl_below HB2.out)) (p := ⟨b, 8, none⟩) (.inl (.inl rfl)) (.slice A' (s.ol ++ [x]).length (s.ol ++ [x]).length)
  have hO3 : Only (fun k => k = b) w2 (w2.setCell ⟨b, 8, none⟩ (.slice A' (s.ol ++ [x]).length (s.ol ++ [x]).length)) := onl_set (S := fun k => k = b) (onl_refl _ w2) (p := ⟨b, 8, none⟩) (.inl rfl) _
  have hIn := ints_onl (IntsIn.of_own HOWN.out rfl) hO3 (fun g hg e => by have := (HOWN.out.lt g hg).1; omega)
  have hge : ∀ g, (Value.slice A (s.ol ++ [x]).length cc).ownBlock = some g → w.heap.size ≤ g := fun g hg => by have := (HOWN.out.lt g hg).1; omega
  have eL : (s.ol ++ [x]).length = s.ol.length + 1 := by simp
  rw [eL] at hT2 hO2 hIn hge
  have HD := Lib.hid (drop_r hT2 HOA.out)
  have HO2 := Lib.hid hO2
  have HIN := Lib.hid hIn
  have HGE := Lib.hid hge
  have HLT := Lib.hid (show ∀ g, (Value.slice A (s.ol.length + 1) cc).ownBlock = some g → ¬ regS b mb lb g from fun g hg e => by
    have := (HOWN.out.lt g (by rw [eL]; exact hg)).1
    unfold regS at e
    omega)
  clear hF hown HC hT2 hO2 eL hO3 hIn hge
  go_wp2_with fail
  refine HD.out.mono ?_
  rintro e w4 ⟨rfl, hT4, hO4⟩
  have HT4 := Lib.hid hT4
  have HO4 := Lib.hid (onl_trans HO2.out hO4)
  have HIN4 := Lib.hid (ints_onl HIN.out hO4 HLT.out)
  clear hT4 hO4 HD HO2 HIN
  go_wp2
  go_ret3
  exact ⟨_, rfl, _, HT4.out, HO4.out, HIN4.out, HGE.out⟩
end Go.Proofs.YtdhbiogcaekbbaaDoor
