/- The register of three slots: the accesses of a write and of a read. -/
import Derived.Test.YtdhbiogcaekbbaaDoorTripleB
namespace Go.Proofs.YtdhbiogcaekbbaaDoor
open Go.RowKit

theorem MemAt.heap {w w' : World} {mb lb : Nat} {l : List Int} {c : Int} (h : MemAt w mb lb l c) (hk : w'.heap = w.heap) : MemAt w' mb lb l c :=
  ⟨h.m.of (by rw [hk]), h.d.of (by rw [hk]), h.le⟩
theorem ints_heap {w w' : World} {v : Value} {l : List Int} (h : IntsIn w v l) (hk : w'.heap = w.heap) : IntsIn w' v l := h.keep fun g _ => by rw [hk]
theorem TAt.heap {w w' : World} {b mb lb : Nat} {s : TS} {vi vo : Value} {c : Int} (h : TAt w b mb lb s vi vo c) (hk : w'.heap = w.heap) : TAt w' b mb lb s vi vo c :=
  ⟨h.r.of (by rw [hk]), h.m.heap hk, ints_heap h.il hk, ⟨ints_heap h.ol.1 hk, h.ol.2⟩, h.sx, h.sy, by rw [hk]; exact h.lx⟩

set_option maxRecDepth 100000 in
set_option maxHeartbeats 1600000 in
theorem write_more {w : World} {b mb lb : Nat} {s : TS} {vi vo : Value} {c : Int} (h : TAt w b mb lb s vi vo c) (hk : s.ok) (hia : s.ia = 3) (hn : s.inn < s.W) (x : Int) (hx : s.il[s.inn]? = some x) :
    Calls Tryd.prog 36 #[.pointer (some ⟨b, 0, none⟩)] w fun e w' =>
      e = .returned (.bool false) ∧ TAt w' b mb lb { s with mem := s.mem.set (1 + s.io * s.W + s.inn) x, inn := s.inn + 1 } vi vo (wrap64 (c + 1)) ∧ Only (regS b mb lb) w w' := by
  obtain ⟨hil, _, hvals⟩ := hk.il hia
  have hx' := hvals x (List.mem_of_getElem? hx)
  have hil' : s.inn < s.il.length := by omega
  have hxe : s.il[s.inn] = x := by rw [List.getElem?_eq_getElem hil'] at hx; exact Option.some.inj hx
  obtain ⟨A, cp, rfl, hlc, hcells⟩ := h.il
  obtain ⟨g, o, rfl, hcell⟩ := hcells (by omega)
  have ce := hcell s.inn hil'
  rw [hxe] at ce
  have hg := Lib.hid (h.si g rfl)
  have c0 := h.c0
  have c1 := h.c1
  have c3 := h.c3
  have c4 := h.c4
  have c5 := h.c5
  have hW := hk.w6
  have hio := hk.io
  have hlen := hk.len
  have hp : s.io * s.W ≤ 2 * s.W := Nat.mul_le_mul hio (Nat.le_refl _)
  have hHT := Lib.hid h
  have HW : ∀ W', W'.heap = w.heap → Calls Tryd.prog 40 #[.pointer (some ⟨mb, 0, none⟩), .int .i64 ((1 + s.io * s.W + s.inn : Nat) : Int), .int .i64 x] W' fun e w' =>
      e = .returned (.int .i64 0) ∧ MemAt w' mb lb (s.mem.set (1 + s.io * s.W + s.inn) x) (wrap64 (c + 1)) ∧ Only (memS mb lb) W' w' :=
    fun W' hW' => write_ok (h.m.heap hW') (1 + s.io * s.W + s.inn) x (by rw [hlen]; omega) hx'.1 hx'.2
  have HW' := Lib.hid HW
  have HC := Lib.hid (show ∀ W', W'.heap = w.heap → Calls Tryd.prog 41 #[.pointer (some ⟨b, 0, none⟩), .pointer (some ⟨b, 2, none⟩)] W' fun e w' => e = .returned (.int .i64 ((1 + s.io * s.W + s.inn : Nat) : Int)) ∧ ∃ q, w' = W'.drewN q from
    fun W' hW' => cell_any 2 s.W s.io s.inn (cell_heap h.c0 hW') (cell_heap h.c3 hW') (cell_heap h.c5 hW') hk.w6 hk.io (by have := hk.w6; omega))
  have b1 : (s.inn : Int) < (s.W : Int) := by omega
  have b2 : (s.inn : Int) < (s.il.length : Int) := by omega
  have b3 : (0 : Int) ≤ (s.inn : Int) := by omega
  have hn6 : s.inn ≤ 6 := by omega
  have hnb := Lib.hid (show ¬ memS mb lb b from fun e => e.elim h.ne.1 h.ne.2)
  have hng := Lib.hid (show ¬ memS mb lb g from fun e => hg.out (.inr e))
  have hw1 : IntKind.i64.wrap ((s.inn : Int) + 1) = (s.inn : Int) + 1 := by rw [IntKind.wrap_i64]; omega
  clear HW h hcells hcell hx hx' hxe hil hvals hlen hp hk hia hil' hlc
  go_enter Tryd.func36, Tryd.ntmps36
  go_wp2_with fail
  go_quiet (fail)
  go_wp2_with fail
  go_region_held3 (fun w' => w'.cell? ⟨b, 0, none⟩ = some (.int .i64 s.W) ∧ w'.cell? ⟨b, 1, none⟩ = some (.pointer (some ⟨mb, 0, none⟩)) ∧ w'.cell? ⟨b, 3, none⟩ = some (.int .i64 s.io) ∧ w'.cell? ⟨b, 4, none⟩ = some (.slice (some ⟨g, o, none⟩) s.il.length cp) ∧ w'.cell? ⟨b, 5, none⟩ = some (.int .i64 s.inn) ∧ w'.cell? ⟨g, o + s.inn, none⟩ = some (.int .i64 x)) (go_keep)
    (first
      | (go_at_call 41; refine (HC.out _ (by rfl)).mono ?_; rintro e w' ⟨rfl, q, rfl⟩)
      | (go_at_call 40; refine (HW'.out _ (by rfl)).mono ?_; rintro e w' ⟨rfl, hM, hO⟩; have hO' := onl_heap (a := w) hO rfl rfl rfl rfl; have k0 := cell_onl c0 hO' hnb.out; have k1 := cell_onl c1 hO' hnb.out; have k3 := cell_onl c3 hO' hnb.out; have k4 := cell_onl c4 hO' hnb.out; have k5 := cell_onl c5 hO' hnb.out; have k6 := cell_onl ce hO' hng.out; have HM := Lib.hid hM; have HO := Lib.hid hO'; clear hM hO hO'))
  have f5 : w'.frozen? ⟨b, 5, none⟩ = false := (World.frozen?_of_block (a := ⟨b, 5, none⟩) (HO.out.block b (World.block_lt_of_cell? _ _ c0) hnb.out)).trans (hHT.out.r.fr 5)
  go_wp2
  go_ret
  exact ⟨rfl, (hHT.out.mem_ HM.out HO.out).same 5 _ rfl rfl rfl rfl, onl_set (onl_mono HO.out fun k e => .inr e) (p := ⟨b, 5, none⟩) (.inl (.inl rfl)) _⟩
set_option maxHeartbeats 800000 in
theorem write_last {w : World} {b mb lb : Nat} {s : TS} {vi vo : Value} {c : Int} (h : TAt w b mb lb s vi vo c) (hk : s.ok) (hn : s.inn = s.W) (m : Nat) (hm : s.mem[0]? = some (m : Int)) :
    Calls Tryd.prog 36 #[.pointer (some ⟨b, 0, none⟩)] w fun e w' =>
      e = .returned (.bool true) ∧ TAt w' b mb lb { s with mem := s.mem.set 0 ((s.io + 4 : Nat) : Int), io := m % 4 } vi vo (wrap64 (c + 1)) ∧ Only (regS b mb lb) w w' := by
  have c0 := h.c0
  have c5 := h.c5
  have HS := Lib.hid (fun (W' : World) (hW' : W'.heap = w.heap) => swap_w (h.heap hW') hk m hm)
  rw [hn] at c5
  clear h hk hm hn
  go_enter Tryd.func36, Tryd.ntmps36
  go_wp2_with fail
  go_quiet (fail)
  go_wp2_with fail
  refine (HS.out _ (by rfl)).mono ?_
  rintro e w' ⟨rfl, hT, hO⟩
  have HT := Lib.hid hT
  have HO := Lib.hid (onl_heap (a := w) hO rfl rfl rfl rfl)
  clear hT hO HS
  go_wp2
  go_ret
  exact ⟨rfl, HT.out, HO.out⟩

/-! ### The read's accesses -/
set_option maxRecDepth 100000 in
set_option maxHeartbeats 800000 in
theorem read_asks {w : World} {b mb lb : Nat} {s : TS} {vi vo : Value} {c : Int} (h : TAt w b mb lb s vi vo c) (hk : s.ok) (hoa : s.oa = 1) (m : Nat) (hm : s.mem[0]? = some (m : Int)) :
    Calls Tryd.prog 37 #[.pointer (some ⟨b, 0, none⟩)] w fun e w' =>
      e = .returned (.bool false) ∧ TAt w' b mb lb { s with oa := if 4 ≤ m then 2 else 3 } vi vo (wrap64 (c + 1)) ∧ Only (regS b mb lb) w w' := by
  have c1 := h.c1
  have c6 := h.c6
  have f6 := h.r.fr 6
  have hl0 : 0 < s.mem.length := by rw [hk.len]; omega
  have hg0 : s.mem[0] = (m : Int) := by rw [List.getElem?_eq_getElem hl0] at hm; exact Option.some.inj hm
  have HT3 := Lib.hid (h.same 6 (.int .i64 3) (s' := { s with oa := 3 }) rfl rfl rfl rfl)
  have HO3 := Lib.hid (onl_set (S := regS b mb lb) (onl_refl _ w) (p := ⟨b, 6, none⟩) (.inl (.inl rfl)) (.int .i64 3))
  have c1' := HT3.out.c1
  have HR := Lib.hid (read_ok HT3.out.m 0 hl0)
  rw [show ({ s with oa := 3 } : TS).mem[0] = (m : Int) from hg0, show ((0 : Nat) : Int) = 0 from rfl] at HR
  rw [hoa, show ((1 : Nat) : Int) = 1 from rfl] at c6
  clear h hk hg0 hl0 hm
  go_enter Tryd.func37, Tryd.ntmps37
  go_wp2_with fail
  refine HR.out.mono ?_
  rintro e w' ⟨rfl, hM, hO⟩
  have HT := Lib.hid (HT3.out.mem_ hM hO)
  have HO := Lib.hid (onl_trans HO3.out (onl_mono hO fun k e => .inr e))
  have c6' := HT.out.c6
  have f6' := HT.out.r.fr 6
  clear hM hO HR c1' c6 f6 HT3 HO3
  by_cases h4 : 4 ≤ m
  · have HT4 := Lib.hid (HT.out.same 6 (.int .i64 2) (s' := { s with oa := 2 }) rfl rfl rfl rfl)
    have HO4 := Lib.hid (onl_set (S := regS b mb lb) HO.out (p := ⟨b, 6, none⟩) (.inl (.inl rfl)) (.int .i64 2))
    have h4' : (4 : Int) ≤ (m : Int) := by omega
    clear h4
    go_wp2
    go_ret
    exact ⟨rfl, HT4.out, HO4.out⟩
  · have h4' : ¬ (4 : Int) ≤ (m : Int) := by omega
    clear h4
    go_wp2
    go_ret
    exact ⟨rfl, HT.out, HO.out⟩
set_option maxRecDepth 100000 in
set_option maxHeartbeats 800000 in
theorem read_swaps {w : World} {b mb lb : Nat} {s : TS} {vi vo : Value} {c : Int} (h : TAt w b mb lb s vi vo c) (hk : s.ok) (hoa : s.oa = 2) (m : Nat) (hm : s.mem[0]? = some (m : Int)) :
    Calls Tryd.prog 37 #[.pointer (some ⟨b, 0, none⟩)] w fun e w' =>
      e = .returned (.bool false) ∧ TAt w' b mb lb { s with mem := s.mem.set 0 (s.oo : Int), oo := m % 4, oa := 3 } vi vo (wrap64 (c + 1)) ∧ Only (regS b mb lb) w w' := by
  have c6 := h.c6
  have HS := Lib.hid (swap_r h hk m hm)
  rw [hoa, show ((2 : Nat) : Int) = 2 from rfl] at c6
  clear h hk hm
  go_enter Tryd.func37, Tryd.ntmps37
  go_wp2_with fail
  refine HS.out.mono ?_
  rintro e w' ⟨rfl, hT, hO⟩
  have c6' := hT.c6
  have f6' := hT.r.fr 6
  have HT := Lib.hid (hT.same 6 (.int .i64 3) (s' := { s with mem := s.mem.set 0 (s.oo : Int), oo := m % 4, oa := 3 }) rfl rfl rfl rfl)
  have HO := Lib.hid (onl_set (S := regS b mb lb) hO (p := ⟨b, 6, none⟩) (.inl (.inl rfl)) (.int .i64 3))
  clear hT hO HS
  go_wp2
  go_ret
  exact ⟨rfl, HT.out, HO.out⟩
end Go.Proofs.YtdhbiogcaekbbaaDoor
