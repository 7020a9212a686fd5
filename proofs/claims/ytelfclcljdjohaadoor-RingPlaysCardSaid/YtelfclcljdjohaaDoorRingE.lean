/- Messages through a ring: the push's words, and its last access. -/
import Derived.Test.YtelfclcljdjohaaDoorRingD
namespace Go.Proofs.YtelfclcljdjohaaDoor
open Go.RowKit
attribute [local go_sem] run_mkf events_mkf

theorem MemAt.heap {w w' : World} {mb lb : Nat} {l : List Int} {c : Int} (h : MemAt w mb lb l c) (hk : w'.heap = w.heap) : MemAt w' mb lb l c :=
  ⟨h.m.of (by rw [hk]), h.d.of (by rw [hk]), h.le⟩
theorem idx_lt {P W a i : Nat} (hP : 1 ≤ P) (hi : i < W) : 2 + a % P * W + i < 2 + P * W := by
  have h1 : a % P < P := Nat.mod_lt _ (by omega)
  have h2 : (a % P + 1) * W ≤ P * W := Nat.mul_le_mul h1 (Nat.le_refl _)
  rw [Nat.add_mul] at h2
  omega
set_option maxRecDepth 100000 in
set_option maxHeartbeats 1600000 in
theorem put_more {w : World} {B b mb lb : Nat} {X : Nat → Prop} {s : RS} {vi vo : Value} {c : Int} (h : RAt w B b mb lb X s vi vo c) (hk : s.ok) (hia : s.ia = 3) (hn : s.inn < s.W) (x : Int) (hx : s.il[s.inn]? = some x) :
    Calls Tryd.prog 51 #[.pointer (some ⟨b, 0, none⟩)] w fun e w' =>
      e = .returned (.tuple #[.bool false, .int .i64 0]) ∧ RAt w' B b mb lb X { s with mem := s.mem.set (2 + s.it % s.P * s.W + s.inn) x, inn := s.inn + 1 } vi vo (wrap64 (c + 1)) ∧ Only (regS b mb lb) w w' := by
  obtain ⟨hil, hvals⟩ := hk.il (by omega)
  have hx' := hvals x (List.mem_of_getElem? hx)
  have hil' : s.inn < s.il.length := by omega
  obtain ⟨g, cp, rfl, hgB, hgl, hlc, hcell, -⟩ := own_pos h.il (by omega)
  have ce : w.cell? ⟨g, s.inn, none⟩ = some (.int .i64 x) := by
    rw [hcell s.inn (by omega)]
    unfold nums
    rw [List.getElem?_map, hx]
    rfl
  have hg := Lib.hid (show ¬ regS b mb lb g from fun e => h.si g rfl (.inl e))
  have c0 := h.c0
  have c1 := h.c1
  have c2 := h.c2
  have c5 := h.c5
  have c6 := h.c6
  have c7 := h.c7
  have hP1 := hk.p1
  have hP8 := hk.p8
  have hW6 := hk.w6
  have hit := hk.it
  have hlt := idx_lt (a := s.it) hP1 hn
  rw [← hk.len] at hlt
  have H := Lib.hid h
  have HW := Lib.hid (show ∀ W', W'.heap = w.heap → Calls Tryd.prog 55 #[.pointer (some ⟨mb, 0, none⟩), .int .i64 ((2 + s.it % s.P * s.W + s.inn : Nat) : Int), .int .i64 x] W' fun e w' =>
      e = .returned (.int .i64 0) ∧ MemAt w' mb lb (s.mem.set (2 + s.it % s.P * s.W + s.inn) x) (wrap64 (c + 1)) ∧ Only (memS mb lb) W' w' from
    fun W' hW' => write_ok (h.m.heap hW') (2 + s.it % s.P * s.W + s.inn) x hlt hx'.1 hx'.2)
  have HC := Lib.hid (show ∀ W', W'.heap = w.heap → Calls Tryd.prog 56 #[.pointer (some ⟨b, 0, none⟩), .int .i64 s.it, .int .i64 s.inn] W' fun e w' => e = .returned (.int .i64 ((2 + s.it % s.P * s.W + s.inn : Nat) : Int)) ∧ ∃ q, w' = W'.drewN q from
    fun W' hW' => cell_any s.P s.W s.it s.inn (cell_heap c0 hW') (cell_heap c1 hW') hP1 hP8 hW6 (by omega) (by omega))
  have b1 : (s.inn : Int) < (s.W : Int) := by omega
  have b2 : (s.inn : Int) < (s.il.length : Int) := by omega
  have b3 : (0 : Int) ≤ (s.inn : Int) := by omega
  have hn6 : s.inn ≤ 6 := by omega
  have hnb := Lib.hid (show ¬ memS mb lb b from fun e => e.elim h.ne.1 h.ne.2)
  have hng := Lib.hid (show ¬ memS mb lb g from fun e => hg.out (.inr e))
  have hw1 : IntKind.i64.wrap ((s.inn : Int) + 1) = (s.inn : Int) + 1 := by rw [IntKind.wrap_i64]; omega
  clear h hk hia hx hx' hil hvals hil' hgB hgl hlc hcell hlt hP1 hP8 hW6 hit
  go_enter Tryd.func51, Tryd.ntmps51
  go_wp2_with fail
  go_quiet (fail)
  go_wp2_with fail
  go_region_held3 (fun w' => w'.cell? ⟨b, 0, none⟩ = some (.int .i64 s.P) ∧ w'.cell? ⟨b, 1, none⟩ = some (.int .i64 s.W) ∧ w'.cell? ⟨b, 2, none⟩ = some (.pointer (some ⟨mb, 0, none⟩)) ∧ w'.cell? ⟨b, 5, none⟩ = some (.int .i64 s.it) ∧ w'.cell? ⟨b, 6, none⟩ = some (.slice (some ⟨g, 0, none⟩) s.il.length cp) ∧ w'.cell? ⟨b, 7, none⟩ = some (.int .i64 s.inn) ∧ w'.cell? ⟨g, s.inn, none⟩ = some (.int .i64 x)) (go_keep)
    (first
      | (go_at_call 56; refine (HC.out _ (by rfl)).mono ?_; rintro e w' ⟨rfl, q, rfl⟩)
      | (go_at_call 55; refine (HW.out _ (by rfl)).mono ?_; rintro e w' ⟨rfl, hM, hO⟩; have hO' := onl_heap (a := w) hO rfl rfl rfl rfl; have k0 := cell_onl c0 hO' hnb.out; have k1 := cell_onl c1 hO' hnb.out; have k2 := cell_onl c2 hO' hnb.out; have k5 := cell_onl c5 hO' hnb.out; have k6 := cell_onl c6 hO' hnb.out; have k7 := cell_onl c7 hO' hnb.out; have k8 := cell_onl ce hO' hng.out; have HM := Lib.hid hM; have HO := Lib.hid hO'; clear hM hO hO'))
  have H2 := H.out.mem_ HM.out HO.out
  have f7 := H2.r.fr 7
  have HF := Lib.hid (H2.same 7 (.int .i64 ((s.inn : Int) + 1)) (s' := { s with mem := s.mem.set (2 + s.it % s.P * s.W + s.inn) x, inn := s.inn + 1 }) (by simp [ringCells]) rfl rfl rfl)
  have HOF := Lib.hid (onl_trans (onl_mono (T := regS b mb lb) HO.out fun k e => .inr e) (set_only w' b mb lb 7 (.int .i64 ((s.inn : Int) + 1))))
  clear H2 H HM HO HW HC
  go_wp2
  go_ret2
  exact ⟨rfl, HF.out, HOF.out⟩
end Go.Proofs.YtelfclcljdjohaaDoor
