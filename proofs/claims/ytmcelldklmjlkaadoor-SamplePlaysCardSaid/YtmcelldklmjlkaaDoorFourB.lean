/- A register of four slots: the accesses of a write and of a read. -/
import Derived.Test.YtmcelldklmjlkaaDoorFour
namespace Go.Proofs.YtmcelldklmjlkaaDoor
open Go.RowKit

set_option maxRecDepth 100000 in
set_option maxHeartbeats 1600000 in
theorem acc_w0 {w : World} {B b mb lb : Nat} {X Z : Nat → Prop} {s : FS} {vl vi vr vo : Value} {c : Int} {xr xs : Nat} {xi : Nat → Nat} (h : FAt w B b mb lb X Z s vl vi vr vo c) (hb : Boxes w Z b 2 s.W xr xs xi) {m : Nat} (hm : s.mem[1]? = some (m : Int)) (hm1 : m ≤ 1) :
    Calls Tryd.prog 51 #[.pointer (some ⟨xr, 0, none⟩), .pointer (some ⟨xs, 0, none⟩)] w fun e w' => e = .returned (.tuple #[]) ∧ ∃ c', FAt w' B b mb lb X Z { s with ip := 1 - m } vl vi vr vo c' ∧ Only (turnS b mb lb vo) w w' := by
  have hml : 1 < s.mem.length := (List.getElem?_eq_some_iff.1 hm).1
  have hme : s.mem[1] = (m : Int) := (List.getElem?_eq_some_iff.1 hm).2
  have HG := Lib.hid (get_any (h.below (Below.refl _ w).drew).m (h.below (Below.refl _ w).drew).c1 1 hml)
  rw [hme] at HG
  have e1 : ((1 - m : Nat) : Int) = 1 - (m : Int) := by omega
  have w1 : IntKind.i64.wrap (1 - (m : Int)) = 1 - (m : Int) := by rw [IntKind.wrap_i64]; omega
  have HE := Lib.hid e1
  have HH := Lib.hid h
  have HN := Lib.hid (show ¬ memS mb lb xr ∧ ¬ memS mb lb xs ∧ ¬ memS mb lb b ∧ True from ⟨fun e => (h.z _ hb.r.1).2.1 (.inr e), fun e => (h.z _ hb.s.1).2.1 (.inr e), fun e => e.elim h.ne.1 h.ne.2, trivial⟩)
  have s0 : w.drew.cell? ⟨xs, 0, none⟩ = some (.pointer (some ⟨b, 2, none⟩)) := hb.s.cell
  have s1 : w.drew.cell? ⟨xr, 0, none⟩ = some (.pointer (some ⟨b, 0, none⟩)) := hb.r.cell
  have HB := Lib.hid (show xr ≠ b ∧ xs ≠ b from ⟨fun e => (h.z _ hb.r.1).2.1 (.inl e), fun e => (h.z _ hb.s.1).2.1 (.inl e)⟩)
  clear h hb hm hml hme hm1 e1
  go_enter Tryd.func51, Tryd.ntmps51
  go_wp2_with fail
  refine wp_region_held_drew (S := (fun w' => w'.cell? ⟨xs, 0, none⟩ = some (.pointer (some ⟨b, 2, none⟩)) ∧ w'.cell? ⟨xr, 0, none⟩ = some (.pointer (some ⟨b, 0, none⟩)))) rfl ⟨s0, s1⟩ fun hS => ?_
  refine wpAnyH_take (i := 0) (v := .pointer (some ⟨b, 2, none⟩)) rfl (by kernel_rfl) (by kernel_rfl) (by kernel_rfl) (fun _ _ _ h => h) (Or.inl ⟨by kernel_rfl, fun w' hS' => by have q := hS'.1; go_simp⟩) hS ?_
  refine wpAnyH_take (i := 1) (v := .pointer (some ⟨b, 0, none⟩)) rfl (by kernel_rfl) (by kernel_rfl) (by kernel_rfl) (fun _ _ _ h => h) (Or.inl ⟨by kernel_rfl, fun w' hS' => by have q := hS'.2; go_simp⟩) hS ?_
  refine wpAnyH_ready (rs := [2]) (by kernel_rfl) (by simp) ?_
  refine AllReadyH.cons rfl (fun K hK => ?_) AllReadyH.nil
  go_simp
  refine HG.out.mono ?_
  rintro e w2 ⟨rfl, hM, hO⟩
  refine hK.out _ _ ⟨cell_onl (hS.1) hO HN.out.2.1, cell_onl (hS.2) hO HN.out.1⟩ fun hS2 => ?_
  clear hK
  refine wpAnyH_take (i := 3) (v := .int .i64 (1 - (m : Int))) rfl (by kernel_rfl) (by kernel_rfl) (by kernel_rfl) (fun _ _ _ h => h) (Or.inl ⟨by kernel_rfl, fun w' _ => by go_simp⟩) hS2 ?_
  refine wpAnyH_take (i := 4) (v := .pointer (some ⟨b, 2, none⟩)) rfl (by kernel_rfl) (by kernel_rfl) (by kernel_rfl) (fun _ _ _ h => h) (Or.inl ⟨by kernel_rfl, fun w' _ => by kernel_rfl⟩) hS2 ?_
  refine wpAnyH_take (i := 5) (v := .pointer (some ⟨b, 3, none⟩)) rfl (by kernel_rfl) (by kernel_rfl) (by kernel_rfl) (fun _ _ _ h => h) (Or.inl ⟨by kernel_rfl, fun w' _ => by kernel_rfl⟩) hS2 ?_
  have HF := Lib.hid ((HH.out.below (Below.refl _ w).drew).mem_ hM hO)
  have HO := Lib.hid hO
  clear hM hO HG
  have ca := HF.out.c3
  have fa := HF.out.r.fr 3
  have HF2 := Lib.hid (HF.out.set 3 (.int .i64 (1 - (m : Int))) (s' := { s with ip := 1 - m }) (vl' := vl) (vi' := vi) (vr' := vr) (by simp only [regCells, HE.out]; rfl) rfl HF.out.il rfl)
  have HO2 := Lib.hid (show Only (turnS b mb lb vo) w.drew (w2.setCell ⟨b, 3, none⟩ (.int .i64 (1 - (m : Int)))) from onl_set (onl_mono HO.out fun k e => .inl (.inr e)) (p := ⟨b, 3, none⟩) (.inl (.inl (.inl rfl))) _)
  refine wpAnyH_ready (rs := [6]) (by kernel_rfl) (by simp) ?_
  refine AllReadyH.cons rfl (fun K hK => ?_) AllReadyH.nil
  go_simp
  refine hK.out _ _ ⟨(cell_far (Ne.symm (HB.out.2))).trans (hS2.1), (cell_far (Ne.symm (HB.out.1))).trans (hS2.2)⟩ fun hS3 => ?_
  clear hK
  refine wpAnyH_done (by kernel_rfl) ?_ _
  go_simp
  go_wp2
  go_end0
  exact ⟨rfl, ⟨_, HF2.out⟩, onl_heap (a := w) HO2.out rfl rfl rfl rfl⟩
set_option maxRecDepth 100000 in
set_option maxHeartbeats 1600000 in
theorem acc_r0 {w : World} {B b mb lb : Nat} {X Z : Nat → Prop} {s : FS} {vl vi vr vo : Value} {c : Int} {xr xs : Nat} {xi : Nat → Nat} (h : FAt w B b mb lb X Z s vl vi vr vo c) (hb : Boxes w Z b 6 s.W xr xs xi) {m : Nat} (hm : s.mem[0]? = some (m : Int)) :
    Calls Tryd.prog 61 #[.pointer (some ⟨xr, 0, none⟩), .pointer (some ⟨xs, 0, none⟩)] w fun e w' => e = .returned (.tuple #[]) ∧ ∃ c', FAt w' B b mb lb X Z { s with op := m } vl vi vr vo c' ∧ Only (turnS b mb lb vo) w w' := by
  have hml : 0 < s.mem.length := (List.getElem?_eq_some_iff.1 hm).1
  have hme : s.mem[0] = (m : Int) := (List.getElem?_eq_some_iff.1 hm).2
  have HG := Lib.hid (get_any (h.below (Below.refl _ w).drew).m (h.below (Below.refl _ w).drew).c1 0 hml)
  rw [hme] at HG
  have HH := Lib.hid h
  have HN := Lib.hid (show ¬ memS mb lb xr ∧ ¬ memS mb lb xs ∧ ¬ memS mb lb b ∧ True from ⟨fun e => (h.z _ hb.r.1).2.1 (.inr e), fun e => (h.z _ hb.s.1).2.1 (.inr e), fun e => e.elim h.ne.1 h.ne.2, trivial⟩)
  have s0 : w.drew.cell? ⟨xs, 0, none⟩ = some (.pointer (some ⟨b, 6, none⟩)) := hb.s.cell
  have s1 : w.drew.cell? ⟨xr, 0, none⟩ = some (.pointer (some ⟨b, 0, none⟩)) := hb.r.cell
  have HB := Lib.hid (show xr ≠ b ∧ xs ≠ b from ⟨fun e => (h.z _ hb.r.1).2.1 (.inl e), fun e => (h.z _ hb.s.1).2.1 (.inl e)⟩)
  clear h hb hm hml hme
  go_enter Tryd.func61, Tryd.ntmps61
  go_wp2_with fail
  refine wp_region_held_drew (S := (fun w' => w'.cell? ⟨xs, 0, none⟩ = some (.pointer (some ⟨b, 6, none⟩)) ∧ w'.cell? ⟨xr, 0, none⟩ = some (.pointer (some ⟨b, 0, none⟩)))) rfl ⟨s0, s1⟩ fun hS => ?_
  refine wpAnyH_take (i := 0) (v := .pointer (some ⟨b, 6, none⟩)) rfl (by kernel_rfl) (by kernel_rfl) (by kernel_rfl) (fun _ _ _ h => h) (Or.inl ⟨by kernel_rfl, fun w' hS' => by have q := hS'.1; go_simp⟩) hS ?_
  refine wpAnyH_take (i := 1) (v := .pointer (some ⟨b, 0, none⟩)) rfl (by kernel_rfl) (by kernel_rfl) (by kernel_rfl) (fun _ _ _ h => h) (Or.inl ⟨by kernel_rfl, fun w' hS' => by have q := hS'.2; go_simp⟩) hS ?_
  refine wpAnyH_ready (rs := [2]) (by kernel_rfl) (by simp) ?_
  refine AllReadyH.cons rfl (fun K hK => ?_) AllReadyH.nil
  go_simp
  refine HG.out.mono ?_
  rintro e w2 ⟨rfl, hM, hO⟩
  refine hK.out _ _ ⟨cell_onl (hS.1) hO HN.out.2.1, cell_onl (hS.2) hO HN.out.1⟩ fun hS2 => ?_
  clear hK
  refine wpAnyH_take (i := 3) (v := .pointer (some ⟨b, 6, none⟩)) rfl (by kernel_rfl) (by kernel_rfl) (by kernel_rfl) (fun _ _ _ h => h) (Or.inl ⟨by kernel_rfl, fun w' _ => by kernel_rfl⟩) hS2 ?_
  refine wpAnyH_take (i := 4) (v := .pointer (some ⟨b, 7, none⟩)) rfl (by kernel_rfl) (by kernel_rfl) (by kernel_rfl) (fun _ _ _ h => h) (Or.inl ⟨by kernel_rfl, fun w' _ => by kernel_rfl⟩) hS2 ?_
  have HF := Lib.hid ((HH.out.below (Below.refl _ w).drew).mem_ hM hO)
  have HO := Lib.hid hO
  clear hM hO HG
  have ca := HF.out.c7
  have fa := HF.out.r.fr 7
  have HF2 := Lib.hid (HF.out.set 7 (.int .i64 (m : Int)) (s' := { s with op := m }) (vl' := vl) (vi' := vi) (vr' := vr) rfl rfl HF.out.il rfl)
  have HO2 := Lib.hid (show Only (turnS b mb lb vo) w.drew (w2.setCell ⟨b, 7, none⟩ (.int .i64 (m : Int))) from onl_set (onl_mono HO.out fun k e => .inl (.inr e)) (p := ⟨b, 7, none⟩) (.inl (.inl (.inl rfl))) _)
  refine wpAnyH_ready (rs := [5]) (by kernel_rfl) (by simp) ?_
  refine AllReadyH.cons rfl (fun K hK => ?_) AllReadyH.nil
  go_simp
  refine hK.out _ _ ⟨(cell_far (Ne.symm (HB.out.2))).trans (hS2.1), (cell_far (Ne.symm (HB.out.1))).trans (hS2.2)⟩ fun hS3 => ?_
  clear hK
  refine wpAnyH_done (by kernel_rfl) ?_ _
  go_simp
  go_wp2
  go_end0
  exact ⟨rfl, ⟨_, HF2.out⟩, onl_heap (a := w) HO2.out rfl rfl rfl rfl⟩
set_option maxRecDepth 100000 in
set_option maxHeartbeats 1600000 in
theorem acc_w1 {w : World} {B b mb lb : Nat} {X Z : Nat → Prop} {s : FS} {vl vi vr vo : Value} {c : Int} {xr xs : Nat} {xi : Nat → Nat} (h : FAt w B b mb lb X Z s vl vi vr vo c) (hb : Boxes w Z b 2 s.W xr xs xi) (hp : s.ip ≤ 1) {m : Nat} (hm : s.mem[2 + s.ip]? = some (m : Int)) (hm1 : m ≤ 1) :
    Calls Tryd.prog 53 #[.pointer (some ⟨xr, 0, none⟩), .pointer (some ⟨xs, 0, none⟩)] w fun e w' => e = .returned (.tuple #[]) ∧ ∃ c', FAt w' B b mb lb X Z { s with iq := 1 - m } vl vi vr vo c' ∧ Only (turnS b mb lb vo) w w' := by
  have hml : 2 + s.ip < s.mem.length := (List.getElem?_eq_some_iff.1 hm).1
  have hme : s.mem[2 + s.ip] = (m : Int) := (List.getElem?_eq_some_iff.1 hm).2
  have e2 : ((2 + s.ip : Nat) : Int) = 2 + (s.ip : Int) := by omega
  have w2' : IntKind.i64.wrap (2 + (s.ip : Int)) = 2 + (s.ip : Int) := by rw [IntKind.wrap_i64]; omega
  have HG := Lib.hid (get_any (h.below (Below.refl _ w).drew).m (h.below (Below.refl _ w).drew).c1 (2 + s.ip) hml)
  rw [hme, e2] at HG
  have e1 : ((1 - m : Nat) : Int) = 1 - (m : Int) := by omega
  have w1 : IntKind.i64.wrap (1 - (m : Int)) = 1 - (m : Int) := by rw [IntKind.wrap_i64]; omega
  have HE := Lib.hid e1
  have HB := Lib.hid (show xr ≠ b ∧ xs ≠ b from ⟨fun e => (h.z _ hb.r.1).2.1 (.inl e), fun e => (h.z _ hb.s.1).2.1 (.inl e)⟩)
  have HH := Lib.hid h
  have HN := Lib.hid (show ¬ memS mb lb xr ∧ ¬ memS mb lb xs ∧ ¬ memS mb lb b ∧ True from ⟨fun e => (h.z _ hb.r.1).2.1 (.inr e), fun e => (h.z _ hb.s.1).2.1 (.inr e), fun e => e.elim h.ne.1 h.ne.2, trivial⟩)
  have s0 : w.drew.cell? ⟨xs, 0, none⟩ = some (.pointer (some ⟨b, 2, none⟩)) := hb.s.cell
  have s1 : w.drew.cell? ⟨xr, 0, none⟩ = some (.pointer (some ⟨b, 0, none⟩)) := hb.r.cell
  have s2 : w.drew.cell? ⟨b, 3, none⟩ = some (.int .i64 (s.ip : Int)) := h.c3
  clear h hb hm hml hme e2 hp hm1 e1
  go_enter Tryd.func53, Tryd.ntmps53
  go_wp2_with fail
  refine wp_region_held_drew (S := (fun w' => w'.cell? ⟨xs, 0, none⟩ = some (.pointer (some ⟨b, 2, none⟩)) ∧ w'.cell? ⟨xr, 0, none⟩ = some (.pointer (some ⟨b, 0, none⟩)) ∧ w'.cell? ⟨b, 3, none⟩ = some (.int .i64 (s.ip : Int)))) rfl ⟨s0, s1, s2⟩ fun hS => ?_
  refine wpAnyH_take (i := 0) (v := .pointer (some ⟨b, 2, none⟩)) rfl (by kernel_rfl) (by kernel_rfl) (by kernel_rfl) (fun _ _ _ h => h) (Or.inl ⟨by kernel_rfl, fun w' hS' => by have q := hS'.1; go_simp⟩) hS ?_
  refine wpAnyH_take (i := 1) (v := .pointer (some ⟨b, 0, none⟩)) rfl (by kernel_rfl) (by kernel_rfl) (by kernel_rfl) (fun _ _ _ h => h) (Or.inl ⟨by kernel_rfl, fun w' hS' => by have q := hS'.2.1; go_simp⟩) hS ?_
  refine wpAnyH_take (i := 2) (v := .pointer (some ⟨b, 2, none⟩)) rfl (by kernel_rfl) (by kernel_rfl) (by kernel_rfl) (fun _ _ _ h => h) (Or.inl ⟨by kernel_rfl, fun w' hS' => by have q := hS'.1; go_simp⟩) hS ?_
  refine wpAnyH_take (i := 3) (v := .pointer (some ⟨b, 2, none⟩)) rfl (by kernel_rfl) (by kernel_rfl) (by kernel_rfl) (fun _ _ _ h => h) (Or.inl ⟨by kernel_rfl, fun w' _ => by kernel_rfl⟩) hS ?_
  refine wpAnyH_take (i := 4) (v := .pointer (some ⟨b, 3, none⟩)) rfl (by kernel_rfl) (by kernel_rfl) (by kernel_rfl) (fun _ _ _ h => h) (Or.inl ⟨by kernel_rfl, fun w' _ => by kernel_rfl⟩) hS ?_
  refine wpAnyH_take (i := 5) (v := .int .i64 (s.ip : Int)) rfl (by kernel_rfl) (by kernel_rfl) (by kernel_rfl) (fun _ _ _ h => h) (Or.inl ⟨by kernel_rfl, fun w' hS' => by have q := hS'.2.2; go_simp⟩) hS ?_
  refine wpAnyH_take (i := 6) (v := .int .i64 (2 + (s.ip : Int))) rfl (by kernel_rfl) (by kernel_rfl) (by kernel_rfl) (fun _ _ _ h => h) (Or.inl ⟨by kernel_rfl, fun w' _ => by go_simp⟩) hS ?_
  refine wpAnyH_ready (rs := [7]) (by kernel_rfl) (by simp) ?_
  refine AllReadyH.cons rfl (fun K hK => ?_) AllReadyH.nil
  go_simp
  refine HG.out.mono ?_
  rintro e w2 ⟨rfl, hM, hO⟩
  refine hK.out _ _ ⟨cell_onl (hS.1) hO HN.out.2.1, cell_onl (hS.2.1) hO HN.out.1, cell_onl (hS.2.2) hO HN.out.2.2.1⟩ fun hS2 => ?_
  clear hK
  refine wpAnyH_take (i := 8) (v := .int .i64 (1 - (m : Int))) rfl (by kernel_rfl) (by kernel_rfl) (by kernel_rfl) (fun _ _ _ h => h) (Or.inl ⟨by kernel_rfl, fun w' _ => by go_simp⟩) hS2 ?_
  refine wpAnyH_take (i := 9) (v := .pointer (some ⟨b, 2, none⟩)) rfl (by kernel_rfl) (by kernel_rfl) (by kernel_rfl) (fun _ _ _ h => h) (Or.inl ⟨by kernel_rfl, fun w' _ => by kernel_rfl⟩) hS2 ?_
  refine wpAnyH_take (i := 10) (v := .pointer (some ⟨b, 4, none⟩)) rfl (by kernel_rfl) (by kernel_rfl) (by kernel_rfl) (fun _ _ _ h => h) (Or.inl ⟨by kernel_rfl, fun w' _ => by kernel_rfl⟩) hS2 ?_
  have HF := Lib.hid ((HH.out.below (Below.refl _ w).drew).mem_ hM hO)
  have HO := Lib.hid hO
  clear hM hO HG
  have ca := HF.out.c4
  have fa := HF.out.r.fr 4
  have HF2 := Lib.hid (HF.out.set 4 (.int .i64 (1 - (m : Int))) (s' := { s with iq := 1 - m }) (vl' := vl) (vi' := vi) (vr' := vr) (by simp only [regCells, HE.out]; rfl) rfl HF.out.il rfl)
  have HO2 := Lib.hid (show Only (turnS b mb lb vo) w.drew (w2.setCell ⟨b, 4, none⟩ (.int .i64 (1 - (m : Int)))) from onl_set (onl_mono HO.out fun k e => .inl (.inr e)) (p := ⟨b, 4, none⟩) (.inl (.inl (.inl rfl))) _)
  refine wpAnyH_ready (rs := [11]) (by kernel_rfl) (by simp) ?_
  refine AllReadyH.cons rfl (fun K hK => ?_) AllReadyH.nil
  go_simp
  refine hK.out _ _ ⟨(cell_far (Ne.symm (HB.out.2))).trans (hS2.1), (cell_far (Ne.symm (HB.out.1))).trans (hS2.2.1), (cell_off (by decide)).trans (hS2.2.2)⟩ fun hS3 => ?_
  clear hK
  refine wpAnyH_done (by kernel_rfl) ?_ _
  go_simp
  go_wp2
  go_end0
  exact ⟨rfl, ⟨_, HF2.out⟩, onl_heap (a := w) HO2.out rfl rfl rfl rfl⟩
set_option maxRecDepth 100000 in
set_option maxHeartbeats 1600000 in
theorem acc_r2 {w : World} {B b mb lb : Nat} {X Z : Nat → Prop} {s : FS} {vl vi vr vo : Value} {c : Int} {xr xs : Nat} {xi : Nat → Nat} (h : FAt w B b mb lb X Z s vl vi vr vo c) (hb : Boxes w Z b 6 s.W xr xs xi) (hp : s.op ≤ 1) {m : Nat} (hm : s.mem[2 + s.op]? = some (m : Int)) :
    Calls Tryd.prog 63 #[.pointer (some ⟨xr, 0, none⟩), .pointer (some ⟨xs, 0, none⟩)] w fun e w' => e = .returned (.tuple #[]) ∧ ∃ c', FAt w' B b mb lb X Z { s with oq := m } vl vi vr vo c' ∧ Only (turnS b mb lb vo) w w' := by
  have hml : 2 + s.op < s.mem.length := (List.getElem?_eq_some_iff.1 hm).1
  have hme : s.mem[2 + s.op] = (m : Int) := (List.getElem?_eq_some_iff.1 hm).2
  have e2 : ((2 + s.op : Nat) : Int) = 2 + (s.op : Int) := by omega
  have w2' : IntKind.i64.wrap (2 + (s.op : Int)) = 2 + (s.op : Int) := by rw [IntKind.wrap_i64]; omega
  have HG := Lib.hid (get_any (h.below (Below.refl _ w).drew).m (h.below (Below.refl _ w).drew).c1 (2 + s.op) hml)
  rw [hme, e2] at HG
  have HB := Lib.hid (show xr ≠ b ∧ xs ≠ b from ⟨fun e => (h.z _ hb.r.1).2.1 (.inl e), fun e => (h.z _ hb.s.1).2.1 (.inl e)⟩)
  have HH := Lib.hid h
  have HN := Lib.hid (show ¬ memS mb lb xr ∧ ¬ memS mb lb xs ∧ ¬ memS mb lb b ∧ True from ⟨fun e => (h.z _ hb.r.1).2.1 (.inr e), fun e => (h.z _ hb.s.1).2.1 (.inr e), fun e => e.elim h.ne.1 h.ne.2, trivial⟩)
  have s0 : w.drew.cell? ⟨xs, 0, none⟩ = some (.pointer (some ⟨b, 6, none⟩)) := hb.s.cell
  have s1 : w.drew.cell? ⟨xr, 0, none⟩ = some (.pointer (some ⟨b, 0, none⟩)) := hb.r.cell
  have s2 : w.drew.cell? ⟨b, 7, none⟩ = some (.int .i64 (s.op : Int)) := h.c7
  clear h hb hm hml hme e2 hp
  go_enter Tryd.func63, Tryd.ntmps63
  go_wp2_with fail
  refine wp_region_held_drew (S := (fun w' => w'.cell? ⟨xs, 0, none⟩ = some (.pointer (some ⟨b, 6, none⟩)) ∧ w'.cell? ⟨xr, 0, none⟩ = some (.pointer (some ⟨b, 0, none⟩)) ∧ w'.cell? ⟨b, 7, none⟩ = some (.int .i64 (s.op : Int)))) rfl ⟨s0, s1, s2⟩ fun hS => ?_
  refine wpAnyH_take (i := 0) (v := .pointer (some ⟨b, 6, none⟩)) rfl (by kernel_rfl) (by kernel_rfl) (by kernel_rfl) (fun _ _ _ h => h) (Or.inl ⟨by kernel_rfl, fun w' hS' => by have q := hS'.1; go_simp⟩) hS ?_
  refine wpAnyH_take (i := 1) (v := .pointer (some ⟨b, 0, none⟩)) rfl (by kernel_rfl) (by kernel_rfl) (by kernel_rfl) (fun _ _ _ h => h) (Or.inl ⟨by kernel_rfl, fun w' hS' => by have q := hS'.2.1; go_simp⟩) hS ?_
  refine wpAnyH_take (i := 2) (v := .pointer (some ⟨b, 6, none⟩)) rfl (by kernel_rfl) (by kernel_rfl) (by kernel_rfl) (fun _ _ _ h => h) (Or.inl ⟨by kernel_rfl, fun w' hS' => by have q := hS'.1; go_simp⟩) hS ?_
  refine wpAnyH_take (i := 3) (v := .pointer (some ⟨b, 6, none⟩)) rfl (by kernel_rfl) (by kernel_rfl) (by kernel_rfl) (fun _ _ _ h => h) (Or.inl ⟨by kernel_rfl, fun w' _ => by kernel_rfl⟩) hS ?_
  refine wpAnyH_take (i := 4) (v := .pointer (some ⟨b, 7, none⟩)) rfl (by kernel_rfl) (by kernel_rfl) (by kernel_rfl) (fun _ _ _ h => h) (Or.inl ⟨by kernel_rfl, fun w' _ => by kernel_rfl⟩) hS ?_
  refine wpAnyH_take (i := 5) (v := .int .i64 (s.op : Int)) rfl (by kernel_rfl) (by kernel_rfl) (by kernel_rfl) (fun _ _ _ h => h) (Or.inl ⟨by kernel_rfl, fun w' hS' => by have q := hS'.2.2; go_simp⟩) hS ?_
  refine wpAnyH_take (i := 6) (v := .int .i64 (2 + (s.op : Int))) rfl (by kernel_rfl) (by kernel_rfl) (by kernel_rfl) (fun _ _ _ h => h) (Or.inl ⟨by kernel_rfl, fun w' _ => by go_simp⟩) hS ?_
  refine wpAnyH_ready (rs := [7]) (by kernel_rfl) (by simp) ?_
  refine AllReadyH.cons rfl (fun K hK => ?_) AllReadyH.nil
  go_simp
  refine HG.out.mono ?_
  rintro e w2 ⟨rfl, hM, hO⟩
  refine hK.out _ _ ⟨cell_onl (hS.1) hO HN.out.2.1, cell_onl (hS.2.1) hO HN.out.1, cell_onl (hS.2.2) hO HN.out.2.2.1⟩ fun hS2 => ?_
  clear hK
  refine wpAnyH_take (i := 8) (v := .pointer (some ⟨b, 6, none⟩)) rfl (by kernel_rfl) (by kernel_rfl) (by kernel_rfl) (fun _ _ _ h => h) (Or.inl ⟨by kernel_rfl, fun w' _ => by kernel_rfl⟩) hS2 ?_
  refine wpAnyH_take (i := 9) (v := .pointer (some ⟨b, 8, none⟩)) rfl (by kernel_rfl) (by kernel_rfl) (by kernel_rfl) (fun _ _ _ h => h) (Or.inl ⟨by kernel_rfl, fun w' _ => by kernel_rfl⟩) hS2 ?_
  have HF := Lib.hid ((HH.out.below (Below.refl _ w).drew).mem_ hM hO)
  have HO := Lib.hid hO
  clear hM hO HG
  have ca := HF.out.c8
  have fa := HF.out.r.fr 8
  have HF2 := Lib.hid (HF.out.set 8 (.int .i64 (m : Int)) (s' := { s with oq := m }) (vl' := vl) (vi' := vi) (vr' := vr) rfl rfl HF.out.il rfl)
  have HO2 := Lib.hid (show Only (turnS b mb lb vo) w.drew (w2.setCell ⟨b, 8, none⟩ (.int .i64 (m : Int))) from onl_set (onl_mono HO.out fun k e => .inl (.inr e)) (p := ⟨b, 8, none⟩) (.inl (.inl (.inl rfl))) _)
  refine wpAnyH_ready (rs := [10]) (by kernel_rfl) (by simp) ?_
  refine AllReadyH.cons rfl (fun K hK => ?_) AllReadyH.nil
  go_simp
  refine hK.out _ _ ⟨(cell_far (Ne.symm (HB.out.2))).trans (hS2.1), (cell_far (Ne.symm (HB.out.1))).trans (hS2.2.1), (cell_off (by decide)).trans (hS2.2.2)⟩ fun hS3 => ?_
  clear hK
  refine wpAnyH_done (by kernel_rfl) ?_ _
  go_simp
  go_wp2
  go_end0
  exact ⟨rfl, ⟨_, HF2.out⟩, onl_heap (a := w) HO2.out rfl rfl rfl rfl⟩
set_option maxRecDepth 100000 in
set_option maxHeartbeats 1600000 in
theorem acc_w3 {w : World} {B b mb lb : Nat} {X Z : Nat → Prop} {s : FS} {vl vi vr vo : Value} {c : Int} {xr xs : Nat} {xi : Nat → Nat} (h : FAt w B b mb lb X Z s vl vi vr vo c) (hb : Boxes w Z b 2 s.W xr xs xi) (hp : s.ip ≤ 1) (hq : s.iq ≤ 1) (hl : 4 ≤ s.mem.length) :
    Calls Tryd.prog 58 #[.pointer (some ⟨xr, 0, none⟩), .pointer (some ⟨xs, 0, none⟩)] w fun e w' => e = .returned (.tuple #[]) ∧ ∃ c', FAt w' B b mb lb X Z { s with mem := s.mem.set (2 + s.ip) (s.iq : Int) } vl vi vr vo c' ∧ Only (turnS b mb lb vo) w w' := by
  have HW := Lib.hid (write_ok (h.below (Below.refl _ w).drew).m (2 + s.ip) (s.iq : Int) (by omega) (by omega) (by omega))
  have e2 : ((2 + s.ip : Nat) : Int) = 2 + (s.ip : Int) := by omega
  have w2' : IntKind.i64.wrap (2 + (s.ip : Int)) = 2 + (s.ip : Int) := by rw [IntKind.wrap_i64]; omega
  rw [e2] at HW
  have HH := Lib.hid h
  have HN := Lib.hid (show ¬ memS mb lb xr ∧ ¬ memS mb lb xs ∧ ¬ memS mb lb b ∧ True from ⟨fun e => (h.z _ hb.r.1).2.1 (.inr e), fun e => (h.z _ hb.s.1).2.1 (.inr e), fun e => e.elim h.ne.1 h.ne.2, trivial⟩)
  have s0 : w.drew.cell? ⟨xr, 0, none⟩ = some (.pointer (some ⟨b, 0, none⟩)) := hb.r.cell
  have s1 : w.drew.cell? ⟨b, 1, none⟩ = some (.pointer (some ⟨mb, 0, none⟩)) := h.c1
  have s2 : w.drew.cell? ⟨xs, 0, none⟩ = some (.pointer (some ⟨b, 2, none⟩)) := hb.s.cell
  have s3 : w.drew.cell? ⟨b, 3, none⟩ = some (.int .i64 (s.ip : Int)) := h.c3
  have s4 : w.drew.cell? ⟨b, 4, none⟩ = some (.int .i64 (s.iq : Int)) := h.c4
  clear h hb hp hl hq e2
  go_enter Tryd.func58, Tryd.ntmps58
  go_wp2_with fail
  refine wp_region_held_drew (S := (fun w' => w'.cell? ⟨xr, 0, none⟩ = some (.pointer (some ⟨b, 0, none⟩)) ∧ w'.cell? ⟨b, 1, none⟩ = some (.pointer (some ⟨mb, 0, none⟩)) ∧ w'.cell? ⟨xs, 0, none⟩ = some (.pointer (some ⟨b, 2, none⟩)) ∧ w'.cell? ⟨b, 3, none⟩ = some (.int .i64 (s.ip : Int)) ∧ w'.cell? ⟨b, 4, none⟩ = some (.int .i64 (s.iq : Int)))) rfl ⟨s0, s1, s2, s3, s4⟩ fun hS => ?_
  refine wpAnyH_take (i := 0) (v := .pointer (some ⟨b, 0, none⟩)) rfl (by kernel_rfl) (by kernel_rfl) (by kernel_rfl) (fun _ _ _ h => h) (Or.inl ⟨by kernel_rfl, fun w' hS' => by have q := hS'.1; go_simp⟩) hS ?_
  refine wpAnyH_take (i := 1) (v := .pointer (some ⟨b, 0, none⟩)) rfl (by kernel_rfl) (by kernel_rfl) (by kernel_rfl) (fun _ _ _ h => h) (Or.inl ⟨by kernel_rfl, fun w' _ => by kernel_rfl⟩) hS ?_
  refine wpAnyH_take (i := 2) (v := .pointer (some ⟨b, 1, none⟩)) rfl (by kernel_rfl) (by kernel_rfl) (by kernel_rfl) (fun _ _ _ h => h) (Or.inl ⟨by kernel_rfl, fun w' _ => by kernel_rfl⟩) hS ?_
  refine wpAnyH_take (i := 3) (v := .pointer (some ⟨mb, 0, none⟩)) rfl (by kernel_rfl) (by kernel_rfl) (by kernel_rfl) (fun _ _ _ h => h) (Or.inl ⟨by kernel_rfl, fun w' hS' => by have q := hS'.2.1; go_simp⟩) hS ?_
  refine wpAnyH_take (i := 4) (v := .pointer (some ⟨b, 2, none⟩)) rfl (by kernel_rfl) (by kernel_rfl) (by kernel_rfl) (fun _ _ _ h => h) (Or.inl ⟨by kernel_rfl, fun w' hS' => by have q := hS'.2.2.1; go_simp⟩) hS ?_
  refine wpAnyH_take (i := 5) (v := .pointer (some ⟨b, 2, none⟩)) rfl (by kernel_rfl) (by kernel_rfl) (by kernel_rfl) (fun _ _ _ h => h) (Or.inl ⟨by kernel_rfl, fun w' _ => by kernel_rfl⟩) hS ?_
  refine wpAnyH_take (i := 6) (v := .pointer (some ⟨b, 3, none⟩)) rfl (by kernel_rfl) (by kernel_rfl) (by kernel_rfl) (fun _ _ _ h => h) (Or.inl ⟨by kernel_rfl, fun w' _ => by kernel_rfl⟩) hS ?_
  refine wpAnyH_take (i := 7) (v := .int .i64 (s.ip : Int)) rfl (by kernel_rfl) (by kernel_rfl) (by kernel_rfl) (fun _ _ _ h => h) (Or.inl ⟨by kernel_rfl, fun w' hS' => by have q := hS'.2.2.2.1; go_simp⟩) hS ?_
  refine wpAnyH_take (i := 8) (v := .int .i64 (2 + (s.ip : Int))) rfl (by kernel_rfl) (by kernel_rfl) (by kernel_rfl) (fun _ _ _ h => h) (Or.inl ⟨by kernel_rfl, fun w' _ => by go_simp⟩) hS ?_
  refine wpAnyH_take (i := 9) (v := .pointer (some ⟨b, 2, none⟩)) rfl (by kernel_rfl) (by kernel_rfl) (by kernel_rfl) (fun _ _ _ h => h) (Or.inl ⟨by kernel_rfl, fun w' hS' => by have q := hS'.2.2.1; go_simp⟩) hS ?_
  refine wpAnyH_take (i := 10) (v := .pointer (some ⟨b, 2, none⟩)) rfl (by kernel_rfl) (by kernel_rfl) (by kernel_rfl) (fun _ _ _ h => h) (Or.inl ⟨by kernel_rfl, fun w' _ => by kernel_rfl⟩) hS ?_
  refine wpAnyH_take (i := 11) (v := .pointer (some ⟨b, 4, none⟩)) rfl (by kernel_rfl) (by kernel_rfl) (by kernel_rfl) (fun _ _ _ h => h) (Or.inl ⟨by kernel_rfl, fun w' _ => by kernel_rfl⟩) hS ?_
  refine wpAnyH_take (i := 12) (v := .int .i64 (s.iq : Int)) rfl (by kernel_rfl) (by kernel_rfl) (by kernel_rfl) (fun _ _ _ h => h) (Or.inl ⟨by kernel_rfl, fun w' hS' => by have q := hS'.2.2.2.2; go_simp⟩) hS ?_
  refine wpAnyH_ready (rs := [13]) (by kernel_rfl) (by simp) ?_
  refine AllReadyH.cons rfl (fun K hK => ?_) AllReadyH.nil
  go_simp
  refine HW.out.mono ?_
  rintro e w2 ⟨rfl, hM, hO⟩
  refine hK.out _ _ ⟨cell_onl (hS.1) hO HN.out.1, cell_onl (hS.2.1) hO HN.out.2.2.1, cell_onl (hS.2.2.1) hO HN.out.2.1, cell_onl (hS.2.2.2.1) hO HN.out.2.2.1, cell_onl (hS.2.2.2.2) hO HN.out.2.2.1⟩ fun hS2 => ?_
  clear hK
  have HF := Lib.hid ((HH.out.below (Below.refl _ w).drew).mem_ hM hO)
  have HO2 := Lib.hid (show Only (turnS b mb lb vo) w.drew w2 from onl_mono hO fun k e => .inl (.inr e))
  clear hM hO
  refine wpAnyH_done (by kernel_rfl) ?_ _
  go_simp
  go_wp2
  go_end0
  exact ⟨rfl, _, HF.out, onl_heap (a := w) HO2.out rfl rfl rfl rfl⟩
set_option maxRecDepth 100000 in
set_option maxHeartbeats 1600000 in
theorem acc_w4 {w : World} {B b mb lb : Nat} {X Z : Nat → Prop} {s : FS} {vl vi vr vo : Value} {c : Int} {xr xs : Nat} {xi : Nat → Nat} (h : FAt w B b mb lb X Z s vl vi vr vo c) (hb : Boxes w Z b 2 s.W xr xs xi) (hp : s.ip ≤ 1) (hl : 4 ≤ s.mem.length) :
    Calls Tryd.prog 59 #[.pointer (some ⟨xr, 0, none⟩), .pointer (some ⟨xs, 0, none⟩)] w fun e w' => e = .returned (.tuple #[]) ∧ ∃ c', FAt w' B b mb lb X Z { s with mem := s.mem.set (0) (s.ip : Int) } vl vi vr vo c' ∧ Only (turnS b mb lb vo) w w' := by
  have HW := Lib.hid (write_ok (h.below (Below.refl _ w).drew).m (0) (s.ip : Int) (by omega) (by omega) (by omega))
  rw [show ((0 : Nat) : Int) = 0 from rfl] at HW
  have HH := Lib.hid h
  have HN := Lib.hid (show ¬ memS mb lb xr ∧ ¬ memS mb lb xs ∧ ¬ memS mb lb b ∧ True from ⟨fun e => (h.z _ hb.r.1).2.1 (.inr e), fun e => (h.z _ hb.s.1).2.1 (.inr e), fun e => e.elim h.ne.1 h.ne.2, trivial⟩)
  have s0 : w.drew.cell? ⟨xr, 0, none⟩ = some (.pointer (some ⟨b, 0, none⟩)) := hb.r.cell
  have s1 : w.drew.cell? ⟨b, 1, none⟩ = some (.pointer (some ⟨mb, 0, none⟩)) := h.c1
  have s2 : w.drew.cell? ⟨xs, 0, none⟩ = some (.pointer (some ⟨b, 2, none⟩)) := hb.s.cell
  have s3 : w.drew.cell? ⟨b, 3, none⟩ = some (.int .i64 (s.ip : Int)) := h.c3
  clear h hb hp hl
  go_enter Tryd.func59, Tryd.ntmps59
  go_wp2_with fail
  refine wp_region_held_drew (S := (fun w' => w'.cell? ⟨xr, 0, none⟩ = some (.pointer (some ⟨b, 0, none⟩)) ∧ w'.cell? ⟨b, 1, none⟩ = some (.pointer (some ⟨mb, 0, none⟩)) ∧ w'.cell? ⟨xs, 0, none⟩ = some (.pointer (some ⟨b, 2, none⟩)) ∧ w'.cell? ⟨b, 3, none⟩ = some (.int .i64 (s.ip : Int)))) rfl ⟨s0, s1, s2, s3⟩ fun hS => ?_
  refine wpAnyH_take (i := 0) (v := .pointer (some ⟨b, 0, none⟩)) rfl (by kernel_rfl) (by kernel_rfl) (by kernel_rfl) (fun _ _ _ h => h) (Or.inl ⟨by kernel_rfl, fun w' hS' => by have q := hS'.1; go_simp⟩) hS ?_
  refine wpAnyH_take (i := 1) (v := .pointer (some ⟨b, 0, none⟩)) rfl (by kernel_rfl) (by kernel_rfl) (by kernel_rfl) (fun _ _ _ h => h) (Or.inl ⟨by kernel_rfl, fun w' _ => by kernel_rfl⟩) hS ?_
  refine wpAnyH_take (i := 2) (v := .pointer (some ⟨b, 1, none⟩)) rfl (by kernel_rfl) (by kernel_rfl) (by kernel_rfl) (fun _ _ _ h => h) (Or.inl ⟨by kernel_rfl, fun w' _ => by kernel_rfl⟩) hS ?_
  refine wpAnyH_take (i := 3) (v := .pointer (some ⟨mb, 0, none⟩)) rfl (by kernel_rfl) (by kernel_rfl) (by kernel_rfl) (fun _ _ _ h => h) (Or.inl ⟨by kernel_rfl, fun w' hS' => by have q := hS'.2.1; go_simp⟩) hS ?_
  refine wpAnyH_take (i := 4) (v := .pointer (some ⟨b, 2, none⟩)) rfl (by kernel_rfl) (by kernel_rfl) (by kernel_rfl) (fun _ _ _ h => h) (Or.inl ⟨by kernel_rfl, fun w' hS' => by have q := hS'.2.2.1; go_simp⟩) hS ?_
  refine wpAnyH_take (i := 5) (v := .pointer (some ⟨b, 2, none⟩)) rfl (by kernel_rfl) (by kernel_rfl) (by kernel_rfl) (fun _ _ _ h => h) (Or.inl ⟨by kernel_rfl, fun w' _ => by kernel_rfl⟩) hS ?_
  refine wpAnyH_take (i := 6) (v := .pointer (some ⟨b, 3, none⟩)) rfl (by kernel_rfl) (by kernel_rfl) (by kernel_rfl) (fun _ _ _ h => h) (Or.inl ⟨by kernel_rfl, fun w' _ => by kernel_rfl⟩) hS ?_
  refine wpAnyH_take (i := 7) (v := .int .i64 (s.ip : Int)) rfl (by kernel_rfl) (by kernel_rfl) (by kernel_rfl) (fun _ _ _ h => h) (Or.inl ⟨by kernel_rfl, fun w' hS' => by have q := hS'.2.2.2; go_simp⟩) hS ?_
  refine wpAnyH_ready (rs := [8]) (by kernel_rfl) (by simp) ?_
  refine AllReadyH.cons rfl (fun K hK => ?_) AllReadyH.nil
  go_simp
  refine HW.out.mono ?_
  rintro e w2 ⟨rfl, hM, hO⟩
  refine hK.out _ _ ⟨cell_onl (hS.1) hO HN.out.1, cell_onl (hS.2.1) hO HN.out.2.2.1, cell_onl (hS.2.2.1) hO HN.out.2.1, cell_onl (hS.2.2.2) hO HN.out.2.2.1⟩ fun hS2 => ?_
  clear hK
  have HF := Lib.hid ((HH.out.below (Below.refl _ w).drew).mem_ hM hO)
  have HO2 := Lib.hid (show Only (turnS b mb lb vo) w.drew w2 from onl_mono hO fun k e => .inl (.inr e))
  clear hM hO
  refine wpAnyH_done (by kernel_rfl) ?_ _
  go_simp
  go_wp2
  go_end0
  exact ⟨rfl, _, HF.out, onl_heap (a := w) HO2.out rfl rfl rfl rfl⟩
set_option maxRecDepth 100000 in
set_option maxHeartbeats 1600000 in
theorem acc_r1 {w : World} {B b mb lb : Nat} {X Z : Nat → Prop} {s : FS} {vl vi vr vo : Value} {c : Int} {xr xs : Nat} {xi : Nat → Nat} (h : FAt w B b mb lb X Z s vl vi vr vo c) (hb : Boxes w Z b 6 s.W xr xs xi) (hp : s.op ≤ 1) (hl : 4 ≤ s.mem.length) :
    Calls Tryd.prog 62 #[.pointer (some ⟨xr, 0, none⟩), .pointer (some ⟨xs, 0, none⟩)] w fun e w' => e = .returned (.tuple #[]) ∧ ∃ c', FAt w' B b mb lb X Z { s with mem := s.mem.set (1) (s.op : Int) } vl vi vr vo c' ∧ Only (turnS b mb lb vo) w w' := by
  have HW := Lib.hid (write_ok (h.below (Below.refl _ w).drew).m (1) (s.op : Int) (by omega) (by omega) (by omega))
  rw [show ((1 : Nat) : Int) = 1 from rfl] at HW
  have HH := Lib.hid h
  have HN := Lib.hid (show ¬ memS mb lb xr ∧ ¬ memS mb lb xs ∧ ¬ memS mb lb b ∧ True from ⟨fun e => (h.z _ hb.r.1).2.1 (.inr e), fun e => (h.z _ hb.s.1).2.1 (.inr e), fun e => e.elim h.ne.1 h.ne.2, trivial⟩)
  have s0 : w.drew.cell? ⟨xr, 0, none⟩ = some (.pointer (some ⟨b, 0, none⟩)) := hb.r.cell
  have s1 : w.drew.cell? ⟨b, 1, none⟩ = some (.pointer (some ⟨mb, 0, none⟩)) := h.c1
  have s2 : w.drew.cell? ⟨xs, 0, none⟩ = some (.pointer (some ⟨b, 6, none⟩)) := hb.s.cell
  have s3 : w.drew.cell? ⟨b, 7, none⟩ = some (.int .i64 (s.op : Int)) := h.c7
  clear h hb hp hl
  go_enter Tryd.func62, Tryd.ntmps62
  go_wp2_with fail
  refine wp_region_held_drew (S := (fun w' => w'.cell? ⟨xr, 0, none⟩ = some (.pointer (some ⟨b, 0, none⟩)) ∧ w'.cell? ⟨b, 1, none⟩ = some (.pointer (some ⟨mb, 0, none⟩)) ∧ w'.cell? ⟨xs, 0, none⟩ = some (.pointer (some ⟨b, 6, none⟩)) ∧ w'.cell? ⟨b, 7, none⟩ = some (.int .i64 (s.op : Int)))) rfl ⟨s0, s1, s2, s3⟩ fun hS => ?_
  refine wpAnyH_take (i := 0) (v := .pointer (some ⟨b, 0, none⟩)) rfl (by kernel_rfl) (by kernel_rfl) (by kernel_rfl) (fun _ _ _ h => h) (Or.inl ⟨by kernel_rfl, fun w' hS' => by have q := hS'.1; go_simp⟩) hS ?_
  refine wpAnyH_take (i := 1) (v := .pointer (some ⟨b, 0, none⟩)) rfl (by kernel_rfl) (by kernel_rfl) (by kernel_rfl) (fun _ _ _ h => h) (Or.inl ⟨by kernel_rfl, fun w' _ => by kernel_rfl⟩) hS ?_
  refine wpAnyH_take (i := 2) (v := .pointer (some ⟨b, 1, none⟩)) rfl (by kernel_rfl) (by kernel_rfl) (by kernel_rfl) (fun _ _ _ h => h) (Or.inl ⟨by kernel_rfl, fun w' _ => by kernel_rfl⟩) hS ?_
  refine wpAnyH_take (i := 3) (v := .pointer (some ⟨mb, 0, none⟩)) rfl (by kernel_rfl) (by kernel_rfl) (by kernel_rfl) (fun _ _ _ h => h) (Or.inl ⟨by kernel_rfl, fun w' hS' => by have q := hS'.2.1; go_simp⟩) hS ?_
  refine wpAnyH_take (i := 4) (v := .pointer (some ⟨b, 6, none⟩)) rfl (by kernel_rfl) (by kernel_rfl) (by kernel_rfl) (fun _ _ _ h => h) (Or.inl ⟨by kernel_rfl, fun w' hS' => by have q := hS'.2.2.1; go_simp⟩) hS ?_
  refine wpAnyH_take (i := 5) (v := .pointer (some ⟨b, 6, none⟩)) rfl (by kernel_rfl) (by kernel_rfl) (by kernel_rfl) (fun _ _ _ h => h) (Or.inl ⟨by kernel_rfl, fun w' _ => by kernel_rfl⟩) hS ?_
  refine wpAnyH_take (i := 6) (v := .pointer (some ⟨b, 7, none⟩)) rfl (by kernel_rfl) (by kernel_rfl) (by kernel_rfl) (fun _ _ _ h => h) (Or.inl ⟨by kernel_rfl, fun w' _ => by kernel_rfl⟩) hS ?_
  refine wpAnyH_take (i := 7) (v := .int .i64 (s.op : Int)) rfl (by kernel_rfl) (by kernel_rfl) (by kernel_rfl) (fun _ _ _ h => h) (Or.inl ⟨by kernel_rfl, fun w' hS' => by have q := hS'.2.2.2; go_simp⟩) hS ?_
  refine wpAnyH_ready (rs := [8]) (by kernel_rfl) (by simp) ?_
  refine AllReadyH.cons rfl (fun K hK => ?_) AllReadyH.nil
  go_simp
  refine HW.out.mono ?_
  rintro e w2 ⟨rfl, hM, hO⟩
  refine hK.out _ _ ⟨cell_onl (hS.1) hO HN.out.1, cell_onl (hS.2.1) hO HN.out.2.2.1, cell_onl (hS.2.2.1) hO HN.out.2.1, cell_onl (hS.2.2.2) hO HN.out.2.2.1⟩ fun hS2 => ?_
  clear hK
  have HF := Lib.hid ((HH.out.below (Below.refl _ w).drew).mem_ hM hO)
  have HO2 := Lib.hid (show Only (turnS b mb lb vo) w.drew w2 from onl_mono hO fun k e => .inl (.inr e))
  clear hM hO
  refine wpAnyH_done (by kernel_rfl) ?_ _
  go_simp
  go_wp2
  go_end0
  exact ⟨rfl, _, HF.out, onl_heap (a := w) HO2.out rfl rfl rfl rfl⟩
set_option maxRecDepth 100000 in
set_option maxHeartbeats 1600000 in
theorem acc_w2 {w : World} {B b mb lb : Nat} {X Z : Nat → Prop} {s : FS} {vl vi vr vo : Value} {c : Int} {xr xs : Nat} {xi : Nat → Nat} (h : FAt w B b mb lb X Z s vl vi vr vo c) (hb : Boxes w Z b 2 s.W xr xs xi) {i : Nat} (hi : i < s.W) (hW : s.W ≤ 6) (hp : s.ip ≤ 1) (hq : s.iq ≤ 1) (hl : 4 + (2 * s.ip + s.iq) * s.W + i < s.mem.length) {x : Int} (hx : s.il[i]? = some x) (h0 : 0 ≤ x) (h1 : x ≤ 2147483647) :
    Calls Tryd.prog 54 #[.pointer (some ⟨xr, 0, none⟩), .pointer (some ⟨xs, 0, none⟩), .pointer (some ⟨xi i, 0, none⟩)] w fun e w' => e = .returned (.tuple #[]) ∧ ∃ c', FAt w' B b mb lb X Z { s with mem := s.mem.set (4 + (2 * s.ip + s.iq) * s.W + i) x } vl vi vr vo c' ∧ Only (turnS b mb lb vo) w w' := by
  have hil : i < s.il.length := (List.getElem?_eq_some_iff.1 hx).1
  have hxe : s.il[i] = x := (List.getElem?_eq_some_iff.1 hx).2
  obtain ⟨A, cc, rfl, hlc, hcs⟩ := h.il
  obtain ⟨g, o, rfl, hgz, hcell⟩ := hcs (by omega)
  have cx := hcell i hil
  rw [hxe] at cx
  have HNG := Lib.hid (show ¬ memS mb lb g from fun e => (h.z _ hgz).2.1 (.inr e))
  have HA := Lib.hid (at_any (w := w.drew) 2 s.W s.ip s.iq i h.c0 h.c3 h.c4 hW hp hq (by omega))
  have HW := Lib.hid (show ∀ W', W'.heap = w.heap → Calls Tryd.prog 55 #[.pointer (some ⟨mb, 0, none⟩), .int .i64 ((4 + (2 * s.ip + s.iq) * s.W + i : Nat) : Int), .int .i64 x] W' fun e w' => e = .returned (.int .i64 0) ∧ MemAt w' mb lb (s.mem.set (4 + (2 * s.ip + s.iq) * s.W + i) x) (wrap64 (c + 1)) ∧ Only (memS mb lb) W' w' from fun W' hk => write_ok (h.heap (w' := W') hk).m (4 + (2 * s.ip + s.iq) * s.W + i) x hl h0 h1)
  have b1 : (i : Int) < (s.il.length : Int) := by omega
  have b0 : (0 : Int) ≤ (i : Int) := by omega
  have s5 : w.drew.cell? ⟨g, o + i, none⟩ = some (.int .i64 x) := cx
  have HH := Lib.hid h
  have HN := Lib.hid (show ¬ memS mb lb xr ∧ ¬ memS mb lb xs ∧ ¬ memS mb lb b ∧ ¬ memS mb lb (xi i) from ⟨fun e => (h.z _ hb.r.1).2.1 (.inr e), fun e => (h.z _ hb.s.1).2.1 (.inr e), fun e => e.elim h.ne.1 h.ne.2, fun e => (h.z _ (hb.i i hi).1).2.1 (.inr e)⟩)
  have s0 : w.drew.cell? ⟨xr, 0, none⟩ = some (.pointer (some ⟨b, 0, none⟩)) := hb.r.cell
  have s1 : w.drew.cell? ⟨b, 1, none⟩ = some (.pointer (some ⟨mb, 0, none⟩)) := h.c1
  have s2 : w.drew.cell? ⟨xs, 0, none⟩ = some (.pointer (some ⟨b, 2, none⟩)) := hb.s.cell
  have s3 : w.drew.cell? ⟨xi i, 0, none⟩ = some (.int .i64 (i : Int)) := (hb.i i hi).cell
  have s4 : w.drew.cell? ⟨b, 5, none⟩ = some (.slice (some ⟨g, o, none⟩) s.il.length cc) := h.c5
  clear h hb hp hq hl hx hxe hlc hcs hcell cx hi hW hil
  generalize 4 + (2 * s.ip + s.iq) * s.W + i = z at *
  go_enter Tryd.func54, Tryd.ntmps54
  go_wp2_with fail
  refine wp_region_held_drew (S := (fun w' => w'.cell? ⟨xr, 0, none⟩ = some (.pointer (some ⟨b, 0, none⟩)) ∧ w'.cell? ⟨b, 1, none⟩ = some (.pointer (some ⟨mb, 0, none⟩)) ∧ w'.cell? ⟨xs, 0, none⟩ = some (.pointer (some ⟨b, 2, none⟩)) ∧ w'.cell? ⟨xi i, 0, none⟩ = some (.int .i64 (i : Int)) ∧ w'.cell? ⟨b, 5, none⟩ = some (.slice (some ⟨g, o, none⟩) s.il.length cc) ∧ w'.cell? ⟨g, o + i, none⟩ = some (.int .i64 x))) rfl ⟨s0, s1, s2, s3, s4, s5⟩ fun hS => ?_
  refine wpAnyH_take (i := 0) (v := .pointer (some ⟨b, 0, none⟩)) rfl (by kernel_rfl) (by kernel_rfl) (by kernel_rfl) (fun _ _ _ h => h) (Or.inl ⟨by kernel_rfl, fun w' hS' => by have q := hS'.1; go_simp⟩) hS ?_
  refine wpAnyH_take (i := 1) (v := .pointer (some ⟨b, 0, none⟩)) rfl (by kernel_rfl) (by kernel_rfl) (by kernel_rfl) (fun _ _ _ h => h) (Or.inl ⟨by kernel_rfl, fun w' _ => by kernel_rfl⟩) hS ?_
  refine wpAnyH_take (i := 2) (v := .pointer (some ⟨b, 1, none⟩)) rfl (by kernel_rfl) (by kernel_rfl) (by kernel_rfl) (fun _ _ _ h => h) (Or.inl ⟨by kernel_rfl, fun w' _ => by kernel_rfl⟩) hS ?_
  refine wpAnyH_take (i := 3) (v := .pointer (some ⟨mb, 0, none⟩)) rfl (by kernel_rfl) (by kernel_rfl) (by kernel_rfl) (fun _ _ _ h => h) (Or.inl ⟨by kernel_rfl, fun w' hS' => by have q := hS'.2.1; go_simp⟩) hS ?_
  refine wpAnyH_take (i := 4) (v := .pointer (some ⟨b, 0, none⟩)) rfl (by kernel_rfl) (by kernel_rfl) (by kernel_rfl) (fun _ _ _ h => h) (Or.inl ⟨by kernel_rfl, fun w' hS' => by have q := hS'.1; go_simp⟩) hS ?_
  refine wpAnyH_take (i := 5) (v := .pointer (some ⟨b, 2, none⟩)) rfl (by kernel_rfl) (by kernel_rfl) (by kernel_rfl) (fun _ _ _ h => h) (Or.inl ⟨by kernel_rfl, fun w' hS' => by have q := hS'.2.2.1; go_simp⟩) hS ?_
  refine wpAnyH_take (i := 6) (v := .int .i64 (i : Int)) rfl (by kernel_rfl) (by kernel_rfl) (by kernel_rfl) (fun _ _ _ h => h) (Or.inl ⟨by kernel_rfl, fun w' hS' => by have q := hS'.2.2.2.1; go_simp⟩) hS ?_
  refine wpAnyH_take (i := 8) (v := .pointer (some ⟨b, 2, none⟩)) rfl (by kernel_rfl) (by kernel_rfl) (by kernel_rfl) (fun _ _ _ h => h) (Or.inl ⟨by kernel_rfl, fun w' hS' => by have q := hS'.2.2.1; go_simp⟩) hS ?_
  refine wpAnyH_take (i := 9) (v := .pointer (some ⟨b, 2, none⟩)) rfl (by kernel_rfl) (by kernel_rfl) (by kernel_rfl) (fun _ _ _ h => h) (Or.inl ⟨by kernel_rfl, fun w' _ => by kernel_rfl⟩) hS ?_
  refine wpAnyH_take (i := 10) (v := .pointer (some ⟨b, 5, none⟩)) rfl (by kernel_rfl) (by kernel_rfl) (by kernel_rfl) (fun _ _ _ h => h) (Or.inl ⟨by kernel_rfl, fun w' _ => by kernel_rfl⟩) hS ?_
  refine wpAnyH_take (i := 11) (v := .slice (some ⟨g, o, none⟩) s.il.length cc) rfl (by kernel_rfl) (by kernel_rfl) (by kernel_rfl) (fun _ _ _ h => h) (Or.inl ⟨by kernel_rfl, fun w' hS' => by have q := hS'.2.2.2.2.1; go_simp⟩) hS ?_
  refine wpAnyH_take (i := 12) (v := .int .i64 (i : Int)) rfl (by kernel_rfl) (by kernel_rfl) (by kernel_rfl) (fun _ _ _ h => h) (Or.inl ⟨by kernel_rfl, fun w' hS' => by have q := hS'.2.2.2.1; go_simp⟩) hS ?_
  refine wpAnyH_take (i := 13) (v := .pointer (some ⟨g, o + i, none⟩)) rfl (by kernel_rfl) (by kernel_rfl) (by kernel_rfl) (fun _ _ _ h => h) (Or.inl ⟨by kernel_rfl, fun w' _ => by go_simp⟩) hS ?_
  refine wpAnyH_take (i := 14) (v := .int .i64 x) rfl (by kernel_rfl) (by kernel_rfl) (by kernel_rfl) (fun _ _ _ h => h) (Or.inl ⟨by kernel_rfl, fun w' hS' => by have q := hS'.2.2.2.2.2; go_simp⟩) hS ?_
  refine wpAnyH_ready (rs := [7]) (by kernel_rfl) (by simp) ?_
  refine AllReadyH.cons rfl (fun K hK => ?_) AllReadyH.nil
  go_simp
  refine HA.out.mono ?_
  rintro e wa ⟨rfl, n, rfl⟩
  refine hK.out _ _ hS fun hS1 => ?_
  clear hK
  refine wpAnyH_ready (rs := [15]) (by kernel_rfl) (by simp) ?_
  refine AllReadyH.cons rfl (fun K hK => ?_) AllReadyH.nil
  go_simp
  refine (HW.out _ (by rfl)).mono ?_
  rintro e w2 ⟨rfl, hM, hO⟩
  have hO' : Only (memS mb lb) (w.drew.drewN n) w2 := onl_heap (a := w.drew.drewN n) hO rfl rfl rfl rfl
  refine hK.out _ _ ⟨cell_onl (hS1.1) hO' HN.out.1, cell_onl (hS1.2.1) hO' HN.out.2.2.1, cell_onl (hS1.2.2.1) hO' HN.out.2.1, cell_onl (hS1.2.2.2.1) hO' HN.out.2.2.2, cell_onl (hS1.2.2.2.2.1) hO' HN.out.2.2.1, cell_onl (hS1.2.2.2.2.2) hO' HNG.out⟩ fun hS2 => ?_
  clear hK
  have HF := Lib.hid ((HH.out.heap (w' := w.drewN (1 + n)) rfl).mem_ hM hO)
  have HO2 := Lib.hid (show Only (turnS b mb lb vo) (w.drewN (1 + n)) w2 from onl_mono hO fun k e => .inl (.inr e))
  clear hM hO
  refine wpAnyH_done (by kernel_rfl) ?_ _
  go_simp
  go_wp2
  go_end0
  exact ⟨rfl, _, HF.out, onl_heap (a := w) HO2.out rfl rfl rfl rfl⟩
end Go.Proofs.YtmcelldklmjlkaaDoor
