/- A register of four slots: Step as one. -/
import Derived.Test.YtmcelldklmjlkaaDoorFourG
namespace Go.Proofs.YtmcelldklmjlkaaDoor
open Go.RowKit

theorem FnsX.tail {w : World} {Z : Nat → Prop} {g o n cc : Nat} {f : Nat → Value} {m : Nat} (h : FnsX w Z (.slice (some ⟨g, o, none⟩) (n + 1) cc) (lastOf f m (n + 1))) (hm : n + 1 ≤ m) : FnsX w Z (.slice (some ⟨g, o + 1, none⟩) n (cc - 1)) (lastOf f m n) := by
  obtain ⟨A, c, e, hl, hc⟩ := h
  rw [lastOf_len] at e hl
  injection e with e1 e2 e3
  obtain ⟨g', o', e4, hz, hcell⟩ := hc (by rw [lastOf_len]; omega)
  rw [← e1] at e4
  injection e4 with e4
  injection e4 with e5 e6
  subst e5 e6 e3
  refine ⟨some ⟨g, o + 1, none⟩, cc - 1, by rw [lastOf_len], by rw [lastOf_len]; omega, fun hp => ⟨g, o + 1, rfl, hz, fun i hi => ?_⟩⟩
  rw [lastOf_len] at hi
  have h1 := hcell (i + 1) (by rw [lastOf_len]; omega)
  have e1 : (lastOf f m (n + 1))[i + 1]? = (lastOf f m n)[i]? := by
    rw [lastOf_get _ _ _ _ (by omega), lastOf_get _ _ _ _ hi]
    congr 2
    omega
  rw [List.getElem?_eq_getElem (by rw [lastOf_len]; omega), List.getElem?_eq_getElem (by rw [lastOf_len]; omega)] at e1
  rw [show o + 1 + i = o + (i + 1) by omega, h1, Option.some.inj e1]
theorem FnsX.first {w : World} {Z : Nat → Prop} {v : Value} {f : Nat → Value} {m n : Nat} (h : FnsX w Z v (lastOf f m n)) (hn : 0 < n) : ∃ g o cc, v = .slice (some ⟨g, o, none⟩) n cc ∧ n ≤ cc ∧ w.cell? ⟨g, o, none⟩ = some (f (m - n)) := by
  obtain ⟨A, c, e, hl, hc⟩ := h
  rw [lastOf_len] at e hl
  obtain ⟨g, o, rfl, hz, hcell⟩ := hc (by rw [lastOf_len]; exact hn)
  refine ⟨g, o, c, e, hl, ?_⟩
  have h1 := hcell 0 (by rw [lastOf_len]; exact hn)
  have h2 := lastOf_get f m n 0 hn
  rw [List.getElem?_eq_getElem (by rw [lastOf_len]; exact hn)] at h2
  rw [Nat.add_zero] at h1
  rw [h1, Option.some.inj h2, Nat.add_zero]
section
variable {w : World} {B b mb lb n N k : Nat} {X Z : Nat → Prop} {s s1 : FS} {vl vi vr vo : Value} {c : Int} {xr xs : Nat} {xi : Nat → Nat} {cap : Array Value}
theorem stepw_gen (h : FAt w B b mb lb X Z s vl vi vr vo c) (hb : Boxes w Z b 2 s.W xr xs xi) (hf : FnsX w Z vl (lastOf (wfn xr xs xi s.W) (s.W + 4) n)) (hn : 0 < n) (hnm : n ≤ s.W + 4)
    (hN : wfn xr xs xi s.W (s.W + 4 - n) = .func (.func N) #[] cap) (hcf : ∀ w, (callFunc N cap).run Tryd.prog w = .ok (.enter N cap) w)
    (HA : Calls Tryd.prog N cap w fun e w' => e = .returned (.tuple #[]) ∧ ∃ c', FAt w' B b mb lb X Z s1 vl vi vr vo c' ∧ Only (turnS b mb lb vo) w w') :
    Calls Tryd.prog 36 #[.pointer (some ⟨b, 0, none⟩), .bool true] w fun e w' => e = .returned (.tuple #[.slice none 0 0, .bool (decide (n = 1)), .int .i64 0]) ∧
      ∃ vl' c', FAt w' B b mb lb X Z { s1 with iw := n - 1 } vl' vi vr vo c' ∧ LeftW w' Z b s.W (n - 1) vl' ∧ Only (turnS b mb lb vo) w w' := by
  obtain ⟨g, o, cc, rfl, hcc, cf⟩ := hf.first hn
  rw [hN] at cf
  have hcells : ∀ w', (∃ c', FAt w' B b mb lb X Z s1 (.slice (some ⟨g, o, none⟩) n cc) vi vr vo c' ∧ Only (turnS b mb lb vo) w w') → w'.cell? ⟨b, 2, none⟩ = some (.slice (some ⟨g, o, none⟩) n cc) ∧ w'.frozen? ⟨b, 2, none⟩ = false := fun w' ⟨c', hF, _⟩ => ⟨hF.c2, hF.r.fr 2⟩
  by_cases h1 : n = 1
  · subst h1
    refine (stepw_last h.c2 hcc cf hcf HA hcells).mono ?_
    rintro e w' ⟨rfl, w1, v, ⟨c', hF, hO⟩, rfl⟩
    have hF2 := hF.set 2 v (s' := s1) (vl' := v) (vi' := vi) (vr' := vr) rfl rfl hF.il rfl
    have hF3 := hF2.set 2 (.slice none 0 0) (s' := { s1 with iw := 0 }) (vl' := .slice none 0 0) (vi' := vi) (vr' := vr) rfl rfl hF2.il rfl
    exact ⟨rfl, _, c', hF3, .inl ⟨rfl, rfl⟩, onl_set (onl_set hO (p := ⟨b, 2, none⟩) (.inl (.inl (.inl rfl))) _) (p := ⟨b, 2, none⟩) (.inl (.inl (.inl rfl))) _⟩
  · obtain ⟨m, rfl⟩ : ∃ m, n = m + 2 := ⟨n - 2, by omega⟩
    refine (stepw_more h.c2 hcc cf hcf HA hcells).mono ?_
    rintro e w' ⟨rfl, w1, ⟨c', hF, hO⟩, rfl⟩
    have hF2 := hF.set 2 (.slice (some ⟨g, o + 1, none⟩) (m + 1) (cc - 1)) (s' := { s1 with iw := m + 2 - 1 }) (vl' := .slice (some ⟨g, o + 1, none⟩) (m + 1) (cc - 1)) (vi' := vi) (vr' := vr) rfl rfl hF.il rfl
    have hO2 := onl_set hO (p := ⟨b, 2, none⟩) (.inl (.inl (.inl rfl))) (.slice (some ⟨g, o + 1, none⟩) (m + 1) (cc - 1))
    have hk := h.keptZ hO2
    exact ⟨by simp, _, c', hF2, .inr ⟨by omega, by omega, xr, xs, xi, hb.keep hk, (hf.tail hnm).keep hk⟩, hO2⟩
theorem stepr_gen (h : FAt w B b mb lb X Z s vl vi vr vo c) (hb : Boxes w Z b 6 s.W xr xs xi) (hf : FnsX w Z vr (lastOf (rfn xr xs xi) (s.W + 3) n)) (hn : 0 < n) (hnm : n ≤ s.W + 3) (hl : s1.ol.length ≤ 65536)
    (hN : rfn xr xs xi (s.W + 3 - n) = .func (.func N) #[] cap) (hcf : ∀ w, (callFunc N cap).run Tryd.prog w = .ok (.enter N cap) w)
    (HA : Calls Tryd.prog N cap w fun e w' => e = .returned (.tuple #[]) ∧ ∃ c' vo', FAt w' B b mb lb X Z s1 vl vi vr vo' c' ∧ Only (turnS b mb lb vo) w w') :
    Calls Tryd.prog 36 #[.pointer (some ⟨b, 0, none⟩), .bool false] w fun e w' => ∃ v', e = .returned (.tuple #[v', .bool (decide (n = 1)), .int .i64 0]) ∧
      (∃ vr' vo' c', FAt w' B b mb lb X Z { s1 with ow := n - 1 } vl vi vr' vo' c' ∧ LeftR w' Z b s.W (n - 1) vr' ∧ Only (turnS b mb lb vo) w w') ∧ IntsIn w' v' (if n = 1 then s1.ol else []) ∧ ∀ g, v'.ownBlock = some g → w.heap.size ≤ g := by
  obtain ⟨g, o, cc, rfl, hcc, cf⟩ := hf.first hn
  rw [hN] at cf
  by_cases h1 : n = 1
  · subst h1
    refine (stepr_last (l := s1.ol) h.c6 hcc cf hcf hl HA (fun w' ⟨c', vo', hF, _⟩ => ?_)).mono ?_
    · obtain ⟨Av, cv, rfl⟩ := own_form hF.ol
      refine ⟨hF.c6, hF.r.fr 6, Av, _, cv, hF.c9, fun v => ?_⟩
      exact IntsIn.of_own (own_onl hF.ol (onl_set (S := fun k => k = b) (onl_refl _ w') (p := ⟨b, 6, none⟩) (.inl rfl) v) fun q hq e => (hF.so q hq).1 (.inl e)) rfl
    rintro e w' ⟨v', rfl, w1, w2, v, ⟨c', vo', hF, hO⟩, ho, hbl, rfl⟩
    have hF2 := hF.set 6 v (s' := s1) (vl' := vl) (vi' := vi) (vr' := v) rfl rfl hF.il rfl
    have hs1 : (w1.setCell ⟨b, 6, none⟩ v).heap.size = w1.heap.size := by simp [World.setCell]
    have hbl2 : Below (w1.setCell ⟨b, 6, none⟩ v).heap.size (w1.setCell ⟨b, 6, none⟩ v) w2 := by rw [hs1]; exact hbl
    have hF3 := hF2.below hbl2
    have hF4 := hF3.set 6 (.slice none 0 0) (s' := { s1 with ow := 0 }) (vl' := vl) (vi' := vi) (vr' := .slice none 0 0) rfl rfl hF3.il rfl
    have hO2 := onl_set (onl_trans (onl_set hO (p := ⟨b, 6, none⟩) (.inl (.inl (.inl rfl))) v) (onl_mono (S := fun _ => False) (onl_below hbl2) (fun _ e => e.elim))) (p := ⟨b, 6, none⟩) (.inl (.inl (.inl rfl))) (.slice none 0 0)
    have hbw : b < w1.heap.size := hF.r.lt
    refine ⟨v', rfl, ⟨_, vo', c', hF4, .inl ⟨rfl, rfl⟩, hO2⟩, ?_, fun q hq => Nat.le_trans hO.size (ho.lt q hq).1⟩
    simp only [if_true]
    exact IntsIn.of_own (own_onl ho (onl_set (S := fun k => k = b) (onl_refl _ w2) (p := ⟨b, 6, none⟩) (.inl rfl) _) fun q hq e => by have := (ho.lt q hq).1; omega) rfl
  · obtain ⟨m, rfl⟩ : ∃ m, n = m + 2 := ⟨n - 2, by omega⟩
    refine (stepr_more h.c6 hcc cf hcf HA (fun w' ⟨c', vo', hF, _⟩ => ⟨hF.c6, hF.r.fr 6⟩)).mono ?_
    rintro e w' ⟨rfl, w1, ⟨c', vo', hF, hO⟩, rfl⟩
    have hF2 := hF.set 6 (.slice (some ⟨g, o + 1, none⟩) (m + 1) (cc - 1)) (s' := { s1 with ow := m + 2 - 1 }) (vl' := vl) (vi' := vi) (vr' := .slice (some ⟨g, o + 1, none⟩) (m + 1) (cc - 1)) rfl rfl hF.il rfl
    have hO2 := onl_set hO (p := ⟨b, 6, none⟩) (.inl (.inl (.inl rfl))) (.slice (some ⟨g, o + 1, none⟩) (m + 1) (cc - 1))
    have hk := h.keptZ hO2
    exact ⟨.slice none 0 0, by simp, ⟨_, vo', c', hF2, .inr ⟨by omega, by omega, xr, xs, xi, hb.keep hk, (hf.tail hnm).keep hk⟩, hO2⟩, by rw [if_neg h1]; exact IntsIn.nil _, fun q hq => by simp [Value.ownBlock] at hq⟩
end
end Go.Proofs.YtmcelldklmjlkaaDoor
