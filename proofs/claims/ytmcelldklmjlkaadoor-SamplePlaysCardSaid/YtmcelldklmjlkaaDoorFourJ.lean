/- A register of four slots: its functions, as the laws see them. -/
import Derived.Test.YtmcelldklmjlkaaDoorFourI
import Derived.Deep.DeepCutAuto
namespace Go.Proofs.YtmcelldklmjlkaaDoor
open Go.RowKit

def wordsOf (n : Int) : Nat := (min (max n 1) 6).toNat
theorem wordsOf_bd (n : Int) : 1 ≤ wordsOf n ∧ wordsOf n ≤ 6 := by unfold wordsOf; omega
theorem fnew_any (n : Int) (w : World) :
    Calls Tryd.prog 32 #[.int .i64 n] w fun e w' => ∃ b mb lb, e = .returned (.pointer (some ⟨b, 0, none⟩)) ∧ w.heap.size ≤ b ∧ w.heap.size ≤ mb ∧ w.heap.size ≤ lb ∧
      (∀ B, FAt w' B b mb lb (fun _ => False) (fun _ => False) (FS.new (wordsOf n)) (.slice none 0 0) (.slice none 0 0) (.slice none 0 0) (.slice none 0 0) 0) ∧ Below w.heap.size w w' := by
  have hwb := wordsOf_bd n
  have e0 : ((wordsOf n : Nat) : Int) = min (max n 1) 6 := by unfold wordsOf; omega
  generalize wordsOf n = W at *
  have HE := Lib.hid e0
  clear e0
  go_enter Tryd.func32, Tryd.ntmps32
  go_upto_region 1 with (fail)
  go_cut [0] (fun x wx => x = .int .i64 W ∧ wx = w)
  case first =>
    rcases (show n < 1 ∨ (1 ≤ n ∧ n ≤ 6) ∨ 6 < n by omega) with h | ⟨h, h'⟩ | h
    · rw [show min (max n 1) 6 = 1 from by omega] at HE
      go_wp2_with fail
      go_meet
      exact ⟨by rw [HE.out], rfl⟩
    · rw [show min (max n 1) 6 = n from by omega] at HE
      go_wp2_with fail
      go_meet
      exact ⟨by rw [HE.out], rfl⟩
    · rw [show min (max n 1) 6 = 6 from by omega] at HE
      go_wp2_with fail
      go_meet
      exact ⟨by rw [HE.out], rfl⟩
  case rest =>
    obtain ⟨rfl, rfl⟩ := hcut
    clear HE
    have w1 : IntKind.i64.wrap (4 * (W : Int)) = 4 * (W : Int) := by rw [IntKind.wrap_i64]; omega
    have w2 : IntKind.i64.wrap (4 + 4 * (W : Int)) = 4 + 4 * (W : Int) := by rw [IntKind.wrap_i64]; omega
    have HM0 := Lib.hid (mnew_any (4 + 4 * W) wc (by omega))
    rw [show ((4 + 4 * W : Nat) : Int) = 4 + 4 * (W : Int) by omega] at HM0
    go_wp2_with fail
    refine HM0.out.mono ?_
    rintro e w1 ⟨rfl, hM, hB⟩
    have HM := Lib.hid hM
    have HB := Lib.hid hB
    have hsz : wc.heap.size ≤ w1.heap.size := hB.size
    have hbn := Lib.hid (Blk.new w1 102 (regCells (FS.new W) (wc.heap.size + 1) (.slice none 0 0) (.slice none 0 0) (.slice none 0 0) (.slice none 0 0)))
    have HT := Lib.hid (show ∀ B, FAt (w1.alloc (.cells (regCells (FS.new W) (wc.heap.size + 1) (.slice none 0 0) (.slice none 0 0) (.slice none 0 0) (.slice none 0 0)) 102)) B w1.heap.size (wc.heap.size + 1) wc.heap.size (fun _ => False) (fun _ => False) (FS.new W) (.slice none 0 0) (.slice none 0 0) (.slice none 0 0) (.slice none 0 0) 0 from fun B =>
      ⟨hbn.out, ⟨HM.out.m.alloc _, HM.out.d.alloc _, HM.out.le⟩, IntsX.nil _ _, World.ownsRow_nil _ _ _ _, fun g hg => by simp [Value.ownBlock] at hg, fun _ e => e.elim, fun _ e => e.elim⟩)
    have HB3 := Lib.hid (HB.out.alloc hsz (.cells (regCells (FS.new W) (wc.heap.size + 1) (.slice none 0 0) (.slice none 0 0) (.slice none 0 0) (.slice none 0 0)) 102))
    clear hM hB hbn HM HB HM0
    go_wp2_with fail
    go_ret
    exact ⟨_, _, _, rfl, hsz, by omega, Nat.le_refl _, HT.out, HB3.out⟩
section
variable {W w w' : World} {b mb lb : Nat} {X : Nat → Prop} {s : FS}
theorem ctx_new (n : Int) (h : Below W.heap.size W w) :
    Calls Tryd.prog 32 #[.int .i64 n] w fun e w' => ∃ b mb lb, e = .returned (.pointer (some ⟨b, 0, none⟩)) ∧ Below w.heap.size w w' ∧ Ctx W w' b mb lb (fun _ => False) (FS.new (wordsOf n)) :=
  (fnew_any n w).mono fun e w' ⟨b, mb, lb, he, g1, g2, g3, hF, hB⟩ => by
    have hs := h.size
    have hb := wordsOf_bd n
    exact ⟨b, mb, lb, he, hB, ⟨_, _, _, _, _, _, hF _, .inl ⟨rfl, rfl⟩, .inl ⟨rfl, rfl⟩⟩, ok_new _ hb.1 hb.2, h.trans (hB.mono hs), Nat.le_trans hs g1, Nat.le_trans hs g2, Nat.le_trans hs g3⟩
theorem ctx_left (h : Ctx W w b mb lb X s) (x : Bool) :
    Calls Tryd.prog 46 #[.pointer (some ⟨b, 0, none⟩), .bool x] w fun e w' => e = .returned (.int .i64 (s.left x)) ∧ w = w' := by
  obtain ⟨Z, vl, vi, vr, vo, c, hF, hL, hR⟩ := h.at_
  obtain ⟨A1, c1, rfl⟩ := hL.form
  obtain ⟨A2, c2, rfl⟩ := hR.form
  cases x
  · exact left_r hF
  · exact left_w hF
theorem ctx_drop (h : Ctx W w b mb lb X s) (x : Bool) :
    Calls Tryd.prog 37 #[.pointer (some ⟨b, 0, none⟩), .bool x] w fun e w' => e = .returned (.bool (decide (0 < s.left x))) ∧ Ctx W w' b mb lb X (s.drop x) ∧ Kept X w w' := by
  obtain ⟨Z, vl, vi, vr, vo, c, hF, hL, hR⟩ := h.at_
  obtain ⟨A1, c1, rfl⟩ := hL.form
  obtain ⟨A2, c2, rfl⟩ := hR.form
  have hok := ok_drop h.ok x
  cases x
  · refine (drop_r hF).mono fun e w' ⟨he, hF', hO⟩ => ⟨he, h.turn hF (onl_mono hO fun k e => .inl e) hok ⟨Z, _, _, _, _, _, hF', hL.keep (hF.keptZ (onl_mono hO fun k e => .inl e)), .inl ⟨rfl, rfl⟩⟩⟩
  · refine (drop_w hF).mono fun e w' ⟨he, hF', hO⟩ => ⟨he, h.turn hF (onl_mono hO fun k e => .inl e) hok ⟨Z, _, _, _, _, _, hF', .inl ⟨rfl, rfl⟩, hR.keep (hF.keptZ (onl_mono hO fun k e => .inl e))⟩⟩
theorem below_kept (h : Ctx W w b mb lb X s) (hb : Below w.heap.size w w') : Kept X w w' := fun k e => hb.block k (h.lt k e)
theorem ctx_wr (h : Ctx W w b mb lb X s) {v : Value} {l : List Int} (hv : IntsIn w v l) (hl : l.length ≤ 65536) :
    Calls Tryd.prog 33 #[.pointer (some ⟨b, 0, none⟩), v] w fun e w' => e = .returned (.int .i64 (s.wr l).2) ∧ Ctx W w' b mb lb X (s.wr l).1 ∧ Kept X w w' := by
  obtain ⟨Z, vl, vi, vr, vo, c, hF, hL, hR⟩ := h.at_
  have hok := ok_wr h.ok l
  unfold FS.wr at hok ⊢
  by_cases hg : l.length = s.W ∧ allOk l
  · rw [if_pos hg] at hok ⊢
    by_cases hiw : s.iw = 0
    · rw [if_pos hiw] at hok ⊢
      have hvl : vl = .slice none 0 0 := by
        rcases hL with ⟨_, e⟩ | ⟨e, _⟩
        · exact e
        · omega
      subst hvl
      refine (write_begin hF hv hg.1 hg.2 h.ok.w1 h.ok.w6).mono fun e w' ⟨he, vl', vi', Z', hF', hL', hz, hO⟩ => ⟨he, ?_⟩
      have hO2 : Only (turnS b mb lb vo) w w' := onl_mono hO fun k e => .inl e
      exact h.turn hF hO2 hok ⟨Z', vl', vi', vr, vo, c, hF', hL', (hR.keep (hF.keptZ hO2)).mono hz⟩
    · rw [if_neg hiw] at hok ⊢
      obtain ⟨A1, c1, rfl⟩ := hL.form
      exact (write_busy hF (by omega) hv hl hg.1 hg.2).mono fun e w' ⟨he, hb⟩ => ⟨he, h.below hb, below_kept h hb⟩
  · rw [if_neg hg] at hok ⊢
    exact (write_bad hF hv hl hg).mono fun e w' ⟨he, hb⟩ => ⟨he, h.below hb, below_kept h hb⟩
theorem ctx_rd (h : Ctx W w b mb lb X s) :
    Calls Tryd.prog 38 #[.pointer (some ⟨b, 0, none⟩)] w fun e w' => e = .returned (.int .i64 s.rd.2) ∧ Ctx W w' b mb lb X s.rd.1 ∧ Kept X w w' := by
  obtain ⟨Z, vl, vi, vr, vo, c, hF, hL, hR⟩ := h.at_
  have hok := ok_rd h.ok
  unfold FS.rd at hok ⊢
  by_cases how : s.ow = 0
  · rw [if_pos how] at hok ⊢
    have hvr : vr = .slice none 0 0 := by
      rcases hR with ⟨_, e⟩ | ⟨e, _⟩
      · exact e
      · omega
    subst hvr
    refine (read_begin hF h.ok.w1 h.ok.w6).mono fun e w' ⟨he, vr', Z', hF', hR', hz, hO⟩ => ⟨he, ?_⟩
    have hO2 : Only (turnS b mb lb vo) w w' := onl_mono hO fun k e => .inl e
    exact h.turn hF hO2 hok ⟨Z', vl, vi, vr', _, c, hF', (hL.keep (hF.keptZ hO2)).mono hz, hR'⟩
  · rw [if_neg how] at hok ⊢
    obtain ⟨A1, c1, rfl⟩ := hR.form
    exact (read_busy hF (by omega)).mono fun e w' ⟨he, hb⟩ => ⟨he, h.below hb, below_kept h hb⟩
theorem ctx_stepW (h : Ctx W w b mb lb X s) :
    Calls Tryd.prog 36 #[.pointer (some ⟨b, 0, none⟩), .bool true] w fun e w' => e = .returned (.tuple #[.slice none 0 0, .bool s.stepW.2.2.1, .int .i64 s.stepW.2.2.2]) ∧ Ctx W w' b mb lb X s.stepW.1 ∧ Kept X w w' := by
  obtain ⟨Z, vl, vi, vr, vo, c, hF, hL, hR⟩ := h.at_
  have hok := ok_stepW h.ok
  have hW6 := h.ok.w6
  unfold FS.stepW at hok ⊢
  by_cases h0 : s.iw = 0
  · rw [if_pos h0] at hok ⊢
    have hvl : vl = .slice none 0 0 := by
      rcases hL with ⟨_, e⟩ | ⟨e, _⟩
      · exact e
      · omega
    subst hvl
    exact (stepw_idle hF.c2).mono fun e w' ⟨he, hw⟩ => ⟨he, hw ▸ h, hw ▸ fun _ _ => rfl⟩
  · rw [if_neg h0] at hok ⊢
    obtain ⟨hn, hnm, xr, xs, xi, hb, hf⟩ := hL.resolve_left (fun e => h0 e.1)
    have hil := h.ok.il h0
    have key : ∀ {N : Nat} {cap : Array Value}, wfn xr xs xi s.W (s.W + 4 - s.iw) = .func (.func N) #[] cap → (∀ w, (callFunc N cap).run Tryd.prog w = .ok (.enter N cap) w) →
        (Calls Tryd.prog N cap w fun e w' => e = .returned (.tuple #[]) ∧ ∃ c', FAt w' W.heap.size b mb lb X Z s.accW vl vi vr vo c' ∧ Only (turnS b mb lb vo) w w') →
        Calls Tryd.prog 36 #[.pointer (some ⟨b, 0, none⟩), .bool true] w fun e w' => e = .returned (.tuple #[.slice none 0 0, .bool (decide (s.iw = 1)), .int .i64 0]) ∧ Ctx W w' b mb lb X { s.accW with iw := s.iw - 1 } ∧ Kept X w w' := fun hN hcf HA =>
      (stepw_gen hF hb hf hn hnm hN hcf HA).mono fun e w' ⟨he, vl', c', hF', hL', hO⟩ => by
        have hW : s.accW.W = s.W ∧ s.accW.ow = s.ow := by unfold FS.accW; repeat (first | exact ⟨rfl, rfl⟩ | split)
        exact ⟨he, h.turn hF hO hok ⟨Z, vl', vi, vr, vo, c', hF', by rw [show ({ s.accW with iw := s.iw - 1 } : FS).W = s.W from hW.1]; exact hL', by rw [show ({ s.accW with iw := s.iw - 1 } : FS).W = s.W from hW.1, show ({ s.accW with iw := s.iw - 1 } : FS).ow = s.ow from hW.2]; exact hR.keep (hF.keptZ hO)⟩⟩
    by_cases e1 : s.iw = s.W + 4
    · have b1 := h.ok.bit 1 (by omega)
      refine key (N := 51) (by unfold wfn; rw [if_pos (by omega)]) (fun _ => by kernel_rfl) ?_
      rw [show s.accW = { s with ip := 1 - s.g 1 } by unfold FS.accW; rw [if_pos e1]]
      exact acc_w0 hF hb b1.1 b1.2
    by_cases e2 : s.iw = s.W + 3
    · have b1 := h.ok.bit (2 + s.ip) (by have := h.ok.ip; omega)
      refine key (N := 53) (by unfold wfn; rw [if_neg (by omega), if_pos (by omega)]) (fun _ => by kernel_rfl) ?_
      rw [show s.accW = { s with iq := 1 - s.g (2 + s.ip) } by unfold FS.accW; rw [if_neg e1, if_pos e2]]
      exact acc_w1 hF hb h.ok.ip b1.1 b1.2
    by_cases e3 : 2 < s.iw
    · have hx : s.il[s.W + 2 - s.iw]? = some (s.il[s.W + 2 - s.iw]?.getD 0) := by
        rw [List.getElem?_eq_getElem (by omega)]
        rfl
      have hxo := hil.2 _ (List.mem_of_getElem? hx)
      refine key (N := 54) (by unfold wfn; rw [if_neg (by omega), if_neg (by omega), if_pos (by omega), show s.W + 4 - s.iw - 2 = s.W + 2 - s.iw by omega]) (fun _ => by kernel_rfl) ?_
      rw [show s.accW = { s with mem := s.mem.set (s.widx (s.W + 2 - s.iw)) (s.il[s.W + 2 - s.iw]?.getD 0) } by unfold FS.accW; rw [if_neg e1, if_neg e2, if_pos e3]]
      exact acc_w2 hF hb (by omega) hW6 h.ok.ip h.ok.iq (slot_lt h.ok h.ok.ip h.ok.iq (by omega)) hx hxo.1 hxo.2
    by_cases e4 : s.iw = 2
    · refine key (N := 58) (by unfold wfn; rw [if_neg (by omega), if_neg (by omega), if_neg (by omega), if_pos (by omega)]) (fun _ => by kernel_rfl) ?_
      rw [show s.accW = { s with mem := s.mem.set (2 + s.ip) (s.iq : Int) } by unfold FS.accW; rw [if_neg e1, if_neg e2, if_neg e3, if_pos e4]]
      exact acc_w3 hF hb h.ok.ip h.ok.iq (by have := h.ok.len; omega)
    · refine key (N := 59) (by unfold wfn; rw [if_neg (by omega), if_neg (by omega), if_neg (by omega), if_neg (by omega)]) (fun _ => by kernel_rfl) ?_
      rw [show s.accW = { s with mem := s.mem.set 0 (s.ip : Int) } by unfold FS.accW; rw [if_neg e1, if_neg e2, if_neg e3, if_neg e4]]
      exact acc_w4 hF hb h.ok.ip (by have := h.ok.len; omega)
theorem ctx_stepR (h : Ctx W w b mb lb X s) :
    Calls Tryd.prog 36 #[.pointer (some ⟨b, 0, none⟩), .bool false] w fun e w' => ∃ v, e = .returned (.tuple #[v, .bool s.stepR.2.2.1, .int .i64 s.stepR.2.2.2]) ∧ (Ctx W w' b mb lb X s.stepR.1 ∧ Kept X w w') ∧ IntsIn w' v s.stepR.2.1 ∧ ∀ g, v.ownBlock = some g → w.heap.size ≤ g := by
  obtain ⟨Z, vl, vi, vr, vo, c, hF, hL, hR⟩ := h.at_
  have hok := ok_stepR h.ok
  have hW6 := h.ok.w6
  have hol' := h.ok.ol'
  unfold FS.stepR at hok ⊢
  by_cases h0 : s.ow = 0
  · rw [if_pos h0] at hok ⊢
    have hvr : vr = .slice none 0 0 := by
      rcases hR with ⟨_, e⟩ | ⟨e, _⟩
      · exact e
      · omega
    subst hvr
    exact (stepr_idle hF.c6).mono fun e w' ⟨he, hw⟩ => ⟨_, he, ⟨hw ▸ h, hw ▸ fun _ _ => rfl⟩, IntsIn.nil _, fun g hg => by simp [Value.ownBlock] at hg⟩
  · rw [if_neg h0] at hok ⊢
    obtain ⟨hn, hnm, xr, xs, xi, hb, hf⟩ := hR.resolve_left (fun e => h0 e.1)
    have hol := h.ok.ol h0
    have hacl : s.accR.ol.length ≤ 65536 := by
      unfold FS.accR
      split
      · simp only; omega
      split
      · simp only; omega
      split
      · simp only; omega
      · simp; omega
    have key : ∀ {N : Nat} {cap : Array Value}, rfn xr xs xi (s.W + 3 - s.ow) = .func (.func N) #[] cap → (∀ w, (callFunc N cap).run Tryd.prog w = .ok (.enter N cap) w) →
        (Calls Tryd.prog N cap w fun e w' => e = .returned (.tuple #[]) ∧ ∃ c' vo', FAt w' W.heap.size b mb lb X Z s.accR vl vi vr vo' c' ∧ Only (turnS b mb lb vo) w w') →
        Calls Tryd.prog 36 #[.pointer (some ⟨b, 0, none⟩), .bool false] w fun e w' => ∃ v, e = .returned (.tuple #[v, .bool (decide (s.ow = 1)), .int .i64 0]) ∧ (Ctx W w' b mb lb X { s.accR with ow := s.ow - 1 } ∧ Kept X w w') ∧ IntsIn w' v (if s.ow = 1 then s.accR.ol else []) ∧ ∀ g, v.ownBlock = some g → w.heap.size ≤ g := fun hN hcf HA =>
      (stepr_gen hF hb hf hn hnm hacl hN hcf HA).mono fun e w' ⟨v', he, ⟨vr', vo', c', hF', hR', hO⟩, hi, hg⟩ => by
        have hW : s.accR.W = s.W ∧ s.accR.iw = s.iw := by unfold FS.accR; repeat (first | exact ⟨rfl, rfl⟩ | split)
        exact ⟨v', he, h.turn hF hO hok ⟨Z, vl, vi, vr', vo', c', hF', by rw [show ({ s.accR with ow := s.ow - 1 } : FS).W = s.W from hW.1, show ({ s.accR with ow := s.ow - 1 } : FS).iw = s.iw from hW.2]; exact hL.keep (hF.keptZ hO), by rw [show ({ s.accR with ow := s.ow - 1 } : FS).W = s.W from hW.1]; exact hR'⟩, hi, hg⟩
    have same : ∀ {N : Nat} {cap : Array Value}, (Calls Tryd.prog N cap w fun e w' => e = .returned (.tuple #[]) ∧ ∃ c', FAt w' W.heap.size b mb lb X Z s.accR vl vi vr vo c' ∧ Only (turnS b mb lb vo) w w') → (Calls Tryd.prog N cap w fun e w' => e = .returned (.tuple #[]) ∧ ∃ c' vo', FAt w' W.heap.size b mb lb X Z s.accR vl vi vr vo' c' ∧ Only (turnS b mb lb vo) w w') :=
      fun H => H.mono fun e w' ⟨he, c', hF', hO⟩ => ⟨he, c', vo, hF', hO⟩
    by_cases e1 : s.ow = s.W + 3
    · have b1 := h.ok.bit 0 (by omega)
      refine key (N := 61) (by unfold rfn; rw [if_pos (by omega)]) (fun _ => by kernel_rfl) (same ?_)
      rw [show s.accR = { s with op := s.g 0 } by unfold FS.accR; rw [if_pos e1]]
      exact acc_r0 hF hb b1.1
    by_cases e2 : s.ow = s.W + 2
    · refine key (N := 62) (by unfold rfn; rw [if_neg (by omega), if_pos (by omega)]) (fun _ => by kernel_rfl) (same ?_)
      rw [show s.accR = { s with mem := s.mem.set 1 (s.op : Int) } by unfold FS.accR; rw [if_neg e1, if_pos e2]]
      exact acc_r1 hF hb h.ok.op (by have := h.ok.len; omega)
    by_cases e3 : s.ow = s.W + 1
    · have b1 := h.ok.bit (2 + s.op) (by have := h.ok.op; omega)
      refine key (N := 63) (by unfold rfn; rw [if_neg (by omega), if_neg (by omega), if_pos (by omega)]) (fun _ => by kernel_rfl) (same ?_)
      rw [show s.accR = { s with oq := s.g (2 + s.op) } by unfold FS.accR; rw [if_neg e1, if_neg e2, if_pos e3]]
      exact acc_r2 hF hb h.ok.op b1.1
    · have hlt := slot_lt h.ok h.ok.op h.ok.oq (show s.W - s.ow < s.W by omega)
      have hx : s.mem[s.ridx (s.W - s.ow)]? = some (s.mem[s.ridx (s.W - s.ow)]?.getD 0) := by
        rw [List.getElem?_eq_getElem (show s.ridx (s.W - s.ow) < s.mem.length from hlt)]
        rfl
      refine key (N := 64) (by unfold rfn; rw [if_neg (by omega), if_neg (by omega), if_neg (by omega), show s.W + 3 - s.ow - 3 = s.W - s.ow by omega]) (fun _ => by kernel_rfl) ?_
      rw [show s.accR = { s with ol := s.ol ++ [s.mem[s.ridx (s.W - s.ow)]?.getD 0] } by unfold FS.accR; rw [if_neg e1, if_neg e2, if_neg e3]]
      exact acc_r3 hF hb (by omega) hW6 h.ok.op h.ok.oq h.bel.size (by omega) hx
theorem ctx_step (h : Ctx W w b mb lb X s) (x : Bool) :
    Calls Tryd.prog 36 #[.pointer (some ⟨b, 0, none⟩), .bool x] w fun e w' => ∃ v, e = .returned (.tuple #[v, .bool (s.step x).2.2.1, .int .i64 (s.step x).2.2.2]) ∧ (Ctx W w' b mb lb X (s.step x).1 ∧ Kept X w w') ∧ IntsIn w' v (s.step x).2.1 ∧ ∀ g, v.ownBlock = some g → w.heap.size ≤ g := by
  cases x
  · exact ctx_stepR h
  · have hn : s.stepW.2.1 = [] := by unfold FS.stepW; split <;> rfl
    refine (ctx_stepW h).mono fun e w' ⟨he, hc⟩ => ⟨.slice none 0 0, he, hc, ?_, fun g hg => by simp [Value.ownBlock] at hg⟩
    show IntsIn w' _ s.stepW.2.1
    rw [hn]
    exact IntsIn.nil _
end
end Go.Proofs.YtmcelldklmjlkaaDoor
