/- The reference's ring: a word is popped. -/
import Derived.Test.YtelfclcljdjohaaDoorRefB
import Derived.Test.YtelfclcljdjohaaDoorRefC
import Derived.Deep.RegionHeld3
import Derived.Deep.MidRow
namespace Go.Proofs.YtelfclcljdjohaaDoor
open Go.RowKit

theorem Boxed.low {T : TypeId} {w wx w' : World} {x y B : Nat} {cs : Array Value} (h : Boxed T w wx x y cs) (hb : Below B wx w') (hx : x < B) (hy : y < B) (hw : w.heap.size ≤ B) : Boxed T w w' x y cs := by
  obtain ⟨zs, hz, hyb⟩ := h.hy
  exact ⟨h.hx.of (hb.block x hx), ⟨zs, hz, hyb.of (hb.block y hy)⟩, h.bel.trans (hb.mono hw), h.gx, h.gy, h.ne⟩
/-- append(nil, nil..). -/
theorem app_none {W : World} {ops : Array Oper} {rest : List Oper} {o : Oper} {a : Act} {Q : Exit → Act → World → Prop} (hgd : o.guard = none) (s x : Operand)
    (ho : o.op = .call { callee := .builtin .append, args := #[s, x], argTypes := #[32, 32] }) (hs : a.eval s = .slice none 0 0) (hx : a.eval x = .slice none 0 0)
    (h : wpList Tryd.prog ops Q rest (a.put o.dst (.slice none 0 0)) W) : wpList Tryd.prog ops Q (o :: rest) a W := by
  refine wpList_plain hgd fun K hK => ?_
  have hrun : ∀ ty, (Builtin.append_ #[32, 32] ty #[.slice none 0 0, .slice none 0 0]).run Tryd.prog W = .ok (.slice none 0 0) W := fun ty => by kernel_rfl
  unfold Oper.wp
  simp [execOp, ho, resolve, invoke, builtin, hs, hx, hrun, Result.andThen]
  exact hK _ _ h
set_option maxRecDepth 100000 in
set_option maxHeartbeats 3200000 in
theorem rpop3a {w : World} {X : Nat → Prop} {r : RF} {s : RS} (h : RefIn w X r s) (hk : s.ok) (h3 : s.oa = 3) (hn : s.ol.length < s.W) :
    Calls Tryd.prog 46 #[r.v] w fun e w' => ∃ r', e = .returned (.tuple #[RF.v r', .bool s.stepR.2.2.1, .int .i64 s.stepR.2.2.2]) ∧ Below w.heap.size w w' ∧ RefIn w' (newX X w w') r' s.stepR.1 := by
  rw [sr3 h3, if_pos hn]
  obtain ⟨htk, hoh⟩ := h.c3 h3
  have hD := h.D
  have hW := h.W
  have hP1 := hk.p1
  have hP8 := hk.p8
  have hW6 := hk.w6
  have hit := hk.oh
  have hq : s.oh % s.P < s.P := Nat.mod_lt _ (by omega)
  have hle := row_len hk _ hq
  obtain ⟨val, hval⟩ : ∃ val, s.word = val := ⟨_, rfl⟩
  rw [hval]
  have hrv : (s.row (s.oh % s.P))[s.ol.length]? = some val := by
    have hri := row_in hk _ hq
    rw [row_at _ _ _ hn, ← hval]
    unfold RS.word
    rw [List.getElem?_eq_getElem (by omega)]
    rfl
  obtain ⟨Ad, cd, gd, od, hdv, hdA, hdc⟩ : ∃ Ad cd g o, (r.d (s.oh % s.P)).v = .slice Ad (s.row (s.oh % s.P)).length cd ∧ Ad = some ⟨g, o, none⟩ ∧ w.cell? ⟨g, o + s.ol.length, none⟩ = some (.int .i64 val) := by
    obtain ⟨A', c', e, -, hc⟩ := (h.d _ hq).ints
    obtain ⟨g, o, rfl, hcell⟩ := hc (by omega)
    refine ⟨_, c', g, o, e, rfl, ?_⟩
    rw [hcell s.ol.length (by omega)]
    rw [List.getElem?_eq_getElem (by omega)] at hrv
    rw [Option.some.inj hrv]
  subst hdA
  have HOL := Lib.hid (show ∀ w', Below w.heap.size w w' → IntsIn w' r.out.v s.ol from fun w' hb => ((h.ol (by omega)).below hb).ints)
  have HOF := Lib.hid (show ∃ A c, r.out = ⟨A, s.ol.length, c⟩ ∧ (s.ol = [] → A = none ∧ c = 0) from by
    obtain ⟨A, c, e, -⟩ := (h.ol (by omega)).form
    have e' : Value.slice r.out.A r.out.n r.out.c = .slice A s.ol.length c := e
    injection e' with e1 e2 e3
    refine ⟨A, c, by cases hro : r.out; simp_all, fun hz => ?_⟩
    have := h.on (by omega) hz
    rw [this] at e1 e3
    exact ⟨e1.symm, e3.symm⟩)
  have ht : (s.oh : Int).tmod (s.P : Int) = ((s.oh % s.P : Nat) : Int) := by rw [Int.tmod_eq_emod_of_nonneg (by omega)]; omega
  have w0 : IntKind.i64.wrap ((s.oh % s.P : Nat) : Int) = ((s.oh % s.P : Nat) : Int) := by rw [IntKind.wrap_i64]; omega
  have hne1 : ¬ (s.P : Int) = 0 := by omega
  have hne2 : ¬ s.P = 0 := by omega
  have b0 : ((2 + (s.ol.length : Int)) == 0) = false := by simp; omega
  have b1 : ((2 + (s.ol.length : Int)) == 1) = false := by simp; omega
  have b2 : 2 + (s.ol.length : Int) < 2 + (s.W : Int) := by omega
  have b3 : 2 + (s.ol.length : Int) - 2 = (s.ol.length : Int) := by omega
  have b4 : ((s.oh % s.P : Nat) : Int) < 8 := by omega
  have b5 : (0 : Int) ≤ ((s.oh % s.P : Nat) : Int) := by omega
  have b7 : (s.ol.length : Int) < ((s.row (s.oh % s.P)).length : Int) := by omega
  have b8 : (0 : Int) ≤ (s.ol.length : Int) := by omega
  have hol6 : s.ol.length ≤ 6 := by omega
  unfold RF.v
  go_enter Tryd.func46, Tryd.ntmps46
  go_upto_region 0 with (fail)
  go_cut [1, 2, 3, 4] (fun p0 p1 p2 p3 wx => ∃ x y, p0 = .pointer (some ⟨x, 0, none⟩) ∧ p1 = .pointer (some ⟨y, 0, none⟩) ∧ p2 = .bool false ∧ p3 = .int .i64 0 ∧ Boxed 51 w wx x y r.cells)
  case first =>
    go_wp2_with fail
    go_meet
    exact ⟨_, _, rfl, rfl, rfl, rfl, boxed_new _ _ _ _ rfl⟩
  case rest =>
    obtain ⟨x, y, rfl, rfl, rfl, rfl, hB⟩ := hcut
    have HR := Lib.hid (show ∀ w', Below w.heap.size w w' → RefIn w' (newX X w w') r s from fun w' hb => h.go hb)
    have k_W : wc.cell? ⟨x, 1, none⟩ = some (.int .i64 r.W) := (hB.hx.cell 1).trans rfl
    have k_tk : wc.cell? ⟨x, 15, none⟩ = some (.int .i64 r.tk) := (hB.hx.cell 15).trans rfl
    have f_tk := hB.hx.fr 15
    rw [htk] at k_tk
    rw [hW] at k_W
    have hB1 := Lib.hid (show Boxed 51 w (wc.setCell ⟨x, 15, none⟩ (.int .i64 (2 + (s.ol.length : Int) + 1))) x y ({ r with tk := 2 + (s.ol.length : Int) + 1 } : RF).cells from hB.set 15 (.int .i64 (2 + (s.ol.length : Int) + 1)))
    have k_out : (wc.setCell ⟨x, 15, none⟩ (.int .i64 (2 + (s.ol.length : Int) + 1))).cell? ⟨x, 21, none⟩ = some r.out.v := (hB1.out.hx.cell 21).trans rfl
    have hsz : (wc.setCell ⟨x, 15, none⟩ (.int .i64 (2 + (s.ol.length : Int) + 1))).heap.size = wc.heap.size := by simp [World.setCell]
    have HIC := Lib.hid hdc
    have HQ := Lib.hid (And.intro hoh hD)
    have HDV := Lib.hid hdv
    clear h htk hoh hD hW hdv hk hit hval hB hdc hrv
    generalize hqe : s.oh % s.P = q at *
    generalize hre : s.row q = l at *
    have HQE := Lib.hid (And.intro hqe hre)
    clear hqe hre
    obtain ⟨wO, B0, hB0, hBe, hwO⟩ : ∃ (wO : World) (B0 : Nat), B0 ≤ wc.heap.size ∧ wc.heap.size ≤ B0 ∧ wO.heap.size = B0 := ⟨wc, wc.heap.size, Nat.le_refl _, Nat.le_refl _, rfl⟩
    have hxB : x < B0 := by have := hB1.out.hx.lt; omega
    have hyB : y < B0 := by obtain ⟨zs, _, hy⟩ := hB1.out.hy; have := hy.lt; omega
    have hwB : w.heap.size ≤ B0 := by have := hB1.out.bel.size; omega
    go_upto_region 14 with (fail)
    go_cut [6] (fun v wx => wx.ownsRow B0 3 1 v s.ol.length (nums s.ol) ∧ Boxed 51 w wx x y ({ r with tk := 2 + (s.ol.length : Int) + 1 } : RF).cells ∧ B0 ≤ wx.heap.size)
    case first =>
      obtain ⟨Ao, co, hout, hnil⟩ := HOF.out
      rw [hout] at k_out
      simp only [Sl.v] at k_out
      by_cases hz : s.ol = []
      · obtain ⟨rfl, rfl⟩ := hnil hz
        have hlz : s.ol.length = 0 := by rw [hz]; rfl
        have k_out' := k_out
        rw [hlz] at k_out'
        have HZ := Lib.hid hz
        clear hz hlz k_out hnil
        have k_out2 : (wc.setCell ⟨x, 15, none⟩ (.int .i64 (2 + (s.ol.length : Int) + 1))).cell? ⟨x, 21, none⟩ = some (.slice none 0 0) := by
          have h0 : s.ol.length = 0 := by rw [HZ.out]; rfl
          rw [h0]
          exact k_out'
        clear k_out'
        go_wp2_with (at_builtin; go_loud (refine app_none rfl _ _ rfl rfl rfl ?_))
        go_wp2_with fail
        go_meet
        exact ⟨by rw [HZ.out]; exact World.ownsRow_nil _ _ _ _, hB1.out, by rw [hsz]; exact hB0⟩
      · have hl0 : 0 < s.ol.length := List.length_pos_iff.2 hz
        have HI := HOL.out _ hB1.out.bel
        rw [hout] at HI
        go_wp2_with (at_builtin; go_loud (refine app_copy rfl _ _ rfl s.ol rfl _ rfl HI hl0 (by omega) ?_))
        intro v' w2 ho hb
        have hB2 := Lib.hid (hB1.out.go (by rw [hsz]; exact hb))
        have HO := Lib.hid ho
        have HS := Lib.hid (show B0 ≤ w2.heap.size by have := hb.size; omega)
        clear ho hb HI hB1
        go_wp2_with fail
        go_meet
        exact ⟨ownsRow_mono HO.out hB0, hB2.out, HS.out⟩
    case rest =>
      obtain ⟨ho, hB2, hS⟩ := hcut
      obtain ⟨Av, cv, rfl⟩ := own_form ho
      have k_oh : wc.cell? ⟨x, 18, none⟩ = some (.int .i64 (s.oh : Int)) := (hB2.hx.cell 18).trans (by rw [← HQ.out.1]; rfl)
      have k_D : wc.cell? ⟨x, 0, none⟩ = some (.int .i64 (s.P : Int)) := (hB2.hx.cell 0).trans (by rw [← HQ.out.2]; rfl)
      have k_d : wc.cell? ⟨x, 4 + q, none⟩ = some (.slice (some ⟨gd, od, none⟩) l.length cd) := (hB2.hx.cell _).trans (by
        rw [RF.cd _ _ (by omega), ← HDV.out]
        have e : ({ r with tk := 2 + (s.ol.length : Int) + 1 } : RF).d q = r.d q := rfl
        rw [e])
      have k_e : wc.cell? ⟨gd, od + s.ol.length, none⟩ = some (.int .i64 val) := (hB2.bel.cell (p := ⟨gd, od + s.ol.length, none⟩) (World.block_lt_of_cell? _ _ HIC.out)).trans HIC.out
      have k21 : wc.cell? ⟨x, 21, none⟩ = some r.out.v := (hB2.hx.cell 21).trans rfl
      have HB2 := Lib.hid hB2
      have HO := Lib.hid ho
      clear hB1 k_out hsz HOL HOF ho hB2 k_W k_tk f_tk
      go_wp2_with (at_builtin; go_loud (refine app_one (W := wc) rfl _ _ 32 rfl B0 3 (.int .i64 0) 1 8 Tryd.underlying32 infoInt rfl (by decide) (.slice Av s.ol.length cv) s.ol.length (nums s.ol) rfl HO.out #[.int .i64 val] rfl rfl ?_ ?_ ?_ ?_ ?_))
      · simp [Value.oneCell']
      · omega
      · omega
      · exact hS
      intro v' w3 hown' hbel' _
      obtain ⟨A', c', rfl⟩ := own_form hown'
      have HB3 := Lib.hid (HB2.out.low hbel' hxB hyB hwB)
      have k3 : w3.cell? ⟨x, 21, none⟩ = some r.out.v := (HB3.out.hx.cell 21).trans rfl
      have f3 := HB3.out.hx.fr 21
      have HB4 := Lib.hid (show Boxed 51 w (w3.setCell ⟨x, 21, none⟩ (.slice A' (s.ol.length + 1) c')) x y ({ r with tk := 2 + (s.ol.length : Int) + 1, out := ⟨A', s.ol.length + 1, c'⟩ } : RF).cells from HB3.out.set 21 (.slice A' (s.ol.length + 1) c'))
      obtain ⟨zs, hz, hy⟩ := HB4.out.hy
      have HY := Lib.hid (And.intro hz hy)
      have HNEW := Lib.hid (show IntsX ((w3.setCell ⟨x, 21, none⟩ (.slice A' (s.ol.length + 1) c')).setRow y ({ r with tk := 2 + (s.ol.length : Int) + 1, out := ⟨A', s.ol.length + 1, c'⟩ } : RF).cells) (newX X w ((w3.setCell ⟨x, 21, none⟩ (.slice A' (s.ol.length + 1) c')).setRow y ({ r with tk := 2 + (s.ol.length : Int) + 1, out := ⟨A', s.ol.length + 1, c'⟩ } : RF).cells)) (.slice A' (s.ol.length + 1) c') (s.ol ++ [val]) from by
        have h1 : IntsX w3 (newX (fun _ => False) wO w3) (.slice A' (s.ol.length + 1) c') (s.ol ++ [val]) := IntsX.own hown' (by simp [nums]) (by omega)
        have h2 := h1.keep (w' := (w3.setCell ⟨x, 21, none⟩ (.slice A' (s.ol.length + 1) c')).setRow y ({ r with tk := 2 + (s.ol.length : Int) + 1, out := ⟨A', s.ol.length + 1, c'⟩ } : RF).cells) (fun g hg => by
          rcases hg with e | ⟨e, -⟩
          · exact e.elim
          · rw [setRow_other _ _ _ _ (by omega), Below.heap_setCell _ _ _ _ (by simp only []; omega)])
        exact h2.mono (fun g hg => by
          rcases hg with e | ⟨e, e'⟩
          · exact e.elim
          · exact .inr ⟨by omega, by simpa [World.setCell] using e'⟩))
      clear hz hy hown' hbel' HB3 HB2 HO k_oh k_D k_d k_e k21 HIC
      go_wp2_with (first
        | (refine wpList_load_row rfl 51 _ rfl x rfl 51 _ (0, 0) _ HB4.out.hx Tryd.underlying51 rfl rinfo ?_)
        | (refine wpList_store_row rfl 51 _ _ rfl y _ rfl rfl 51 zs HY.out.2 rinfo HY.out.1 (RF.ones _) ?_))
      (try simp only [Exit.inBlock, Exit.then]); refine bodyPost_ret (res_c3 rfl _ rfl HB4.out.row Tryd.underlying51 rfl rinfo) rfl ?_
      exact ⟨_, rfl, HB4.out.end_, refin_r3a (HR.out _ HB4.out.end_) h3 val _ HNEW.out⟩
end Go.Proofs.YtelfclcljdjohaaDoor
