/- The reference's port: Cut, Sub, Add, Write. -/
import Derived.Test.YtmcelldklmjlkaaDoorSrefB
import Derived.Test.YtmcelldklmjlkaaDoorSampA
namespace Go.Proofs.YtmcelldklmjlkaaDoor
open Go.RowKit

theorem rcut_any (n : Int) (w : World) : Calls Tryd.prog 16 #[.int .i64 n] w fun e w' => e = .returned (.int .i64 (cut n)) ∧ w = w' := by
  rcases (show n < 0 ∨ (0 ≤ n ∧ n ≤ 4611686018427387904) ∨ 4611686018427387904 < n by omega) with h | ⟨h, h'⟩ | h
  · rw [show cut n = 0 by unfold cut; omega]
    go_enter Tryd.func16, Tryd.ntmps16
    go_wp2
    go_ret
    exact ⟨rfl, rfl⟩
  · rw [show cut n = n by unfold cut; omega]
    go_enter Tryd.func16, Tryd.ntmps16
    go_wp2
    go_ret
    exact ⟨rfl, rfl⟩
  · rw [show cut n = 4611686018427387904 by unfold cut; omega]
    go_enter Tryd.func16, Tryd.ntmps16
    go_wp2
    go_ret
    exact ⟨rfl, rfl⟩
theorem rsub_any (a b : Int) (w : World) : Calls Tryd.prog 68 #[.int .i64 a, .int .i64 b] w fun e w' => e = .returned (.int .i64 (ageI a b)) ∧ w = w' := by
  have ha := cut_bd a
  have hb := cut_bd b
  have HA := Lib.hid (rcut_any a w)
  have HB := Lib.hid (rcut_any b w)
  have HC := Lib.hid (rcut_any (cut a - cut b) w)
  unfold ageI
  generalize cut a = x at *
  generalize cut b = y at *
  obtain ⟨a1, a2⟩ := ha
  obtain ⟨b1, b2⟩ := hb
  go_enter Tryd.func68, Tryd.ntmps68
  go_wp2_with fail
  refine HA.out.mono ?_
  rintro e w' ⟨rfl, rfl⟩
  go_wp2_with fail
  refine HB.out.mono ?_
  rintro e w' ⟨rfl, rfl⟩
  go_wp2_with fail
  refine HC.out.mono ?_
  rintro e w' ⟨rfl, rfl⟩
  go_wp2
  go_ret
  exact ⟨rfl, rfl⟩
/-- The sum of two ticks. -/
def addI (a b : Int) : Int := min (cut a + cut b) 4611686018427387904
theorem radd_any (a b : Int) (w : World) : Calls Tryd.prog 25 #[.int .i64 a, .int .i64 b] w fun e w' => e = .returned (.int .i64 (addI a b)) ∧ w = w' := by
  have ha := cut_bd a
  have hb := cut_bd b
  have HA := Lib.hid (rcut_any a w)
  have HB := Lib.hid (rcut_any b w)
  unfold addI
  generalize cut a = x at *
  generalize cut b = y at *
  obtain ⟨a1, a2⟩ := ha
  obtain ⟨b1, b2⟩ := hb
  have hw1 : IntKind.i64.wrap (4611686018427387904 - y) = 4611686018427387904 - y := by rw [IntKind.wrap_i64]; omega
  rcases (show 4611686018427387904 - y < x ∨ ¬ 4611686018427387904 - y < x by omega) with h | h
  · rw [show min (x + y) 4611686018427387904 = 4611686018427387904 by omega]
    go_enter Tryd.func25, Tryd.ntmps25
    go_wp2_with fail
    refine HA.out.mono ?_
    rintro e w' ⟨rfl, rfl⟩
    go_wp2_with fail
    refine HB.out.mono ?_
    rintro e w' ⟨rfl, rfl⟩
    go_wp2
    go_ret
    exact ⟨rfl, rfl⟩
  · rw [show min (x + y) 4611686018427387904 = x + y by omega]
    have hw2 : IntKind.i64.wrap (x + y) = x + y := by rw [IntKind.wrap_i64]; omega
    go_enter Tryd.func25, Tryd.ntmps25
    go_wp2_with fail
    refine HA.out.mono ?_
    rintro e w' ⟨rfl, rfl⟩
    go_wp2_with fail
    refine HB.out.mono ?_
    rintro e w' ⟨rfl, rfl⟩
    go_wp2
    go_ret
    exact ⟨rfl, rfl⟩
theorem wr_same (s : FS) (l : List Int) (h : (s.wr l).2 ≠ 0) : (s.wr l).1 = s := by
  unfold FS.wr at h ⊢
  split
  · rename_i h1
    rw [if_pos h1] at h
    split
    · rename_i h2
      rw [if_pos h2] at h
      exact absurd rfl h
    · rfl
  · rfl
theorem Later.set2 {w wx : World} {X : Nat → Prop} {x y : Nat} {r' : RF} {s' : FS} (h : Later w wx X x y r' s') (u : Value) : Later w (wx.setCell ⟨x, 2, none⟩ u) X x y r' s' := fun wf h1 h2 => by
  have hs : (wx.setCell ⟨x, 2, none⟩ u).heap.size = wx.heap.size := by simp [World.setCell]
  rw [hs] at h1 h2
  exact h wf (fun k h3 h4 h5 => (h1 k h3 h4 h5).trans (Below.heap_setCell _ _ _ _ h4)) h2
set_option maxRecDepth 100000 in
set_option maxHeartbeats 6400000 in
theorem pwrite_any {w : World} {X : Nat → Prop} {f : PF} {p : SP} (h : PRefIn w X f p) (hok : p.ok) (hk : p.s.ok) (hX : ∀ k, X k → k < w.heap.size) {v : Value} {l : List Int} (hv : IntsIn w v l) (hl : l.length ≤ 65000) (now : Int) :
    Calls Tryd.prog 19 #[f.v, v, .int .i64 now] w fun e w' => ∃ f', e = .returned (.tuple #[PF.v f', .int .i64 (p.wr l now).2]) ∧ Below w.heap.size w w' ∧ PRefIn w' (newX X w w') f' (p.wr l now).1 := by
  have hfn := h.wo
  have hfq := h.se
  obtain ⟨A, c, rfl, hlc, hcs⟩ := id hv
  by_cases hlp : l.length = p.n
  · have hnb := nx_bd hok
    have hq0 := hok.q0
    have hq1 := hok.q1
    have hcb := cut_bd now
    obtain ⟨er, her⟩ : ∃ er, er = (p.s.wr (p.mes l now)).2 := ⟨_, rfl⟩
    have e1 : p.wr l now = ({ p with q := if er = 0 then p.nx else p.q, s := (p.s.wr (p.mes l now)).1 }, er) := by unfold SP.wr; rw [if_pos hlp, her]
    have hsame := wr_same p.s (p.mes l now)
    rw [← her] at hsame
    have hnx : (p.q < 2147483647 ∧ p.nx = p.q + 1) ∨ (p.q = 2147483647 ∧ p.nx = 1) := by unfold SP.nx; omega
    obtain ⟨tk, htk⟩ : ∃ tk, tk = min (cut now) 2147483647 := ⟨_, rfl⟩
    have hm : p.mes l now = p.nx :: tk :: l := by unfold SP.mes; rw [htk]
    rw [e1]
    clear e1
    have hl0 : 0 < l.length := by have := hok.n1; omega
    have hl1 : l.length ≤ 4 := by have := hok.n4; omega
    have b1 : ((l.length : Int) == f.wo) = true := by rw [hfn]; simp; omega
    have HW := Lib.hid (fun (w1 : World) (hb : Below w.heap.size w w1) (u : Value) (hu : IntsIn w1 u (p.mes l now)) => refwrite_any (h.r.map fun _ _ k => k.below hb) hk hu (by rw [hm]; simp; omega))
    rw [← her] at HW
    have HV := Lib.hid (And.intro hv hm)
    have HC := Lib.hid (And.intro h (And.intro hX hsame))
    have HCUT := Lib.hid (rcut_any now)
    generalize (p.s.wr (p.mes l now)).1 = s' at *
    clear her hv hm h hX hsame hcs hlp hfn
    generalize cut now = cn at *
    unfold PF.v
    go_enter Tryd.func19, Tryd.ntmps19
    go_upto_region 0 with (fail)
    go_cut [3, 6, 7] (fun p0 p1 p2 wx => ∃ x y, p0 = .pointer (some ⟨x, 0, none⟩) ∧ p1 = .pointer (some ⟨y, 0, none⟩) ∧ p2 = .int .i64 0 ∧ Boxed 48 w wx x y f.cells)
    case first =>
      go_wp2_with fail
      go_meet
      exact ⟨_, _, rfl, rfl, rfl, boxed_new _ _ _ _ rfl⟩
    case rest =>
    obtain ⟨x, y, rfl, rfl, rfl, hB⟩ := hcut
    have HB := Lib.hid hB
    have k_wo : wc.cell? ⟨x, 0, none⟩ = some (.int .i64 f.wo) := (hB.hx.cell 0).trans rfl
    have k_se : wc.cell? ⟨x, 2, none⟩ = some (.int .i64 p.q) := (hB.hx.cell 2).trans (by rw [← hfq]; rfl)
    clear hB
    obtain ⟨B0, hB0⟩ : ∃ B0, wc.heap.size = B0 := ⟨_, rfl⟩
    have hxB : x < B0 := by have := HB.out.hx.lt; omega
    have hyB : y < B0 := by obtain ⟨_, _, hy⟩ := HB.out.hy; have := hy.lt; omega
    have hwB : w.heap.size ≤ B0 := by have := HB.out.bel.size; omega
    rcases hnx with ⟨n1, n2⟩ | ⟨n1, n2⟩
    all_goals
      first | (have n3 : ¬ (2147483647 : Int) ≤ p.q := by omega) | (have n3 : (2147483647 : Int) ≤ p.q := by omega)
      obtain ⟨nx, hnxe⟩ : ∃ nx, p.nx = nx := ⟨_, rfl⟩
      rw [hnxe] at n2 HV
      have HNX := Lib.hid hnxe
      clear hnxe hnb
      go_upto_region 6 with (fail)
      go_cut [8, 9] (fun sv lv wx => sv = .int .i64 nx ∧ ∃ g, lv = .slice (some ⟨g, 0, none⟩) 2 2 ∧ wx.ownsRow B0 3 1 lv 2 (nums [nx, tk]) ∧ Boxed 48 w wx x y f.cells ∧ B0 ≤ wx.heap.size)
      case first =>
        subst hB0
        have HO := Lib.hid (World.ownsRow_lit (base := wc.heap.size) (e := 3) (size := 1) wc #[.int .i64 nx, .int .i64 tk] 2 (Nat.le_refl _) (by decide) rfl)
        have HB1 := Lib.hid (HB.out.go (below_alloc (w := wc) (Nat.le_refl _) (.cells #[.int .i64 nx, .int .i64 tk] 3)))
        have hcc : (2147483647 < cn ∧ tk = 2147483647) ∨ (¬ 2147483647 < cn ∧ tk = cn) := by omega
        clear htk HB hcb
        go_wp2_with fail
        refine (HCUT.out _).mono ?_
        rintro e w' ⟨rfl, rfl⟩
        clear HCUT
        rcases hcc with ⟨c1, c2⟩ | ⟨c1, c2⟩
        all_goals
          rw [n2, c2] at HO HB1
          have HC2 := Lib.hid c2
          have HN2 := Lib.hid n2
          clear c2
          go_wp2
          go_meet
          exact ⟨by rw [HN2.out], _, rfl, by rw [HN2.out, HC2.out]; exact HO.out, HB1.out, by simp⟩
      case rest =>
        obtain ⟨rfl, g, rfl, ho, hB2, hs2⟩ := hcut
        have HO := Lib.hid ho
        have HB2 := Lib.hid hB2
        have HI := Lib.hid (HV.out.1.below hB2.bel)
        have hl6 : 2 + l.length ≤ 65536 := by omega
        clear ho hB2 HB k_wo k_se htk n1 n2 n3 HCUT
        go_wp2_with (at_builtin; go_loud (refine app_more rfl _ _ rfl B0 (.slice (some ⟨g, 0, none⟩) 2 2) 2 [nx, tk] l rfl HO.out _ rfl HI.out hl0 hl6 hs2 ?_))
        intro v' w2 ho2 hb2
        have HB3 := Lib.hid (HB2.out.low hb2 hxB hyB hwB)
        have HI2 := Lib.hid (show IntsIn w2 v' (p.mes l now) from by
          rw [HV.out.2]
          exact IntsIn.of_own (l := nx :: tk :: l) (by have := ho2; rw [show 2 + l.length = (nx :: tk :: l).length by simp; omega] at this; exact this) rfl)
        obtain ⟨A2, c2, rfl⟩ := own_form ho2
        clear ho2 hb2 HO HB2 HI
        go_upto_region 8 with (fail)
        go_cut [10, 11] (fun pz v wx => ∃ z r', pz = .pointer (some ⟨z, 0, none⟩) ∧ v = .int .i64 er ∧ Boxed 48 w wx x y f.cells ∧ Blk wx z 46 r'.cells ∧ Later w wx X x y r' s')
        case first =>
          have HM := Lib.hid (PF.mid HB3.out.hx)
          go_wp2_with (refine wpList_load_mid rfl 46 _ rfl x 3 rfl f.r.cells.toList _ HM.out Tryd.underlying46 rfl rinfo ?_)
          refine (HW.out _ HB3.out.bel _ HI2.out).mono ?_
          rintro e w3 ⟨r', rfl, hb3, hr⟩
          unfold RF.v
          have HL := Lib.hid (later_of HC.out.2.1 HB3.out hb3 hr)
          have HB1 := Lib.hid (fresh_boxed HB3.out hb3 r'.cells)
          clear hb3 hr HM
          go_wp2_with (refine wpList_store_row rfl 46 _ _ rfl w3.heap.size r'.cells rfl rfl 46 zero19 (heap_alloc_new w3 _) rinfo rfl (RF.ones _) ?_)
          go_meet
          exact ⟨_, r', rfl, rfl, HB1.out, setRow_heap _ _ zero19 _ 46 (0, 0) (heap_alloc_new w3 _), HL.out⟩
        case rest =>
        obtain ⟨z, r', rfl, rfl, hB4, hZ4, hL4⟩ := hcut
        have HB4 := Lib.hid hB4
        have HZ4 := Lib.hid hZ4
        have HL4 := Lib.hid hL4
        clear hB4 hZ4 hL4 HB3 HI2 HW
        by_cases her : er = 0
        · subst her
          go_upto_region 11 with (fail)
          go_cut [] (fun wx => Boxed 48 w wx x y ({ f with r := r' } : PF).cells ∧ Later w wx X x y r' s')
          case first =>
            go_wp2_with (first
              | (refine wpList_load_row rfl 46 _ rfl z rfl 46 _ (0, 0) _ HZ4.out Tryd.underlying46 rfl rinfo ?_)
              | (refine wpList_store_mid rfl 46 _ _ rfl x 3 r'.cells rfl rfl (PF.there HB4.out.hx) rinfo (RF.ones _) ?_))
            go_meet
            exact ⟨HB4.out.put r', HL4.out.put HB4.out r'⟩
          case rest =>
          obtain ⟨hB5, hL5⟩ := hcut
          have k_q : wc.cell? ⟨x, 2, none⟩ = some (.int .i64 f.se) := (hB5.hx.cell 2).trans rfl
          have f_q := hB5.hx.fr 2
          have HL5 := Lib.hid hL5
          have HB6 := Lib.hid (show Boxed 48 w (wc.setCell ⟨x, 2, none⟩ (.int .i64 nx)) x y ({ f with r := r', se := nx } : PF).cells from hB5.set 2 (.int .i64 nx))
          obtain ⟨zs, hz, hy⟩ := HB6.out.hy
          have HY := Lib.hid (And.intro hz hy)
          clear hB5 hL5 hz hy HB4 HZ4 HL4
          go_wp2_with (first
            | (refine wpList_load_row rfl 48 _ rfl x rfl 48 _ (0, 0) _ HB6.out.hx Tryd.underlying48 rfl pinfo ?_)
            | (refine wpList_store_row rfl 48 _ _ rfl y ({ f with r := r', se := nx } : PF).cells rfl rfl 48 zs HY.out.2 pinfo HY.out.1 (PF.ones _) ?_))
          (try simp only [Exit.inBlock, Exit.then]); refine bodyPost_ret (res_c2 rfl _ rfl HB6.out.row Tryd.underlying48 rfl pinfo) rfl ?_
          exact ⟨{ f with r := r', se := nx }, rfl, HB6.out.end_, HC.out.1.wo, HC.out.1.re, by rw [HNX.out] <;> simp, (HL5.out.set2 _) _ (fun k _ _ hn => setRow_other _ _ _ _ hn) (by simp)⟩
        · have h9 : (er == 0) = false := by simpa using her
          have h9' : ¬ er = 0 := her
          obtain ⟨zs, hz, hy⟩ := HB4.out.hy
          have HY := Lib.hid (And.intro hz hy)
          have HER := Lib.hid her
          clear hz hy her
          go_wp2_with (first
            | (refine wpList_load_row rfl 48 _ rfl x rfl 48 _ (0, 0) _ HB4.out.hx Tryd.underlying48 rfl pinfo ?_)
            | (refine wpList_store_row rfl 48 _ _ rfl y f.cells rfl rfl 48 zs HY.out.2 pinfo HY.out.1 (PF.ones _) ?_))
          (try simp only [Exit.inBlock, Exit.then]); refine bodyPost_ret (res_c2 rfl _ rfl HB4.out.row Tryd.underlying48 rfl pinfo) rfl ?_
          exact ⟨f, rfl, HB4.out.end_, HC.out.1.wo, HC.out.1.re, by first | (rw [if_neg HER.out]; exact HC.out.1.se) | exact HC.out.1.se, by rw [HC.out.2.2 HER.out]; exact HC.out.1.r.map fun _ _ k => (k.below HB4.out.end_).mono fun _ e => .inl e⟩
  · have e1 : p.wr l now = (p, 3) := by unfold SP.wr; rw [if_neg hlp]
    rw [e1]
    have b1 : ((l.length : Int) == f.wo) = false := by rw [hfn]; simp; omega
    have HC := Lib.hid (And.intro h hX)
    clear h hX hcs hlp hfn hfq e1 hv
    unfold PF.v
    go_enter Tryd.func19, Tryd.ntmps19
    go_upto_region 0 with (fail)
    go_cut [3, 6, 7] (fun p0 p1 p2 wx => ∃ x y, p0 = .pointer (some ⟨x, 0, none⟩) ∧ p1 = .pointer (some ⟨y, 0, none⟩) ∧ p2 = .int .i64 0 ∧ Boxed 48 w wx x y f.cells)
    case first =>
      go_wp2_with fail
      go_meet
      exact ⟨_, _, rfl, rfl, rfl, boxed_new _ _ _ _ rfl⟩
    case rest =>
    obtain ⟨x, y, rfl, rfl, rfl, hB⟩ := hcut
    have k_wo : wc.cell? ⟨x, 0, none⟩ = some (.int .i64 f.wo) := (hB.hx.cell 0).trans rfl
    have HB := Lib.hid hB
    obtain ⟨zs, hz, hy⟩ := HB.out.hy
    have HY := Lib.hid (And.intro hz hy)
    clear hB hz hy
    go_wp2_with (first
      | (refine wpList_load_row rfl 48 _ rfl x rfl 48 _ (0, 0) _ HB.out.hx Tryd.underlying48 rfl pinfo ?_)
      | (refine wpList_store_row rfl 48 _ _ rfl y f.cells rfl rfl 48 zs HY.out.2 pinfo HY.out.1 (PF.ones _) ?_))
    (try simp only [Exit.inBlock, Exit.then]); refine bodyPost_ret (res_c2 rfl _ rfl HB.out.row Tryd.underlying48 rfl pinfo) rfl ?_
    exact ⟨f, rfl, HB.out.end_, HC.out.1.map fun _ _ k => (k.below HB.out.end_).mono fun _ e => .inl e⟩
end Go.Proofs.YtmcelldklmjlkaaDoor
