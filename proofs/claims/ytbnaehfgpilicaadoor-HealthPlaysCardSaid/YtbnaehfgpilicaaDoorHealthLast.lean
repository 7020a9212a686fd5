/- HealthLast: the last event is the last that was told. -/
import Derived.Test.YtbnaehfgpilicaaDoorHealthOpens
namespace Go.Proofs.YtbnaehfgpilicaaDoor
open Go.RowKit

theorem EvAt.below {w w' : World} {B g o : Nat} {e : Ev} (h : EvAt w g o e) (hb : Below B w w') (hg : g < B) : EvAt w' g o e := h.keep (hb.block g hg)
theorem fieldsEv : (Tryd.prog.fieldsOf 23).toList = [{ name := "Kind", type := 3, offset := 0, embedded := false, tag := "", pkgPath := "", byteOffset := 0 }, { name := "Tick", type := 3, offset := 1, embedded := false, tag := "", pkgPath := "", byteOffset := 8 }, { name := "Partition", type := 3, offset := 2, embedded := false, tag := "", pkgPath := "", byteOffset := 16 }, { name := "Channel", type := 3, offset := 3, embedded := false, tag := "", pkgPath := "", byteOffset := 24 }, { name := "N", type := 3, offset := 4, embedded := false, tag := "", pkgPath := "", byteOffset := 32 }] := by kernel_rfl
theorem neqEv (k t p c n k' t' p' c' n' : Int) (w : World) : (binOp .neq 23 (.agg #[.int .i64 k, .int .i64 t, .int .i64 p, .int .i64 c, .int .i64 n]) (.agg #[.int .i64 k', .int .i64 t', .int .i64 p', .int .i64 c', .int .i64 n'])).run Tryd.prog w = .ok (.bool (!(Ev.same ⟨k, t, p, c, n⟩ ⟨k', t', p', c', n'⟩))) w := by
  rw [run_neq_struct, run_equalIn_struct _ _ _ _ _ (by kernel_rfl) (by kernel_rfl), fieldsEv]
  unfold Ev.same
  by_cases h0 : k = k' <;> by_cases h1 : t = t' <;> by_cases h2 : p = p' <;> by_cases h3 : c = c' <;> by_cases h4 : n = n' <;> simp [Op.eqFields, go_sem, h0, h1, h2, h3, h4]
theorem same_eta (e : Ev) : Ev.same ⟨e.k, e.t, e.p, e.c, e.n⟩ ⟨e.k, e.t, e.p, e.c, e.n⟩ = true := same_refl e
theorem early_any (A : Option Addr) (n c : Nat) (w : World) (hn : n ≤ c) (_ : c ≤ maxLen) :
    Calls Tryd.prog 15 #[.slice A n c] w fun e w' => e = .returned (.slice A (min n 150) c) ∧ w = w' := by
  have h1 : (min (n : Int) 150).toNat = min n 150 := by omega
  go_enter Tryd.func15, Tryd.ntmps15
  go_wp2
  go_ret
  exact ⟨rfl, rfl⟩
theorem EvsIn.take {w : World} {A : Option Addr} {len cap : Nat} {l : List Ev} (h : EvsIn w (.slice A len cap) l) (m : Nat) (hm : m ≤ len) : EvsIn w (.slice A m cap) (l.take m) ∧ (l.take m).length = m := by
  obtain ⟨A', c', e, hl, hc⟩ := h
  injection e with e1 e2 e3
  subst e1 e2 e3
  have hlen : (l.take m).length = m := by rw [List.length_take]; omega
  refine ⟨⟨A, cap, by rw [hlen], by omega, fun hp => ?_⟩, hlen⟩
  obtain ⟨g, o, rfl, hcell⟩ := hc (by omega)
  exact ⟨g, o, rfl, fun i hi => by have := hcell i (by omega); simpa using this⟩
theorem EvsIn.one {w : World} {A : Option Addr} {n cap : Nat} {l : List Ev} (h : EvsIn w (.slice A n cap) l) (k : Nat) (hk : k < l.length) : ∃ g o, A = some ⟨g, o, none⟩ ∧ n = l.length ∧ l.length ≤ cap ∧ EvAt w g (o + k * 5) l[k] := by
  obtain ⟨A', c', e, hl, hc⟩ := h
  injection e with e1 e2 e3
  subst e1 e2 e3
  obtain ⟨g, o, rfl, hcell⟩ := hc (by omega)
  exact ⟨g, o, rfl, rfl, hl, hcell k hk⟩
theorem blk_put5 {w : World} {x : Nat} {e0 e : Ev} (h : Blk w x 23 e0.cells) : Blk (put5 w x 0 e) x 23 e.cells :=
  ((((h.set 0 (.int .i64 e.k)).set 1 (.int .i64 e.t)).set 2 (.int .i64 e.p)).set 3 (.int .i64 e.c)).set 4 (.int .i64 e.n)
theorem HCtx.put5 {W w : World} {b x : Nat} {l : List Ev} (h : HCtx W w b l) (hx : b ≠ x) (hW : W.heap.size ≤ x) (e : Ev) : HCtx W (put5 w x 0 e) b l := by
  refine ⟨LogG.keep h.at_ ?_, ?_, h.ge⟩
  · unfold Go.Proofs.YtbnaehfgpilicaaDoor.put5
    rw [Below.heap_setCell _ _ _ _ hx, Below.heap_setCell _ _ _ _ hx, Below.heap_setCell _ _ _ _ hx, Below.heap_setCell _ _ _ _ hx, Below.heap_setCell _ _ _ _ hx]
  · exact ((((h.bel.setCell (p := ⟨x, _, none⟩) hW _).setCell (p := ⟨x, _, none⟩) hW _).setCell (p := ⟨x, _, none⟩) hW _).setCell (p := ⟨x, _, none⟩) hW _).setCell (p := ⟨x, _, none⟩) hW _
theorem lastE_snoc (l : List Ev) (e : Ev) : lastE (l ++ [e]) = e := by simp [lastE]
theorem lastOf_last (l : List Ev) (h : 0 < l.length) : ∃ h' : (lastOf l).length - 1 < (lastOf l).length, (lastOf l)[(lastOf l).length - 1] = lastE l := by
  have hl := lastOf_len' l
  refine ⟨by omega, ?_⟩
  rw [lastOf_get l _ (by omega)]
  unfold lastE
  rw [List.getLast?_eq_getElem?, List.getElem?_eq_getElem (by omega)]
  simp only [Option.getD_some]
  congr 1
  unfold goneOf
  omega
attribute [local go_sem ↓] neqEv same_eta
set_option maxRecDepth 100000 in
set_option maxHeartbeats 3200000 in
theorem healthLast_law (A : Option Addr) (len cap : Nat) (L0 : List Ev) (w : World) (hS : EvsIn w (.slice A len cap) L0) (hlc : len ≤ cap) (hcap : cap ≤ maxLen) :
    Calls Tryd.prog 4 #[.slice A len cap] w fun r w' => r = .returned (.bool true) ∧ Below w.heap.size w w' := by
  obtain ⟨m, hm⟩ : ∃ m, m = min len 150 := ⟨_, rfl⟩
  obtain ⟨hI, hIl⟩ := hS.take m (by omega)
  have hm150 : m ≤ 150 := by omega
  have hmc : m ≤ cap := by omega
  generalize L0.take m = L at *
  have HI := Lib.hid hI
  have HIL := Lib.hid hIl
  have HE := Lib.hid (fun W => early_any A len cap W hlc hcap)
  rw [← hm] at HE
  clear hS hI hIl hm hlc hcap
  go_enter Tryd.func4, Tryd.ntmps4
  go_wp2_with fail
  refine (lives_any w).mono ?_
  rintro r w1 ⟨rfl, hB1⟩
  go_wp2_with fail
  refine (hctx_new hB1).mono ?_
  rintro r w2 ⟨rfl, hC⟩
  have HC := Lib.hid (hC.below (below_alloc (Nat.le_refl _) (.cells #[.int .i64 0, .int .i64 0, .int .i64 0, .int .i64 0, .int .i64 0] 23)))
  have HX := Lib.hid (show Blk (w2.alloc (.cells #[.int .i64 0, .int .i64 0, .int .i64 0, .int .i64 0, .int .i64 0] 23)) w2.heap.size 23 (lastE []).cells from Blk.new w2 _ _)
  have hbx : w1.heap.size ≠ w2.heap.size := Nat.ne_of_lt hC.at_.lt
  have hwx : w.heap.size ≤ w2.heap.size := hC.bel.size
  clear hB1 hC
  go_wp2_with fail
  refine (HE.out _).mono ?_
  rintro r w3 ⟨rfl, rfl⟩
  generalize w1.heap.size = b at *
  generalize w2.heap.size = x at *
  go_wp2_with fail
  go_loopw [5, 6] (fun s i wr => ∃ (k : Nat) (l : List Ev), k ≤ m ∧ i = .int .i64 k ∧ s = .bool (decide (0 < l.length)) ∧ l.length ≤ k ∧ HCtx w wr b l ∧ Blk wr x 23 (lastE l).cells) (fun _ i _ => m - (intOf i).toNat)
  case atStart => exact ⟨0, [], Nat.zero_le _, rfl, rfl, by simp, HC.out, HX.out⟩
  case round =>
    clear HC HX
    obtain ⟨k, l, hk, rfl, rfl, hlk, hC, hX⟩ := hrel
    have HC := Lib.hid hC
    have HX := Lib.hid hX
    clear hC hX
    by_cases hlt : k < m
    · have hkL : k < L.length := by rw [HIL.out]; exact hlt
      obtain ⟨bs, off, rfl, -, -, hev⟩ := (HI.out.below HC.out.bel).one k hkL
      have hbs : bs < w.heap.size := by
        obtain ⟨g', o', e1, -, -, h'⟩ := HI.out.one k hkL
        injection e1 with e1
        injection e1 with e1
        subst e1
        exact h'.lt
      generalize L[k] = e at *
      have HL := Lib.hid (tellL_len l e)
      have HT := Lib.hid (hctx_tell HC.out e (by omega))
      have b1 : (k : Int) < (m : Int) := by omega
      have b0 : (0 : Int) ≤ (k : Int) := by omega
      have HEV := Lib.hid hev
      have hwr : bs < wr.heap.size := hev.lt
      have hbne : bs ≠ b := by have := HC.out.ge; omega
      obtain ⟨e0, e1, e2, e3, e4⟩ := hev
      unfold Ev.cells at HT
      go_wp2_with fail
      refine HT.out.mono ?_
      rintro r w4 ⟨rfl, hC4, hO4⟩
      have HC4 := Lib.hid hC4
      have HX4 := Lib.hid (blk_onl HX.out hO4 (Ne.symm hbx))
      have HV4 := Lib.hid (HEV.out.keep (hO4.block _ hwr hbne))
      clear hC4 hO4 HC HX HT HEV e0 e1 e2 e3 e4 hwr hbne
      go_upto_if 27 with (fail)
      go_cut [5] (fun s wx => s = .bool (decide (0 < (tellL l e).length)) ∧ HCtx w wx b (tellL l e) ∧ Blk wx x 23 (lastE (tellL l e)).cells)
      case first =>
        by_cases hok : okK e.k
        · have hq : (tellE e == 0) = true := by simp [tellE, hok]
          have HT := Lib.hid (show tellL l e = l ++ [e] from if_pos hok)
          obtain ⟨e0, e1, e2, e3, e4⟩ := HV4.out
          have y0 : w4.cell? ⟨x, 0, none⟩ = some (.int .i64 (lastE l).k) := (HX4.out.cell 0).trans rfl
          have y1 : w4.cell? ⟨x, 1, none⟩ = some (.int .i64 (lastE l).t) := (HX4.out.cell 1).trans rfl
          have y2 : w4.cell? ⟨x, 2, none⟩ = some (.int .i64 (lastE l).p) := (HX4.out.cell 2).trans rfl
          have y3 : w4.cell? ⟨x, 3, none⟩ = some (.int .i64 (lastE l).c) := (HX4.out.cell 3).trans rfl
          have y4 : w4.cell? ⟨x, 4, none⟩ = some (.int .i64 (lastE l).n) := (HX4.out.cell 4).trans rfl
          have f0 := HX4.out.fr 0
          have f1 := HX4.out.fr 1
          have f2 := HX4.out.fr 2
          have f3 := HX4.out.fr 3
          have f4 := HX4.out.fr 4
          clear hok
          go_wp2_with fail
          go_meet
          refine ⟨?_, ?_, ?_⟩
          · rw [HT.out]; simp
          · rw [HT.out]; have := HC4.out; rw [HT.out] at this; exact this.put5 hbx hwx e
          · rw [HT.out, lastE_snoc]; exact blk_put5 HX4.out
        · have hq : (tellE e == 0) = false := by simp [tellE, hok]
          have HT := Lib.hid (show tellL l e = l from if_neg hok)
          clear hok
          go_wp2_with fail
          go_meet
          rw [HT.out]
          have := HC4.out
          rw [HT.out] at this
          exact ⟨rfl, this, HX4.out⟩
      case rest =>
        obtain ⟨rfl, hC, hX⟩ := hcut
        have HC := Lib.hid hC
        have HX := Lib.hid hX
        clear hC hX HC4 HX4 HV4
        have hl' : (tellL l e).length ≤ k + 1 := by have := HL.out; omega
        generalize tellL l e = l' at *
        obtain ⟨q, hq⟩ := Nat.exists_eq_add_one_of_ne_zero
          (show (if 0 < l'.length then (lastOf l').length else 1) ≠ 0 by
            have := lastOf_len' l'
            split <;> omega)
        have HQ := Lib.hid (show 0 < l'.length → (lastOf l').length = q + 1 ∧ ∀ (w' : World) g o, (∀ i (h : i < (lastOf l').length), EvAt w' g (o + i * 5) (lastOf l')[i]) → EvAt w' g (o + q * 5) (lastE l') from fun h0 => by
          rw [if_pos h0] at hq
          obtain ⟨h1, h2⟩ := lastOf_last l' h0
          refine ⟨hq, fun w' g o hh => ?_⟩
          have := hh _ h1
          rw [h2] at this
          rw [show q = (lastOf l').length - 1 by omega]
          exact this)
        clear hq
        have HLA := Lib.hid (hctx_last HC.out (by omega))
        go_wp2_with fail
        refine HLA.out.mono ?_
        rintro r w5 ⟨rfl, hC5, hb5⟩
        have HX5 := Lib.hid ((HX.out.below hb5 HX.out.lt).alloc (.cells (lastE l').cells 23))
        have HC5 := Lib.hid (hC5.below (below_alloc (Nat.le_refl _) (.cells (lastE l').cells 23)))
        have HY5 := Lib.hid (Blk.new w5 23 (lastE l').cells)
        have HA5 := Lib.hid (hctx_all HC5.out (by omega))
        have hx5 : x < w5.heap.size := by have := HX.out.lt; have := hb5.size; omega
        unfold Ev.cells at HA5 ⊢
        clear hC5 hb5 HC HX HLA
        go_wp2_with fail
        refine HA5.out.mono ?_
        rintro r w6 ⟨v, rfl, hE6, hC6, hb6⟩
        obtain ⟨A6, c6, rfl⟩ := hE6.form
        have HC6 := Lib.hid hC6
        have HX6 := Lib.hid (HX5.out.below hb6 HX5.out.lt)
        have HY6 := Lib.hid (HY5.out.below hb6 HY5.out.lt)
        have HE6 := Lib.hid hE6
        clear hC6 hb6 HX5 HC5 HY5 HA5 hE6
        by_cases h0 : 0 < l'.length
        · have hd : decide (0 < l'.length) = true := decide_eq_true h0
          obtain ⟨hq1, hq2⟩ := HQ.out h0
          obtain ⟨A', c', e1, hcl, hc6⟩ := HE6.out
          injection e1 with e1 _ e3
          subst e1 e3
          obtain ⟨g, o, rfl, hcell⟩ := hc6 (by omega)
          have hz := hq2 w6 g o hcell
          rw [hq1]
          rw [hd]
          have HD := Lib.hid hd
          obtain ⟨z0, z1, z2, z3, z4⟩ := hz
          have y0 : w6.cell? ⟨w5.heap.size, 0, none⟩ = some (.int .i64 (lastE l').k) := (HY6.out.cell 0).trans rfl
          have y1 : w6.cell? ⟨w5.heap.size, 1, none⟩ = some (.int .i64 (lastE l').t) := (HY6.out.cell 1).trans rfl
          have y2 : w6.cell? ⟨w5.heap.size, 2, none⟩ = some (.int .i64 (lastE l').p) := (HY6.out.cell 2).trans rfl
          have y3 : w6.cell? ⟨w5.heap.size, 3, none⟩ = some (.int .i64 (lastE l').c) := (HY6.out.cell 3).trans rfl
          have y4 : w6.cell? ⟨w5.heap.size, 4, none⟩ = some (.int .i64 (lastE l').n) := (HY6.out.cell 4).trans rfl
          have x0 : w6.cell? ⟨x, 0, none⟩ = some (.int .i64 (lastE l').k) := (HX6.out.cell 0).trans rfl
          have x1 : w6.cell? ⟨x, 1, none⟩ = some (.int .i64 (lastE l').t) := (HX6.out.cell 1).trans rfl
          have x2 : w6.cell? ⟨x, 2, none⟩ = some (.int .i64 (lastE l').p) := (HX6.out.cell 2).trans rfl
          have x3 : w6.cell? ⟨x, 3, none⟩ = some (.int .i64 (lastE l').c) := (HX6.out.cell 3).trans rfl
          have x4 : w6.cell? ⟨x, 4, none⟩ = some (.int .i64 (lastE l').n) := (HX6.out.cell 4).trans rfl
          have s6 : (0 : Int) ≤ (q : Int) := by omega
          have hq64 : q ≤ 64 := by have := lastOf_len' l'; omega
          have s7 : (q : Int) < (q : Int) + 1 := by omega
          have s8 : IntKind.i64.wrap (q : Int) = (q : Int) := by rw [IntKind.wrap_i64]; omega
          have s9 : IntKind.i64.wrap ((q : Int) + 1 - 1) = (q : Int) := by rw [IntKind.wrap_i64]; omega
          clear hq1 hq2 hcell hc6 hd h0 HQ hcl
          go_wp2_with fail
          go_quiet (fail)
          go_wp2_with fail
          go_roundw
          case rel => exact ⟨k + 1, l', by omega, by go_num, by rw [HD.out], hl', HC6.out.drewN _, HX6.out.drewN _⟩
          case measure => simp [intOf]; omega
        · have hd : decide (0 < l'.length) = false := decide_eq_false h0
          have hq1 : (lastOf l').length = 0 := by have := lastOf_len' l'; omega
          rw [hq1]
          rw [hd]
          have HD := Lib.hid hd
          have y0 : w6.cell? ⟨w5.heap.size, 0, none⟩ = some (.int .i64 (lastE l').k) := (HY6.out.cell 0).trans rfl
          have y1 : w6.cell? ⟨w5.heap.size, 1, none⟩ = some (.int .i64 (lastE l').t) := (HY6.out.cell 1).trans rfl
          have y2 : w6.cell? ⟨w5.heap.size, 2, none⟩ = some (.int .i64 (lastE l').p) := (HY6.out.cell 2).trans rfl
          have y3 : w6.cell? ⟨w5.heap.size, 3, none⟩ = some (.int .i64 (lastE l').c) := (HY6.out.cell 3).trans rfl
          have y4 : w6.cell? ⟨w5.heap.size, 4, none⟩ = some (.int .i64 (lastE l').n) := (HY6.out.cell 4).trans rfl
          have x0 : w6.cell? ⟨x, 0, none⟩ = some (.int .i64 (lastE l').k) := (HX6.out.cell 0).trans rfl
          have x1 : w6.cell? ⟨x, 1, none⟩ = some (.int .i64 (lastE l').t) := (HX6.out.cell 1).trans rfl
          have x2 : w6.cell? ⟨x, 2, none⟩ = some (.int .i64 (lastE l').p) := (HX6.out.cell 2).trans rfl
          have x3 : w6.cell? ⟨x, 3, none⟩ = some (.int .i64 (lastE l').c) := (HX6.out.cell 3).trans rfl
          have x4 : w6.cell? ⟨x, 4, none⟩ = some (.int .i64 (lastE l').n) := (HX6.out.cell 4).trans rfl
          clear hd h0 HQ hq1
          go_wp2_with fail
          go_quiet (fail)
          go_wp2_with fail
          go_roundw
          case rel => exact ⟨k + 1, l', by omega, by go_num, by rw [HD.out], hl', HC6.out.drewN _, HX6.out.drewN _⟩
          case measure => simp [intOf]; omega
    · obtain rfl : k = m := by omega
      have b1 : ¬ (k : Int) < (k : Int) := by omega
      go_wp2_with fail
      go_ret
      exact ⟨rfl, HC.out.bel⟩
end Go.Proofs.YtbnaehfgpilicaaDoor
