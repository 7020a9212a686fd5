/- A sampling port: Write. -/
import Derived.Test.YtmcelldklmjlkaaDoorSampB
import Derived.Deep.RegionLawGrows
import Derived.Deep.AppendLies
namespace Go.Proofs.YtmcelldklmjlkaaDoor
open Go.RowKit

theorem own_ints2 {w : World} {B g cap n : Nat} {x y : Int} {l : List Int} (h : w.ownsRow B 3 1 (.slice (some ⟨g, 0, none⟩) (2 + n) cap) (2 + n) ([.int .i64 x, .int .i64 y] ++ nums l)) : IntsIn w (.slice (some ⟨g, 0, none⟩) (2 + n) cap) (x :: y :: l) := by
  have := IntsIn.of_own (l := x :: y :: l) h (by simp [nums])
  exact this
theorem own_heap2 {w w' : World} {base : Nat} {e : TypeId} {size n : Nat} {v : Value} {xs : List Value} (h : w.ownsRow base e size v n xs) (hk : w'.heap = w.heap) : w'.ownsRow base e size v n xs := by
  obtain ⟨h1, h2⟩ := h
  refine ⟨h1, ?_⟩
  rcases h2 with h2 | ⟨g, cap, cur, hv, hg, hh, r⟩
  · exact Or.inl h2
  · exact Or.inr ⟨g, cap, cur, hv, hg, by rw [hk]; exact hh, r⟩
section
variable {W w : World} {pb kb b mb lb : Nat} {X : Nat → Prop} {p : SP}
set_option maxRecDepth 100000 in
set_option maxHeartbeats 3200000 in
theorem sctx_write (h : PCtx W w pb kb b mb lb X p) {v : Value} {l : List Int} (hv : IntsIn w v l) (hl : l.length ≤ 65000) (now : Int) :
    Calls Tryd.prog 10 #[.pointer (some ⟨pb, 0, none⟩), v, .int .i64 now] w fun e w' => e = .returned (.int .i64 (p.wr l now).2) ∧ PCtx W w' pb kb b mb lb X (p.wr l now).1 ∧ PKept pb X w w' := by
  have k0 := h.k0
  have k2 := h.k2
  have k3 := h.k3
  have hn1 := h.ok.n1
  have hn4 := h.ok.n4
  by_cases hlp : l.length = p.n
  · have hnb := nx_bd h.ok
    have e1 : p.wr l now = ({ p with q := if (p.s.wr (p.mes l now)).2 = 0 then p.nx else p.q, s := (p.s.wr (p.mes l now)).1 }, (p.s.wr (p.mes l now)).2) := by unfold SP.wr; rw [if_pos hlp]
    obtain ⟨A, c, rfl, hlc, hcs⟩ := id hv
    obtain ⟨g, o, rfl, hcell⟩ := hcs (by omega)
    have hq0 := h.ok.q0
    obtain ⟨r, hr⟩ : ∃ r, p.q.tmod 2147483647 = r := ⟨_, rfl⟩
    have hr2 : r + 1 = p.nx := by unfold SP.nx; rw [← hr, Int.tmod_eq_emod_of_nonneg hq0]
    have r0 : 0 ≤ r := by omega
    have r1 : r < 2147483647 := by omega
    have hcb := cut_bd now
    have hx : min (cut now) 2147483647 = if 2147483647 < cut now then 2147483647 else cut now := by split <;> omega
    have hm : p.mes l now = (r + 1) :: (if 2147483647 < cut now then 2147483647 else cut now) :: l := by unfold SP.mes; rw [hr2, hx]
    have HCUT := Lib.hid (cut_any now)
    have HN := Lib.hid (show ∀ (W' : World), (∀ j (hj : j < l.length), W'.cell? ⟨g, o + j, none⟩ = some (.int .i64 l[j])) → ∀ j u, (nums l)[j]? = some u → W'.cell? ((⟨g, o, none⟩ : Addr).add j) = some u from fun W' hc j u hj => by
      have hjl : j < l.length := by have := (List.getElem?_eq_some_iff.1 hj).1; rwa [nums_len] at this
      rw [nums_get l j hjl] at hj
      have ha : (⟨g, o, none⟩ : Addr).add j = ⟨g, o + j, none⟩ := by unfold Addr.add; split <;> simp_all
      rw [ha, hc j hjl, hj])
    have HW := Lib.hid (fun (w1 : World) (hc : Ctx W w1 b mb lb X p.s) (u : Value) (hu : IntsIn w1 u ((r + 1) :: (if 2147483647 < cut now then 2147483647 else cut now) :: l)) => ctx_wr hc hu (by simp; omega))
    rw [e1, hm]
    have HC := Lib.hid hcell
    have HH := Lib.hid h
    have HR := Lib.hid (And.intro hr2 hnb)
    rw [← hlp] at k0
    have hl0 : 0 < l.length := by omega
    have hl1 : l.length ≤ 4 := by omega
    generalize hs : p.s.wr ((r + 1) :: (if 2147483647 < cut now then 2147483647 else cut now) :: l) = sr at *
    have hsW : sr.1.W = p.s.W := by rw [← hs]; exact wr_W _ _
    have HSW := Lib.hid hsW
    obtain ⟨s1, er⟩ := sr
    obtain ⟨i0, hi, hz0, hz1, hz2⟩ := info_parts infoInt
    clear h hv hcs hcell hm e1 hs hsW hr2 hnb hlp hn1 hn4
    generalize cut now = cn at *
    have HBA := Lib.hid (fun (ob : Obj) => ((below_alloc (w := w) (B := w.heap.size) (Nat.le_refl _) ob).drew))
    have k3a : (w.alloc (.cells #[.int .i64 (r + 1), .int .i64 (if 2147483647 < cn then 2147483647 else cn)] 3)).cell? ⟨pb, 3, none⟩ = some (.pointer (some ⟨b, 0, none⟩)) := ((HBA.out _).cell (World.block_lt_of_cell? _ _ k3)).trans k3
    clear hx
    by_cases her : er = 0
    · subst her
      go_enter Tryd.func10, Tryd.ntmps10
      go_wp2
      go_region_law (first
        | (go_simp; go_at_call 34; refine (HCUT.out _).mono ?_; rintro e w' ⟨rfl, rfl⟩)
        | (refine step_append_lies _ rfl (.tmp 34) (.tmp 35) 29 rfl w.heap.size 3 i0 (.int .i64 0) 1 8 Tryd.underlying29 hi hz0 hz1 hz2 rfl (by decide) (.slice (some ⟨w.heap.size, 0, none⟩) 2 2) 2 [.int .i64 (r + 1), .int .i64 (if 2147483647 < cn then 2147483647 else cn)] (by simp [Act.eval]) (own_heap2 (World.ownsRow_lit (base := w.heap.size) (e := 3) (size := 1) w #[.int .i64 (r + 1), .int .i64 (if 2147483647 < cn then 2147483647 else cn)] 2 (Nat.le_refl _) (by decide) rfl) (by rfl)) ⟨g, o, none⟩ l.length c (nums l) (by simp [Act.eval]) (by simp [nums]) (HN.out _ (fun j hj => ((HBA.out _).cell (World.block_lt_of_cell? _ _ (HC.out j hj))).trans (HC.out j hj))) (ints_oneCell _ _) (by omega) (by simp [maxLen]; omega) (by omega) (by simp) _ rfl ?_; intro g2 cap2 w2 hown hg hat hlt; have hb2 := (HBA.out (.cells #[.int .i64 (r + 1), .int .i64 (if 2147483647 < cn then 2147483647 else cn)] 3)).grown hg (by simp) (fun k hk => by simp [Value.ownBlock] at hk; omega); have HP2 := Lib.hid (HH.out.below hb2); have q3 := HP2.out.k3; have HI2 := Lib.hid (own_ints2 hown); have HK2 := Lib.hid (show PKept pb X w w2 from fun k hk _ => hb2.block k (HH.out.c.lt k hk)); clear hown hg hat hlt hb2)
        | (go_simp; go_at_call 33; refine (HW.out _ HP2.out.c _ HI2.out).mono ?_; rintro e w3 ⟨rfl, hC, hK⟩; have HT := Lib.hid (HP2.out.turn hC hK HSW.out); have HK3 := Lib.hid (HK2.out.trans (PKept.of hK)); have u2 := HT.out.1.k2; have f2 := HT.out.1.k.fr 2; clear hC hK))
      all_goals
        go_wp2
        all_goals
          go_ret
          exact ⟨rfl, by have := HT.out.1.num (r + 1) (by omega) (by omega); rw [HR.out.1] at this ⊢; exact this, HK3.out.set 2 _⟩
    · have h9 : (er == 0) = false := by simpa using her
      go_enter Tryd.func10, Tryd.ntmps10
      go_wp2
      go_region_law (first
        | (go_simp; go_at_call 34; refine (HCUT.out _).mono ?_; rintro e w' ⟨rfl, rfl⟩)
        | (refine step_append_lies _ rfl (.tmp 34) (.tmp 35) 29 rfl w.heap.size 3 i0 (.int .i64 0) 1 8 Tryd.underlying29 hi hz0 hz1 hz2 rfl (by decide) (.slice (some ⟨w.heap.size, 0, none⟩) 2 2) 2 [.int .i64 (r + 1), .int .i64 (if 2147483647 < cn then 2147483647 else cn)] (by simp [Act.eval]) (own_heap2 (World.ownsRow_lit (base := w.heap.size) (e := 3) (size := 1) w #[.int .i64 (r + 1), .int .i64 (if 2147483647 < cn then 2147483647 else cn)] 2 (Nat.le_refl _) (by decide) rfl) (by rfl)) ⟨g, o, none⟩ l.length c (nums l) (by simp [Act.eval]) (by simp [nums]) (HN.out _ (fun j hj => ((HBA.out _).cell (World.block_lt_of_cell? _ _ (HC.out j hj))).trans (HC.out j hj))) (ints_oneCell _ _) (by omega) (by simp [maxLen]; omega) (by omega) (by simp) _ rfl ?_; intro g2 cap2 w2 hown hg hat hlt; have hb2 := (HBA.out (.cells #[.int .i64 (r + 1), .int .i64 (if 2147483647 < cn then 2147483647 else cn)] 3)).grown hg (by simp) (fun k hk => by simp [Value.ownBlock] at hk; omega); have HP2 := Lib.hid (HH.out.below hb2); have q3 := HP2.out.k3; have HI2 := Lib.hid (own_ints2 hown); have HK2 := Lib.hid (show PKept pb X w w2 from fun k hk _ => hb2.block k (HH.out.c.lt k hk)); clear hown hg hat hlt hb2)
        | (go_simp; go_at_call 33; refine (HW.out _ HP2.out.c _ HI2.out).mono ?_; rintro e w3 ⟨rfl, hC, hK⟩; have HT := Lib.hid (HP2.out.turn hC hK HSW.out); have HK3 := Lib.hid (HK2.out.trans (PKept.of hK)); have u2 := HT.out.1.k2; have f2 := HT.out.1.k.fr 2; clear hC hK))
      all_goals
        go_wp2
        all_goals
          go_ret
          exact ⟨rfl, by first | exact HT.out.1 | (rw [if_neg her]; exact HT.out.1), HK3.out⟩
  · have e1 : p.wr l now = (p, 3) := by unfold SP.wr; rw [if_neg hlp]
    rw [e1]
    obtain ⟨A, c, rfl, hlc, hcs⟩ := hv
    have b1 : ((l.length : Int) == (p.n : Int)) = false := by simp; omega
    have b2 : ¬ (l.length : Int) = (p.n : Int) := by omega
    have HH := Lib.hid h
    clear h hcs e1
    go_enter Tryd.func10, Tryd.ntmps10
    go_wp2
    go_ret
    exact ⟨rfl, HH.out, pk_refl _ _ _⟩
end
theorem swrite_nil (A : Option Addr) (n c : Nat) (now : Int) (w : World) : Calls Tryd.prog 10 #[.pointer none, .slice A n c, .int .i64 now] w fun e w' => e = .returned (.int .i64 3) ∧ w = w' := by
  go_enter Tryd.func10, Tryd.ntmps10
  go_wp2
  go_ret
  exact ⟨rfl, rfl⟩
end Go.Proofs.YtmcelldklmjlkaaDoor
