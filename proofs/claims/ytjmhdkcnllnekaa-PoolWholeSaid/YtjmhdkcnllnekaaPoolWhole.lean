/- PoolWhole: the walk. -/
import Derived.Test.YtjmhdkcnllnekaaPoolPure
import Derived.Test.YtjmhdkcnllnekaaSame
import Derived.Deep.DeepCutAuto
import Derived.Deep.CutBlock
namespace Go.Proofs.Ytjmhdkcnllnekaa
open Go.RowKit
def PS.five (p : PS) : Prop := ∀ i, p.tk i = true → 0 ≤ p.ow i ∧ p.ow i < 5
theorem five_new (n : Nat) : (PS.new n).five := fun i h => by simp [PS.new] at h
theorem five_set {p : PS} (h : p.five) (i : Nat) (t : Bool) (o : Int) (ht : t = true → 0 ≤ o ∧ o < 5) : (p.set i t o).five := by
  intro j hj
  simp only [PS.set] at hj ⊢
  by_cases e : j = i
  · rw [if_pos e] at hj ⊢; exact ht hj
  · rw [if_neg e] at hj ⊢; exact h j hj
theorem five_take {p : PS} (h : p.five) (o : Int) (ho : 0 ≤ o ∧ o < 5) : (p.take o).1.five := by
  unfold PS.take
  split
  · exact h
  · exact five_set h _ _ _ fun _ => ho
theorem five_give {p : PS} (h : p.five) (i o : Int) : (p.give i o).1.five := by
  unfold PS.give
  repeat' split
  all_goals first | exact h | exact five_set h _ _ _ (fun e => by cases e)
theorem five_lets {p : PS} (h : p.five) (o : Int) : (p.lets o).five := by
  intro j hj
  simp only [PS.lets, PS.gave] at hj ⊢
  by_cases e : j ∈ ownOf p o
  · rw [if_pos e] at hj; cases hj
  · rw [if_neg e] at hj ⊢; exact h j hj
/-- how many slots the owners below o have. -/
def ownSum (p : PS) : Nat → Nat
  | 0 => 0
  | o + 1 => ownSum p o + (ownOf p o).length
theorem whole_count {p : PS} (h : p.inv) (h5 : p.five) (k : Nat) :
    (findTo p false 0 k).length + ((findTo p true 0 k).length + (findTo p true 1 k).length + (findTo p true 2 k).length + (findTo p true 3 k).length + (findTo p true 4 k).length) = k := by
  induction k with
  | zero => rfl
  | succ k ih =>
    simp only [findTo_succ, List.length_append]
    cases ht : p.tk k with
    | false =>
      rw [h k ht]
      simp
      omega
    | true =>
      have h5k := h5 k ht
      have : p.ow k = 0 ∨ p.ow k = 1 ∨ p.ow k = 2 ∨ p.ow k = 3 ∨ p.ow k = 4 := by omega
      rcases this with e | e | e | e | e <;> rw [e] <;> simp <;> omega
theorem whole_sum {p : PS} (h : p.inv) (h5 : p.five) : (freeOf p).length + ownSum p 5 = p.n := by
  have := whole_count h h5 p.n
  simp only [ownSum, freeOf, ownOf, Nat.zero_add] at this ⊢
  exact this
theorem ownSum_le {p : PS} (h : p.inv) (h5 : p.five) (o : Nat) (ho : o ≤ 5) : (freeOf p).length + ownSum p o ≤ p.n := by
  have hw := whole_sum h h5
  have : ownSum p o ≤ ownSum p 5 := by
    have hmono : ∀ d, ownSum p o ≤ ownSum p (o + d) := by
      intro d
      induction d with
      | zero => exact Nat.le_refl _
      | succ d ih => exact Nat.le_trans ih (by rw [← Nat.add_assoc]; simp [ownSum])
    have := hmono (5 - o)
    rwa [show o + (5 - o) = 5 from by omega] at this
  omega
theorem own_lt (p : PS) (o : Int) (i : Nat) (h0 : 0 < i) (h : i < (ownOf p o).length) : (ownOf p o)[i - 1] < (ownOf p o)[i] :=
  List.pairwise_iff_getElem.1 (findTo_sorted p true o p.n) (i - 1) i (by unfold ownOf at h; omega) h (by omega)

set_option maxRecDepth 100000 in
set_option maxHeartbeats 3200000 in
theorem poolWhole_walk (n0 : Int) (A : Option Addr) (len cap bs off : Nat) (K S O : Nat → Int) (w : World) (hS : Script w A len bs off K S O) (hlc : len ≤ cap) (hcap : cap ≤ maxLen) :
    Calls Try.prog 7 #[.int .i64 n0, .slice A len cap] w fun e w' => e = .returned (.bool true) ∧ Below w.heap.size w w' := by
  go_enter Try.func7, Try.ntmps7
  go_wp2_with fail
  refine (lives_any w).mono ?_
  rintro e w1 ⟨rfl, hB1⟩
  go_wp2_with fail
  refine (ctx_new n0 hB1).mono ?_
  rintro e w2 ⟨rfl, C2⟩
  generalize w1.heap.size = b at *
  go_wp2_with fail
  refine (early_any A len cap w2 hlc hcap).mono ?_
  rintro e w3 ⟨rfl, rfl⟩
  have hn := slotsOf_le n0
  generalize slotsOf n0 = m at *
  have hS' := Lib.hid (hS.less (m := min len 80) (by omega))
  have hm : min len 80 ≤ 80 := by omega
  have hmc : min len 80 ≤ cap := by omega
  unfold maxLen at hcap
  generalize min len 80 = L at *
  have C2' := Lib.hid C2
  clear hS C2 hB1 hlc
  go_wp2
  go_loopw [6] (fun i wr => ∃ (k : Nat) (p : PS), k ≤ L ∧ i = .int .i64 k ∧ Ctx w wr b p ∧ p.tuLe k ∧ p.n = m ∧ p.inv ∧ p.five) (fun i _ => L - (intOf i).toNat)
  case atStart => exact ⟨0, PS.new m, Nat.zero_le _, rfl, C2'.out, tuLe_new _ _, rfl, inv_new _, five_new _⟩
  case round =>
    obtain ⟨k, p, hk, rfl, hC, ht, hpn, hinv, hfive⟩ := hrel
    have HC := Lib.hid hC
    have HT := Lib.hid ht
    have HN := Lib.hid hpn
    have HI := Lib.hid hinv
    have H5 := Lib.hid hfive
    clear hC ht hpn hinv hfive
    by_cases hlt : k < L
    · obtain rfl : A = some ⟨bs, off, none⟩ := hS'.out.at_.resolve_right (by omega)
      have hSr := hS'.out.below HC.out.bel
      have s0 := hSr.c0 k hlt
      have s1 := hSr.c1 k hlt
      have s2 := hSr.c2 k hlt
      obtain ⟨k0, k1⟩ := hSr.bk k hlt
      clear hSr
      have how := Lib.hid (show 0 ≤ wrap64 ((IntKind.u64.wrap (O k)).tmod 5) ∧ wrap64 ((IntKind.u64.wrap (O k)).tmod 5) < 5 by
        rw [IntKind.wrap_u64, Int.tmod_eq_emod_of_nonneg (by omega)]; unfold wrap64; omega)
      go_wp2_with fail
      generalize wrap64 ((IntKind.u64.wrap (O k)).tmod 5) = ow at *
      obtain ⟨o0, o1⟩ := how.out
      refine (kind_any (K k) (S k) (O k) _ k0 k1).mono ?_
      rintro e w5 ⟨rfl, hB5⟩
      have HC5 := Lib.hid ((HC.out.below (below_alloc (Nat.le_refl _) _)).below hB5)
      have t1 : w5.cell? ⟨wr.heap.size, 1, none⟩ = some (.int .i64 (S k)) := (hB5.cell (p := ⟨wr.heap.size, 1, none⟩) (by simp)).trans (by rw [World.cell?_alloc_at _ _ _ _ rfl]; rfl)
      have hks : kindOf (K k) = 0 ∨ kindOf (K k) = 1 ∨ kindOf (K k) = 2 ∨ kindOf (K k) = 3 := by unfold kindOf; omega
      clear hB5 s0 s1 s2 k0 k1
      generalize kindOf (K k) = kd at *
      go_upto_block 2 with (fail)
      go_cut [] (fun wx => ∃ p6, Ctx w wx b p6 ∧ p6.tuLe (k + 1) ∧ p6.n = m ∧ p6.inv ∧ p6.five)
      case first =>
        have hT2 := Lib.hid (tuLe_mono HT.out (show k ≤ k + 1 by omega))
        rcases hks with rfl | rfl | rfl | rfl
        · go_wp2_with fail
          refine (ctx_take HC5.out ow HT.out (by omega)).mono ?_
          rintro e w6 ⟨rfl, hC6⟩
          go_wp2_with fail
          go_meet
          exact ⟨_, hC6, tuLe_take HT.out _, (take_n _ _).trans HN.out, inv_take HI.out _, five_take H5.out _ ⟨o0, o1⟩⟩
        · go_wp2_with fail
          refine (ctx_take HC5.out ow HT.out (by omega)).mono ?_
          rintro e w6 ⟨rfl, hC6⟩
          go_wp2_with fail
          go_meet
          exact ⟨_, hC6, tuLe_take HT.out _, (take_n _ _).trans HN.out, inv_take HI.out _, five_take H5.out _ ⟨o0, o1⟩⟩
        · go_wp2_with fail
          refine (ctx_give HC5.out (S k) ow).mono ?_
          rintro e w6 ⟨rfl, hC6⟩
          go_wp2_with fail
          go_meet
          exact ⟨_, hC6, tuLe_give hT2.out _ _, (give_n _ _ _).trans HN.out, inv_give HI.out _ _, five_give H5.out _ _⟩
        · go_wp2_with fail
          refine (ctx_let HC5.out ow).mono ?_
          rintro e w6 ⟨rfl, hC6⟩
          go_wp2_with fail
          go_meet
          exact ⟨_, hC6, tuLe_lets hT2.out _, (lets_n _ _).trans HN.out, inv_lets HI.out _, five_lets H5.out _⟩
      case rest =>
        obtain ⟨p6, hC6, hT6, hN6, hI6, hF6⟩ := hcut
        have HC6 := Lib.hid hC6
        have HT6 := Lib.hid hT6
        have HN6 := Lib.hid hN6
        have HI6 := Lib.hid hI6
        have HF6 := Lib.hid hF6
        clear hC6 hT6 hN6 hI6 hF6 HC HT HN HI H5 HC5 t1 how o0 o1 hks
        go_wp2_with fail
        refine (ctx_free HC6.out).mono ?_
        rintro e w7 ⟨rfl, hC7⟩
        have HC7 := Lib.hid hC7
        have HW := Lib.hid (whole_sum HI6.out HF6.out)
        have hsl := fun o ho => ownSum_le HI6.out HF6.out o ho
        have HSL := Lib.hid hsl
        clear hC7 hsl HC6
        go_wp2
        go_loopw [9, 10] (fun nn oo wx => ∃ o : Nat, o ≤ 5 ∧ oo = .int .i64 o ∧ nn = .int .i64 (((freeOf p6).length + ownSum p6 o : Nat) : Int) ∧ Ctx w wx b p6) (fun _ oo _ => 5 - (intOf oo).toNat)
        case atStart => exact ⟨0, by omega, rfl, rfl, HC7.out⟩
        case round =>
          clear HC7
          obtain ⟨o, ho, rfl, rfl, hC8⟩ := hrel
          have HC8 := Lib.hid hC8
          clear hC8
          have hs1 := HSL.out o ho
          rw [HN6.out] at hs1
          by_cases hlt2 : o < 5
          · have hs2 := HSL.out (o + 1) (by omega)
            rw [HN6.out] at hs2
            have hlen : (ownOf p6 o).length ≤ 64 := by simp only [ownSum] at hs2; omega
            have hadd := Lib.hid (show (((freeOf p6).length + ownSum p6 o : Nat) : Int) + ((ownOf p6 o).length : Int) = (((freeOf p6).length + ownSum p6 (o + 1) : Nat) : Int) by simp only [ownSum]; omega)
            have hadd2 : (freeOf p6).length + ownSum p6 o + (ownOf p6 o).length ≤ 64 := by simp only [ownSum] at hs2; omega
            clear hs2
            generalize hq : (freeOf p6).length + ownSum p6 o = q at *
            clear hq
            obtain ⟨wo, rfl⟩ : ∃ wo : World, wo = wr := ⟨_, rfl⟩
            go_wp2_with fail
            refine (ctx_of HC8.out o).mono ?_
            rintro e w9 ⟨v, rfl, hown, hC9⟩
            obtain ⟨A', c', rfl⟩ := own_form hown
            have HO := Lib.hid hown
            have HC9 := Lib.hid hC9
            have HMEM := Lib.hid (fun i (hi : i < (ownOf p6 o).length) => ownOf_mem p6 o _ (List.getElem_mem hi))
            have HSORT := Lib.hid (own_lt p6 o)
            clear hown hC9 HC8
            go_wp2
            go_loopw [12] (fun x wx => ∃ t : Nat, t ≤ (ownOf p6 o).length ∧ x = .int .i64 t ∧ ∃ nq, wx = w9.drewN nq) (fun x _ => (ownOf p6 o).length - (intOf x).toNat)
            case atStart => exact ⟨0, Nat.zero_le _, rfl, 0, rfl⟩
            case round =>
              obtain ⟨t, htl, rfl, nq, rfl⟩ := hrel
              by_cases hlt3 : t < (ownOf p6 o).length
              · obtain ⟨g, cp, hv, hg1, hg2, hnc, hc, _⟩ := own_pos HO.out (by omega)
                injection hv with hA _ hc'
                subst hA
                have c1 := (hc t (by omega)).trans (show (ints (ownOf p6 o))[t]? = some (.int .i64 ((ownOf p6 o)[t] : Int)) from by simp [ints, hlt3])
                have c0 : 0 < t → w9.cell? ⟨g, t - 1, none⟩ = some (.int .i64 ((ownOf p6 o)[t - 1]'(by omega) : Int)) := fun h0 => (hc (t - 1) (by omega)).trans (by rw [ints, List.getElem?_map, List.getElem?_eq_getElem (by omega)]; rfl)
                obtain ⟨m1, m2, m3⟩ := HMEM.out t hlt3
                have hso := HSORT.out t
                have hnc' : (ownOf p6 o).length ≤ cp := hnc
                clear hc hnc hc'
                by_cases h0 : 0 < t
                · have c0' := c0 h0
                  have hso' := hso h0 hlt3
                  clear c0 hso
                  generalize (ownOf p6 o)[t] = x at *
                  generalize (ownOf p6 o)[t - 1]'(by omega) = y at *
                  have M2 := Lib.hid m2
                  have M3 := Lib.hid m3
                  clear m2 m3
                  go_wp2_with fail
                  refine (ctx_owner (HC9.out.drewN nq) x m1).mono ?_
                  rintro e w10 ⟨rfl, nr, rfl⟩
                  rw [M2.out, M3.out]
                  have b0 : (0 : Int) < (t : Int) := by omega
                  have b1 : (t : Int) < ((ownOf p6 o).length : Int) := by omega
                  have b2 : (t : Int) - 1 < ((ownOf p6 o).length : Int) := by omega
                  have b3 : (0 : Int) ≤ (t : Int) - 1 := by omega
                  have b4 : ((t : Int) - 1).toNat = t - 1 := by omega
                  have b5 : (y : Int) < (x : Int) := by omega
                  have hoo : ((o : Int) == (o : Int)) = true := by simp
                  go_wp2_with fail
                  go_quiet (fail)
                  go_wp2
                  go_roundw
                  case rel => exact ⟨t + 1, by omega, by go_num, _, rfl⟩
                  case measure => simp [intOf]; omega
                · clear c0 hso
                  generalize (ownOf p6 o)[t] = x at *
                  have M2 := Lib.hid m2
                  have M3 := Lib.hid m3
                  clear m2 m3
                  go_wp2_with fail
                  refine (ctx_owner (HC9.out.drewN nq) x m1).mono ?_
                  rintro e w10 ⟨rfl, nr, rfl⟩
                  rw [M2.out, M3.out]
                  have b0 : decide ((0 : Int) < (t : Int)) = false := by simp; omega
                  go_wp2_with fail
                  go_quiet (fail)
                  go_wp2
                  go_roundw
                  case rel => exact ⟨t + 1, by omega, by go_num, _, rfl⟩
                  case measure => simp [intOf]; omega
              · obtain rfl : t = (ownOf p6 o).length := by omega
                go_wp2
                go_roundw
                case rel => exact ⟨o + 1, by omega, by go_num, by rw [← hadd.out], HC9.out.drewN nq⟩
                case measure => simp [intOf]; omega
          · obtain rfl : o = 5 := by omega
            rw [HW.out, HN6.out]
            go_wp2_with fail
            refine (ctx_len HC8.out HN6.out).mono ?_
            rintro e w9 ⟨rfl, rfl⟩
            go_wp2
            go_roundw
            case rel => exact ⟨k + 1, p6, by omega, by go_num, HC8.out, HT6.out, HN6.out, HI6.out, HF6.out⟩
            case measure => simp [intOf]; omega
    · obtain rfl : k = L := by omega
      go_wp2
      go_ret
      exact ⟨rfl, HC.out.bel⟩
end Go.Proofs.Ytjmhdkcnllnekaa
