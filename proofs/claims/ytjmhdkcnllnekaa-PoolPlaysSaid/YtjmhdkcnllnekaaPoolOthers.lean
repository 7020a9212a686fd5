/- PoolOthers: the walk. -/
import Derived.Test.YtjmhdkcnllnekaaPoolPure
import Derived.Test.YtjmhdkcnllnekaaSame
import Derived.Deep.DeepCutAuto
import Derived.Deep.CutBlock
namespace Go.Proofs.Ytjmhdkcnllnekaa
open Go.RowKit
theorem ownOf_congr {p q : PS} (o : Int) (hn : q.n = p.n) (h : ∀ j, (q.tk j = true ∧ q.ow j = o) ↔ (p.tk j = true ∧ p.ow j = o)) : ownOf q o = ownOf p o := by
  unfold ownOf findTo
  rw [hn]
  apply List.filter_congr
  intro j _
  have := h j
  rw [Bool.eq_iff_iff]
  simpa using this
theorem own_take (p : PS) (o x : Int) (hx : o ≠ x) : ownOf (p.take o).1 x = ownOf p x := by
  cases hf : freeOf p with
  | nil => rw [take_empty hf]
  | cons i rest =>
    rw [take_cons hf]
    have h := free_head hf
    refine ownOf_congr x rfl fun j => ?_
    simp only [PS.up, PS.set]
    by_cases e : j = i
    · subst e; simp [h.2.1, hx]
    · simp [e]
theorem own_give (p : PS) (i o x : Int) (hx : o ≠ x) : ownOf (p.give i o).1 x = ownOf p x := by
  unfold PS.give
  repeat' split
  · rfl
  · rfl
  · rfl
  · rename_i h1 h2 h3
    refine ownOf_congr x rfl fun j => ?_
    simp only [PS.set]
    by_cases e : j = i.toNat
    · subst e
      have h3' : p.ow i.toNat = o := by simpa using h3
      simp [h3', hx]
    · simp [e]
theorem own_lets (p : PS) (o x : Int) (hx : o ≠ x) : ownOf (p.lets o) x = ownOf p x := by
  refine ownOf_congr x rfl fun j => ?_
  simp only [PS.lets, PS.gave]
  by_cases e : j ∈ ownOf p o
  · have := (ownOf_mem p o j e).2.2
    simp [e, this, hx]
  · simp [e]
theorem own_lets_self (p : PS) (o : Int) : ownOf (p.lets o) o = [] := by
  unfold ownOf findTo
  rw [List.filter_eq_nil_iff]
  intro j hj
  have hj' : j < p.n := by simpa [PS.lets, PS.gave] using hj
  simp only [PS.lets, PS.gave]
  by_cases e : j ∈ ownOf p o
  · simp [e]
  · have : ¬ (p.tk j = true ∧ p.ow j = o) := fun h => e ((findTo_mem p true o p.n j).2 ⟨hj', h⟩)
    simpa [e] using this
def qa (m : Nat) : PS := ((PS.new (m + 2)).take 77).1
def qb (m : Nat) : PS := ((qa m).take 77).1
theorem free_new (m : Nat) : freeOf (PS.new (m + 2)) = 0 :: 1 :: List.range' 2 m := by
  have : freeOf (PS.new (m + 2)) = List.range (m + 2) := by
    unfold freeOf findTo
    rw [List.filter_eq_self.2 (by simp [PS.new])]
    rfl
  rw [this, List.range_eq_range', List.range'_succ, List.range'_succ]
theorem take_qa (m : Nat) : (PS.new (m + 2)).take 77 = (qa m, 0, 0) := by
  unfold qa; rw [take_cons (free_new m)]; rfl
theorem free_qa (m : Nat) : freeOf (qa m) = 1 :: List.range' 2 m := by
  unfold qa; rw [take_cons (free_new m)]; exact free_take (free_new m) 77
theorem take_qb (m : Nat) : (qa m).take 77 = (qb m, 1, 0) := by
  unfold qb; rw [take_cons (free_qa m)]; rfl
theorem own_qb (m : Nat) : ownOf (qb m) 77 = [0, 1] := by
  have h1 : (qb m).n = m + 2 := by
    unfold qb; rw [take_n]; unfold qa; rw [take_n]; rfl
  have h2 : ∀ j, ((qb m).tk j = true ∧ (qb m).ow j = 77) ↔ j = 0 ∨ j = 1 := by
    intro j
    unfold qb
    rw [take_cons (free_qa m)]
    unfold qa
    rw [take_cons (free_new m)]
    simp only [PS.up, PS.set, PS.new]
    by_cases e1 : j = 1
    · simp [e1]
    · by_cases e0 : j = 0
      · simp [e0]
      · simp [e0, e1]
  unfold ownOf findTo
  rw [h1, List.range_eq_range', List.range'_succ, List.range'_succ]
  have h3 : ∀ j, ((qb m).tk j == true && (qb m).ow j == 77) = decide (j = 0 ∨ j = 1) := by
    intro j
    rw [Bool.eq_iff_iff]
    simpa using h2 j
  simp only [h3]
  rw [List.filter_cons, List.filter_cons]
  simp only [Nat.zero_add, true_or, or_true, decide_true, if_true]
  rw [List.filter_eq_nil_iff.2]
  intro j hj
  have := (List.mem_range'_1.1 hj).1
  simp; omega
theorem own_zero {p : PS} (h : ownOf p 77 = [0, 1]) : p.give 0 78 = (p, 2) := by
  have h0 := ownOf_mem p 77 0 (by rw [h]; simp)
  unfold PS.give
  rw [if_neg (by omega), if_neg (by simp [h0.2.1]), if_pos (by simp [h0.2.2])]

set_option maxRecDepth 100000 in
set_option maxHeartbeats 3200000 in
theorem poolOthers_walk (n0 : Int) (A : Option Addr) (len cap bs off : Nat) (K S O : Nat → Int) (w : World) (hS : Script w A len bs off K S O) (hlc : len ≤ cap) (hcap : cap ≤ maxLen) :
    Calls Try.prog 5 #[.int .i64 n0, .slice A len cap] w fun e w' => e = .returned (.bool true) ∧ Below w.heap.size w w' := by
  obtain ⟨m, hm2, hm62⟩ : ∃ m : Nat, slotsOf (max (min n0 64) 2) = m + 2 ∧ m ≤ 62 := ⟨slotsOf (max (min n0 64) 2) - 2, by unfold slotsOf; omega, by unfold slotsOf; omega⟩
  have HM2 := Lib.hid hm2
  clear hm2
  go_enter Try.func5, Try.ntmps5
  go_wp2_with fail
  refine (lives_any w).mono ?_
  rintro e w1 ⟨rfl, hB1⟩
  have HB1 := Lib.hid hB1
  clear hB1
  go_upto_region 3 with (fail)
  go_cut [5] (fun x wx => ∃ b, x = .pointer (some ⟨b, 0, none⟩) ∧ Ctx w wx b (PS.new (m + 2)))
  case first =>
    rcases (show n0 < 2 ∨ (2 ≤ n0 ∧ n0 ≤ 64) ∨ 64 < n0 by omega) with h | ⟨h, h'⟩ | h
    · rw [show max (min n0 64) 2 = 2 from by omega] at HM2
      go_wp2_with fail
      refine (ctx_new 2 HB1.out).mono ?_
      rintro e w2 ⟨rfl, C2⟩
      rw [HM2.out] at C2
      go_wp2_with fail
      go_meet
      exact ⟨_, rfl, C2⟩
    · rw [show max (min n0 64) 2 = n0 from by omega] at HM2
      go_wp2_with fail
      refine (ctx_new n0 HB1.out).mono ?_
      rintro e w2 ⟨rfl, C2⟩
      rw [HM2.out] at C2
      go_wp2_with fail
      go_meet
      exact ⟨_, rfl, C2⟩
    · rw [show max (min n0 64) 2 = 64 from by omega] at HM2
      go_wp2_with fail
      refine (ctx_new 64 HB1.out).mono ?_
      rintro e w2 ⟨rfl, C2⟩
      rw [HM2.out] at C2
      go_wp2_with fail
      go_meet
      exact ⟨_, rfl, C2⟩
  case rest =>
    obtain ⟨b, rfl, C2⟩ := hcut
    go_wp2_with fail
    refine (ctx_take_eq C2 77 (tuLe_new _ 0) (by omega) (take_qa m)).mono ?_
    rintro e w3 ⟨rfl, C3⟩
    have t3 : (qa m).tuLe 1 := tuLe_take (tuLe_new (m + 2) 0) 77
    go_wp2_with fail
    refine (ctx_take_eq C3 77 t3 (by omega) (take_qb m)).mono ?_
    rintro e w4 ⟨rfl, C4⟩
    have t4 : (qb m).tuLe 2 := tuLe_take t3 77
    go_wp2_with fail
    refine (early_any A len cap w4 hlc hcap).mono ?_
    rintro e w5 ⟨rfl, rfl⟩
    have hS' := Lib.hid (hS.less (m := min len 80) (by omega))
    have hm : min len 80 ≤ 80 := by omega
    have hmc : min len 80 ≤ cap := by omega
    unfold maxLen at hcap
    generalize min len 80 = L at *
    have C4' := Lib.hid C4
    have T4 := Lib.hid t4
    clear hS C2 C3 C4 t3 t4 HB1 hlc
    go_wp2
    go_loopw [10] (fun i wr => ∃ (k : Nat) (p : PS), k ≤ L ∧ i = .int .i64 k ∧ Ctx w wr b p ∧ p.tuLe (k + 2) ∧ ownOf p 77 = [0, 1]) (fun i _ => L - (intOf i).toNat)
    case atStart => exact ⟨0, qb m, Nat.zero_le _, rfl, C4'.out, T4.out, own_qb m⟩
    case round =>
      obtain ⟨k, p, hk, rfl, hC, ht, ho⟩ := hrel
      have HC := Lib.hid hC
      have HT := Lib.hid ht
      have HO := Lib.hid ho
      clear hC ht ho
      by_cases hlt : k < L
      · obtain rfl : A = some ⟨bs, off, none⟩ := hS'.out.at_.resolve_right (by omega)
        have hSr := hS'.out.below HC.out.bel
        have s0 := hSr.c0 k hlt
        have s1 := hSr.c1 k hlt
        have s2 := hSr.c2 k hlt
        obtain ⟨k0, k1⟩ := hSr.bk k hlt
        clear hSr
        by_cases hO : O k = 77
        · go_wp2_with fail
          go_roundw
          case rel => exact ⟨k + 1, p, by omega, by go_num, HC.out.below (below_alloc (Nat.le_refl _) _), tuLe_mono HT.out (by omega), HO.out⟩
          case measure => simp [intOf]; omega
        · have hO' : (O k == 77) = false := by simpa using hO
          have hOr : O k ≠ 77 := hO
          go_wp2_with fail
          refine (kind_any (K k) (S k) (O k) _ k0 k1).mono ?_
          rintro e w5 ⟨rfl, hB5⟩
          have HC5 := Lib.hid ((HC.out.below (below_alloc (Nat.le_refl _) _)).below hB5)
          have t1 : w5.cell? ⟨wr.heap.size, 1, none⟩ = some (.int .i64 (S k)) := (hB5.cell (p := ⟨wr.heap.size, 1, none⟩) (by simp)).trans (by rw [World.cell?_alloc_at _ _ _ _ rfl]; rfl)
          have t2 : w5.cell? ⟨wr.heap.size, 2, none⟩ = some (.int .i64 (O k)) := (hB5.cell (p := ⟨wr.heap.size, 2, none⟩) (by simp)).trans (by rw [World.cell?_alloc_at _ _ _ _ rfl]; rfl)
          have hks : kindOf (K k) = 0 ∨ kindOf (K k) = 1 ∨ kindOf (K k) = 2 ∨ kindOf (K k) = 3 := by unfold kindOf; omega
          clear hB5 s0 s1 s2 k0 k1
          generalize kindOf (K k) = kd at *
          go_upto_block 2 with (fail)
          go_cut [] (fun wx => ∃ p6, Ctx w wx b p6 ∧ p6.tuLe (k + 1 + 2) ∧ ownOf p6 77 = [0, 1])
          case first =>
            have hT2 := Lib.hid (tuLe_mono HT.out (show k + 2 ≤ k + 1 + 2 by omega))
            rcases hks with rfl | rfl | rfl | rfl
            · go_wp2_with fail
              refine (ctx_take HC5.out (O k) HT.out (by omega)).mono ?_
              rintro e w6 ⟨rfl, hC6⟩
              go_wp2_with fail
              go_meet
              exact ⟨_, hC6, tuLe_take HT.out _, (own_take _ _ _ hOr).trans HO.out⟩
            · go_wp2_with fail
              refine (ctx_take HC5.out (O k) HT.out (by omega)).mono ?_
              rintro e w6 ⟨rfl, hC6⟩
              go_wp2_with fail
              go_meet
              exact ⟨_, hC6, tuLe_take HT.out _, (own_take _ _ _ hOr).trans HO.out⟩
            · go_wp2_with fail
              refine (ctx_give HC5.out (S k) (O k)).mono ?_
              rintro e w6 ⟨rfl, hC6⟩
              go_wp2_with fail
              go_meet
              exact ⟨_, hC6, tuLe_give hT2.out _ _, (own_give _ _ _ _ hOr).trans HO.out⟩
            · go_wp2_with fail
              refine (ctx_let HC5.out (O k)).mono ?_
              rintro e w6 ⟨rfl, hC6⟩
              go_wp2_with fail
              go_meet
              exact ⟨_, hC6, tuLe_lets hT2.out _, (own_lets _ _ _ hOr).trans HO.out⟩
          case rest =>
            obtain ⟨p6, hC6, hT6, hO6⟩ := hcut
            have HC6 := Lib.hid hC6
            have HT6 := Lib.hid hT6
            have HO6 := Lib.hid hO6
            clear hC6 hT6 hO6 HC HT HO HC5 t1 t2
            go_wp2_with fail
            refine (ctx_give_eq HC6.out 0 78 (own_zero HO6.out)).mono ?_
            rintro e w7 ⟨rfl, hC7⟩
            have HC7 := Lib.hid hC7
            clear hC7
            go_wp2_with fail
            refine (ctx_of HC7.out 77).mono ?_
            rintro e w8 ⟨v, rfl, hown, hC8⟩
            rw [HO6.out] at hown
            have hI := Lib.hid (IntsIn.of_own (l := [0, 1]) hown rfl)
            have HC8 := Lib.hid (hC8.below (below_alloc (Nat.le_refl _) (.cells #[.int .i64 0, .int .i64 1] 3)))
            have hJ := Lib.hid (show IntsIn (w8.alloc (.cells #[.int .i64 0, .int .i64 1] 3)) (.slice (some ⟨w8.heap.size, 0, none⟩) 2 2) [0, 1] from
              ⟨_, _, rfl, Nat.le_refl _, fun _ => ⟨w8.heap.size, 0, rfl, fun i hi => by
                rw [World.cell?_alloc_at _ _ _ _ rfl]
                match i, hi with
                | 0, _ => rfl
                | 1, _ => rfl⟩⟩)
            have hI2 := Lib.hid (hI.out.below (below_alloc (Nat.le_refl _) (.cells #[.int .i64 0, .int .i64 1] 3)))
            clear hown hC8 hI
            go_wp2_with fail
            refine (same_yes hI2.out hJ.out (by simp)).mono ?_
            rintro e w9 ⟨rfl, nq, rfl⟩
            have HC9 := Lib.hid (HC8.out.drewN nq)
            clear HC8 hI2 hJ
            go_wp2
            go_roundw
            case rel => exact ⟨k + 1, p6, by omega, by go_num, HC9.out, HT6.out, HO6.out⟩
            case measure => simp [intOf]; omega
      · obtain rfl : k = L := by omega
        go_wp2_with fail
        refine (ctx_let HC.out 77).mono ?_
        rintro e w6 ⟨rfl, C6⟩
        rw [HO.out]
        have C6' := Lib.hid C6
        clear C6
        go_wp2_with fail
        refine (ctx_of C6'.out 77).mono ?_
        rintro e w7 ⟨v, rfl, hown, C7⟩
        rw [own_lets_self] at hown
        obtain ⟨A', c', rfl⟩ := own_form hown
        have C7' := Lib.hid C7
        clear C7 hown
        go_wp2
        go_ret
        exact ⟨rfl, C7'.out.bel⟩
end Go.Proofs.Ytjmhdkcnllnekaa
