/- New, Of, Free, Let. -/
import Derived.Test.YtjmhdkcnllnekaaPoolTake
namespace Go.Proofs.Ytjmhdkcnllnekaa
open Go.RowKit

def pf (n : Int) (j : Nat) : Value := if j = 0 then .int .i64 n else if j < 129 then (if j % 2 = 1 then .bool false else .int .i64 0) else .int .i64 0
def pool0 (n : Int) : Array Value := ((List.range 193).map (pf n)).toArray
def zeros60 : Array Value := pool0 0
theorem zero60 (w : World) : (zeroValue 60).run Try.prog w = .ok (.agg zeros60) w := by kernel_rfl
theorem pool0_get (n : Int) (j : Nat) (hj : j < 193) : (pool0 n)[j]? = some (pf n j) := by
  simp only [pool0, List.getElem?_toArray, List.getElem?_map, List.getElem?_range hj, Option.map_some]
theorem zeros60_ne : (zeros60 = #[]) = False := by
  simp only [eq_iff_iff, iff_false]
  intro h
  have := pool0_get 0 0 (by omega)
  unfold zeros60 at h
  rw [h] at this
  simp at this
theorem zeros60_set (n : Int) : zeros60.setIfInBounds 0 (.int .i64 n) = pool0 n := by
  apply Array.ext_getElem?
  intro j
  rw [Array.getElem?_setIfInBounds]
  unfold zeros60
  by_cases hj : j < 193
  · rw [pool0_get 0 j hj, pool0_get n j hj]
    by_cases e : 0 = j
    · subst e; simp [pool0, pf]
    · rw [if_neg e]; simp [pf, Ne.symm e]
  · rw [Array.getElem?_eq_none (by simp [pool0]; omega), Array.getElem?_eq_none (by simp [pool0]; omega), if_neg (by omega)]
attribute [local go_sem] zero60 zeros60_ne zeros60_set
def PS.new (n : Nat) : PS := { n := n, tk := fun _ => false, ow := fun _ => 0, tu := fun _ => 0 }
theorem pool0_at {n : Nat} (hn : n ≤ 64) {w : World} {b : Nat} (h : Blk w b 60 (pool0 n)) : PoolAt w b (PS.new n) := by
  have hc := fun i => h.cell i
  refine ⟨hn, (hc 0).trans ?_, fun i hi => (hc _).trans ?_, fun i hi => (hc _).trans ?_, fun i hi => (hc _).trans ?_, h.fr⟩
  · rw [pool0_get _ _ (by omega)]; rfl
  · rw [pool0_get _ _ (by omega)]; simp [pf, PS.new]; omega
  · rw [pool0_get _ _ (by omega)]; simp [pf, PS.new]; omega
  · rw [pool0_get _ _ (by omega)]; simp [pf, PS.new]; omega
def slotsOf (n : Int) : Nat := (min (max n 0) 64).toNat
theorem slotsOf_le (n : Int) : slotsOf n ≤ 64 := by unfold slotsOf; omega
theorem new_any (n : Int) (w : World) :
    Calls Try.prog 10 #[.int .i64 n] w fun e w' => e = .returned (.pointer (some ⟨w.heap.size, 0, none⟩)) ∧ PoolAt w' w.heap.size (PS.new (slotsOf n)) ∧ Below w.heap.size w w' := by
  have hP := Lib.hid (pool0_at (slotsOf_le n) (Blk.new w 60 (pool0 (slotsOf n))))
  have hB := Lib.hid (below_alloc (w := w) (Nat.le_refl _) (.cells (pool0 (slotsOf n)) 60))
  have e : ((slotsOf n : Nat) : Int) = min (max n 0) 64 := by unfold slotsOf; omega
  rw [e] at hP hB
  clear e
  by_cases h0 : n < 0
  · rw [show min (max n 0) 64 = 0 from by omega] at hP hB
    go_enter Try.func10, Try.ntmps10
    go_wp2
    go_ret
    exact ⟨rfl, hP.out, hB.out⟩
  · by_cases h1 : 64 < n
    · rw [show min (max n 0) 64 = 64 from by omega] at hP hB
      go_enter Try.func10, Try.ntmps10
      go_wp2
      go_ret
      exact ⟨rfl, hP.out, hB.out⟩
    · rw [show min (max n 0) 64 = n from by omega] at hP hB
      go_enter Try.func10, Try.ntmps10
      go_wp2
      go_ret
      exact ⟨rfl, hP.out, hB.out⟩

def ownOf (p : PS) (o : Int) : List Nat := findTo p true o p.n
def freeOf (p : PS) : List Nat := findTo p false 0 p.n
theorem of_any (b : Nat) (p : PS) (o : Int) (w : World) (h : PoolAt w b p) :
    Calls Try.prog 21 #[.pointer (some ⟨b, 0, none⟩), .int .i64 o] w fun e w' => ∃ v, e = .returned v ∧ w'.ownsRow (w.heap.size + 1) 3 1 v (ownOf p o).length (ints (ownOf p o)) ∧ Below w.heap.size w w' := by
  go_enter Try.func21, Try.ntmps21
  go_wp2_with fail
  refine (find_any b p true o w h).mono ?_
  rintro e w1 ⟨v, rfl, hown, hbel⟩
  have H1 := Lib.hid hown
  have H2 := Lib.hid hbel
  clear hown hbel
  go_wp2
  go_ret
  exact ⟨_, rfl, H1.out, H2.out⟩
theorem of_nil (o : Int) (w : World) :
    Calls Try.prog 21 #[.pointer none, .int .i64 o] w fun e w' => e = .returned (.slice none 0 0) ∧ Below w.heap.size w w' := by
  go_enter Try.func21, Try.ntmps21
  go_wp2_with fail
  refine (find_nil true o w).mono ?_
  rintro e w1 ⟨rfl, hbel⟩
  have H2 := Lib.hid hbel
  clear hbel
  go_wp2
  go_ret
  exact ⟨rfl, H2.out⟩
theorem free_any (b : Nat) (p : PS) (w : World) (h : PoolAt w b p) :
    Calls Try.prog 17 #[.pointer (some ⟨b, 0, none⟩)] w fun e w' => e = .returned (.int .i64 (freeOf p).length) ∧ Below w.heap.size w w' := by
  go_enter Try.func17, Try.ntmps17
  go_wp2_with fail
  refine (find_any b p false 0 w h).mono ?_
  rintro e w1 ⟨v, rfl, hown, hbel⟩
  obtain ⟨A, c, rfl⟩ := own_form hown
  have H2 := Lib.hid hbel
  clear hown hbel
  go_wp2
  go_ret
  exact ⟨rfl, H2.out⟩
theorem free_nil (w : World) :
    Calls Try.prog 17 #[.pointer none] w fun e w' => e = .returned (.int .i64 0) ∧ Below w.heap.size w w' := by
  go_enter Try.func17, Try.ntmps17
  go_wp2_with fail
  refine (find_nil false 0 w).mono ?_
  rintro e w1 ⟨rfl, hbel⟩
  have H2 := Lib.hid hbel
  clear hbel
  go_wp2
  go_ret
  exact ⟨rfl, H2.out⟩

def PS.gave (p : PS) (l : List Nat) : PS := { p with tk := fun j => if j ∈ l then false else p.tk j, ow := fun j => if j ∈ l then 0 else p.ow j }
theorem gave_nil (p : PS) : p.gave [] = p := by simp [PS.gave]
theorem gave_snoc (p : PS) (l : List Nat) (i : Nat) : (p.gave l).set i false 0 = p.gave (l ++ [i]) := by
  simp only [PS.gave, PS.set, List.mem_append, List.mem_singleton, PS.mk.injEq, true_and, and_true]
  constructor <;> (funext j; by_cases h : j = i <;> by_cases h' : j ∈ l <;> simp [h, h'])
theorem ownOf_nodup (p : PS) (o : Int) : (ownOf p o).Nodup := (List.nodup_range).filter _
theorem ownOf_mem (p : PS) (o : Int) (i : Nat) (h : i ∈ ownOf p o) : i < p.n ∧ p.tk i = true ∧ p.ow i = o := by
  simpa [ownOf, findTo] using h
theorem getElem_not_mem_take {l : List Nat} (h : l.Nodup) (k : Nat) (hk : k < l.length) : l[k] ∉ l.take k := by
  intro hm
  rw [List.mem_take_iff_getElem] at hm
  obtain ⟨j, hj, e⟩ := hm
  have := (List.getElem_inj h).1 e
  omega
set_option maxHeartbeats 800000 in
theorem let_any (b : Nat) (p : PS) (o : Int) (w : World) (h : PoolAt w b p) :
    Calls Try.prog 19 #[.pointer (some ⟨b, 0, none⟩), .int .i64 o] w fun e w' => e = .returned (.int .i64 (ownOf p o).length) ∧ PoolAt w' b (p.gave (ownOf p o)) ∧ w.grownBy w' (some b) := by
  have hlt := h.lt
  have hl := h.le
  have hn := findTo_le p true o p.n
  change (ownOf p o).length ≤ p.n at hn
  have hH := Lib.hid h
  go_enter Try.func19, Try.ntmps19
  go_wp2_with fail
  refine (of_any b p o w h).mono ?_
  rintro e w1 ⟨v, rfl, hown, hbel⟩
  clear h
  obtain ⟨A, c, rfl⟩ := own_form hown
  have H1 := Lib.hid hown
  have H2 := Lib.hid hbel
  clear hown hbel
  go_wp2
  go_loopw [13] (fun i wr => ∃ k : Nat, k ≤ (ownOf p o).length ∧ i = .int .i64 k ∧ PoolAt wr b (p.gave ((ownOf p o).take k)) ∧ w1.grownBy wr (some b)) (fun i _ => (ownOf p o).length - (intOf i).toNat)
  case atStart => exact ⟨0, Nat.zero_le _, rfl, by rw [List.take_zero, gave_nil]; exact hH.out.below H2.out hlt, World.grownBy.refl _ _⟩
  case round =>
    obtain ⟨k, hk, rfl, hP, hG⟩ := hrel
    by_cases hlt' : k < (ownOf p o).length
    · obtain ⟨g, cap, hv, hg1, hg2, hnc, hc, hfz⟩ := own_pos H1.out (by omega)
      injection hv with hA _ hc'
      subst hA
      have c0 := (hc k (by omega)).trans (show (ints (ownOf p o))[k]? = some (.int .i64 ((ownOf p o)[k] : Int)) from by simp [ints, hlt'])
      have c1 : wr.cell? ⟨g, k, none⟩ = some (.int .i64 ((ownOf p o)[k] : Int)) := hG.cell c0 (by simp; omega)
      have HP := Lib.hid hP
      have HG := Lib.hid hG
      have hnc' : (ownOf p o).length ≤ cap := hnc
      clear hP hG hc hfz c0 hc'
      obtain ⟨m1, m2, m3⟩ := ownOf_mem p o _ (List.getElem_mem hlt')
      have hni := Lib.hid (getElem_not_mem_take (ownOf_nodup p o) k hlt')
      have hnext := Lib.hid (List.take_succ_eq_append_getElem hlt')
      generalize (ownOf p o)[k] = i at *
      have M2 := Lib.hid m2
      have M3 := Lib.hid m3
      clear m2 m3
      go_wp2_with fail
      refine (give_ok b _ i o wr HP.out m1 ?_ ?_).mono ?_
      · simp [PS.gave, hni.out, M2.out]
      · simp [PS.gave, hni.out, M3.out]
      rintro e w2 ⟨rfl, hP2, hG2⟩
      have HP2 := Lib.hid hP2
      have HG2 := Lib.hid (only_trans HG.out hG2)
      clear hP2 hG2
      go_wp2
      go_roundw
      case rel =>
        refine ⟨k + 1, by omega, by go_num, ?_, HG2.out⟩
        rw [hnext.out, ← gave_snoc]
        exact HP2.out
      case measure => simp [intOf]; omega
    · obtain rfl : k = (ownOf p o).length := by omega
      rw [List.take_length] at hP
      have HP := Lib.hid hP
      have HG := Lib.hid hG
      clear hP hG
      go_wp2
      go_ret
      exact ⟨rfl, HP.out, only_trans (only_of_below H2.out _) HG.out⟩
end Go.Proofs.Ytjmhdkcnllnekaa
