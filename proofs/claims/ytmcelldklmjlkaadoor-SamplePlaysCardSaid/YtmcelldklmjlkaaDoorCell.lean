/- The memory of words: its functions' contracts, where an access is within it. -/
import Derived.Test.YtmcelldklmjlkaaDoorSame
namespace Go.Proofs.YtmcelldklmjlkaaDoor
open Go.RowKit

def nums (l : List Int) : List Value := l.map (Value.int .i64)
theorem nums_len (l : List Int) : (nums l).length = l.length := by simp [nums]
theorem nums_get (l : List Int) (i : Nat) (h : i < l.length) : (nums l)[i]? = some (.int .i64 l[i]) := by simp [nums, h]
/-- A memory at mb: its words lie in lb. -/
structure MemAt (w : World) (mb lb : Nat) (l : List Int) (c : Int) : Prop where
  m : Blk w mb 113 #[.slice (some ⟨lb, 0, none⟩) l.length l.length, .int .i64 c]
  d : Blk w lb 3 (nums l).toArray
  le : l.length ≤ 4096
theorem MemAt.onl {S : Nat → Prop} {w w' : World} {mb lb : Nat} {l : List Int} {c : Int} (h : MemAt w mb lb l c) (k : Only S w w') (h1 : ¬ S mb) (h2 : ¬ S lb) : MemAt w' mb lb l c :=
  ⟨blk_onl h.m k h1, blk_onl h.d k h2, h.le⟩
theorem MemAt.ne {w : World} {mb lb : Nat} {l : List Int} {c : Int} (h : MemAt w mb lb l c) : mb ≠ lb := h.m.ne h.d (by decide)
theorem MemAt.m0 {w : World} {mb lb : Nat} {l : List Int} {c : Int} (h : MemAt w mb lb l c) : w.cell? ⟨mb, 0, none⟩ = some (.slice (some ⟨lb, 0, none⟩) l.length l.length) := (h.m.cell 0).trans rfl
theorem MemAt.m1 {w : World} {mb lb : Nat} {l : List Int} {c : Int} (h : MemAt w mb lb l c) : w.cell? ⟨mb, 1, none⟩ = some (.int .i64 c) := (h.m.cell 1).trans rfl
theorem MemAt.at_ {w : World} {mb lb : Nat} {l : List Int} {c : Int} (h : MemAt w mb lb l c) (i : Nat) (hi : i < l.length) : w.cell? ⟨lb, i, none⟩ = some (.int .i64 l[i]) :=
  (h.d.cell i).trans (by rw [List.getElem?_toArray]; exact nums_get l i hi)
/-- The blocks that an access turns. -/
def memS (mb lb : Nat) : Nat → Prop := fun k => k = mb ∨ k = lb

theorem mlen_any {w : World} {mb lb : Nat} {l : List Int} {c : Int} (h : MemAt w mb lb l c) :
    Calls Tryd.prog 75 #[.pointer (some ⟨mb, 0, none⟩)] w fun e w' => e = .returned (.int .i64 l.length) ∧ w = w' := by
  have h0 := h.m0
  clear h
  go_enter Tryd.func75, Tryd.ntmps75
  go_wp2
  go_ret
  exact ⟨rfl, rfl⟩
theorem access_ok {w : World} {mb lb : Nat} {l : List Int} {c : Int} (h : MemAt w mb lb l c) (i : Nat) (v : Int) (hi : i < l.length) (h0 : 0 ≤ v) (h1 : v ≤ 2147483647) :
    Calls Tryd.prog 73 #[.pointer (some ⟨mb, 0, none⟩), .int .i64 i, .int .i64 v] w fun e w' => e = .returned (.tuple #[.pointer (some ⟨lb, i, none⟩), .nilIface]) ∧ w.setCell ⟨mb, 1, none⟩ (.int .i64 (wrap64 (c + 1))) = w' := by
  have m0 := h.m0
  have m1 := h.m1
  have f1 := h.m.fr 1
  have HL := Lib.hid (mlen_any h)
  have b1 : (i : Int) < (l.length : Int) := by omega
  have b0 : (0 : Int) ≤ (i : Int) := by omega
  clear h
  go_enter Tryd.func73, Tryd.ntmps73
  go_wp2_with (go_at_call 75; refine (HL.out).mono ?_; rintro e w' ⟨rfl, rfl⟩)
  go_ret2
  exact ⟨rfl, rfl⟩
theorem MemAt.count {w : World} {mb lb : Nat} {l : List Int} {c : Int} (h : MemAt w mb lb l c) (x : Int) : MemAt (w.setCell ⟨mb, 1, none⟩ (.int .i64 x)) mb lb l x :=
  ⟨h.m.set 1 (.int .i64 x), h.d.far (p := ⟨mb, 1, none⟩) (Ne.symm h.ne) _, h.le⟩
theorem MemAt.put {w : World} {mb lb : Nat} {l : List Int} {c : Int} (h : MemAt w mb lb l c) (i : Nat) (x : Int) : MemAt (w.setCell ⟨lb, i, none⟩ (.int .i64 x)) mb lb (l.set i x) c := by
  have hd := h.d.set i (.int .i64 x)
  have e : (nums l).toArray.setIfInBounds i (.int .i64 x) = (nums (l.set i x)).toArray := by
    unfold nums; rw [List.setIfInBounds_toArray, List.map_set]
  rw [e] at hd
  have hm := h.m.far (p := ⟨lb, i, none⟩) h.ne (.int .i64 x)
  exact ⟨by rw [List.length_set]; exact hm, hd, by rw [List.length_set]; exact h.le⟩
theorem count_only (w : World) (mb lb : Nat) (x : Value) : Only (memS mb lb) w (w.setCell ⟨mb, 1, none⟩ x) := onl_set (onl_refl _ w) (p := ⟨mb, 1, none⟩) (.inl (.inl rfl)) x
theorem read_ok {w : World} {mb lb : Nat} {l : List Int} {c : Int} (h : MemAt w mb lb l c) (i : Nat) (hi : i < l.length) :
    Calls Tryd.prog 70 #[.pointer (some ⟨mb, 0, none⟩), .int .i64 i] w fun e w' => e = .returned (.tuple #[.int .i64 l[i], .int .i64 0]) ∧ MemAt w' mb lb l (wrap64 (c + 1)) ∧ Only (memS mb lb) w w' := by
  have HA := Lib.hid (access_ok h i 0 hi (by omega) (by omega))
  have HM := Lib.hid (h.count (wrap64 (c + 1)))
  have ci := (h.count (wrap64 (c + 1))).at_ i hi
  have HO := Lib.hid (count_only w mb lb (.int .i64 (wrap64 (c + 1))))
  clear h
  generalize l[i] = x at *
  go_enter Tryd.func70, Tryd.ntmps70
  go_wp2_with fail
  refine HA.out.mono ?_
  rintro e w' ⟨rfl, hw⟩
  rw [hw] at ci HM HO
  clear hw HA
  go_wp2
  go_ret2
  exact ⟨rfl, HM.out, HO.out⟩
theorem swap_ok {w : World} {mb lb : Nat} {l : List Int} {c : Int} (h : MemAt w mb lb l c) (i : Nat) (v : Int) (hi : i < l.length) (h0 : 0 ≤ v) (h1 : v ≤ 2147483647) :
    Calls Tryd.prog 71 #[.pointer (some ⟨mb, 0, none⟩), .int .i64 i, .int .i64 v] w fun e w' => e = .returned (.tuple #[.int .i64 l[i], .int .i64 0]) ∧ MemAt w' mb lb (l.set i v) (wrap64 (c + 1)) ∧ Only (memS mb lb) w w' := by
  have HA := Lib.hid (access_ok h i v hi h0 h1)
  have HM := Lib.hid ((h.count (wrap64 (c + 1))).put i v)
  have ci := (h.count (wrap64 (c + 1))).at_ i hi
  have fi := (h.count (wrap64 (c + 1))).d.fr i
  have HO := Lib.hid (onl_set (p := ⟨lb, i, none⟩) (count_only w mb lb (.int .i64 (wrap64 (c + 1)))) (.inl (.inr rfl)) (.int .i64 v))
  clear h
  generalize l[i] = x at *
  go_enter Tryd.func71, Tryd.ntmps71
  go_wp2_with fail
  refine HA.out.mono ?_
  rintro e w' ⟨rfl, hw⟩
  rw [hw] at ci fi HM HO
  clear hw HA h0 h1
  go_wp2
  go_ret2
  exact ⟨rfl, HM.out, HO.out⟩
theorem write_ok {w : World} {mb lb : Nat} {l : List Int} {c : Int} (h : MemAt w mb lb l c) (i : Nat) (v : Int) (hi : i < l.length) (h0 : 0 ≤ v) (h1 : v ≤ 2147483647) :
    Calls Tryd.prog 55 #[.pointer (some ⟨mb, 0, none⟩), .int .i64 i, .int .i64 v] w fun e w' => e = .returned (.int .i64 0) ∧ MemAt w' mb lb (l.set i v) (wrap64 (c + 1)) ∧ Only (memS mb lb) w w' := by
  have HA := Lib.hid (swap_ok h i v hi h0 h1)
  clear h h0 h1
  go_enter Tryd.func55, Tryd.ntmps55
  go_wp2_with fail
  refine HA.out.mono ?_
  rintro e w' ⟨rfl, hM, hO⟩
  have HM := Lib.hid hM
  have HO := Lib.hid hO
  clear hM hO HA
  go_wp2
  go_ret
  exact ⟨rfl, HM.out, HO.out⟩

theorem infoInt : (Tryd.prog.info? 3).map (fun i => (i.zero, i.size, i.bytes)) = some (some (.int .i64 0), 1, 8) := by kernel_rfl
/-- A slice of ints, cloned. -/
theorem sliceNil (A : Option Addr) (n c : Nat) (w : World) : (binOp .eql 29 (.slice A n c) (.slice none 0 0)).run Tryd.prog w = .ok (.bool A.isNone) w := by
  cases A <;> kernel_rfl
attribute [local go_sem ↓] sliceNil
theorem clone_any {w : World} {v : Value} {l : List Int} (h : IntsIn w v l) (hl : l.length ≤ 65536) :
    Calls Tryd.prog 30 #[v] w fun e w' => ∃ v', e = .returned v' ∧ w'.ownsRow w.heap.size 3 1 v' l.length (nums l) ∧ Below w.heap.size w w' := by
  obtain ⟨A, c, rfl, hc, k⟩ := h
  obtain ⟨i0, hi, hz0, hz1, hz2⟩ := info_parts infoInt
  rcases A with _ | a
  · have h0 : l.length = 0 := by
      rcases Nat.eq_zero_or_pos l.length with h | h
      · exact h
      · obtain ⟨g, o, e, _⟩ := k h
        cases e
    obtain rfl := List.eq_nil_of_length_eq_zero h0
    clear k h0 hl hc hi hz0 hz1 hz2
    go_enter Tryd.func30, Tryd.ntmps30
    go_wp2
    go_ret
    exact ⟨_, rfl, World.ownsRow_nil _ _ _ _, Below.refl _ _⟩
  · have hnews : ∀ j u, (nums l)[j]? = some u → w.cell? (a.add j) = some u := by
      intro j u hj
      have hjl : j < l.length := by have := (List.getElem?_eq_some_iff.1 hj).1; rwa [nums_len] at this
      obtain ⟨g, o, e, hcell⟩ := k (by omega)
      obtain rfl := Option.some.inj e
      rw [nums_get l j hjl] at hj
      have ha : (⟨g, o, none⟩ : Addr).add j = ⟨g, o + j, none⟩ := by unfold Addr.add; split <;> simp_all
      rw [ha, hcell j hjl, hj]
    have HN := Lib.hid hnews
    clear k hnews
    go_enter Tryd.func30, Tryd.ntmps30
    go_wp2_with (at_builtin; go_loud (refine wpList_append_own (w.alloc (.cells #[] 3)) rfl _ _ 29 rfl w.heap.size 3 i0 (.int .i64 0) 1 8 Tryd.underlying29 hi hz0 hz1 hz2 rfl (by decide) (.slice (some ⟨w.heap.size, 0, none⟩) 0 0) 0 [] rfl (World.ownsRow_lit w #[] 0 (Nat.le_refl _) (by decide) rfl) a l.length c (nums l) rfl (by simp [nums]) ?_ (ints_oneCell _ _) ?_ ?_ (by simp) ?_))
    · intro j u hj
      have := HN.out j u hj
      rw [World.cell?_alloc_lt _ _ _ (World.block_lt_of_cell? _ _ this)]
      exact this
    · simp [maxLen]; omega
    · omega
    intro v' w' ho hg _
    have HO := Lib.hid ho
    have HB := Lib.hid ((below_alloc (Nat.le_refl w.heap.size) (.cells #[] 3)).grown hg (by simp) (fun k hk => by simp [Value.ownBlock] at hk; omega))
    clear ho hg
    go_wp2
    go_ret
    exact ⟨_, rfl, HO.out, HB.out⟩
theorem MemAt.ints {w : World} {mb lb : Nat} {l : List Int} {c : Int} (h : MemAt w mb lb l c) : IntsIn w (.slice (some ⟨lb, 0, none⟩) l.length l.length) l :=
  ⟨_, _, rfl, Nat.le_refl _, fun _ => ⟨lb, 0, rfl, fun i hi => by rw [Nat.zero_add]; exact h.at_ i hi⟩⟩
theorem nums_zeros (n : Nat) : madeCells #[.int .i64 0] n = (nums (List.replicate n 0)).toArray := by
  apply Array.toList_inj.1
  rw [toList_madeCells_one]
  simp [nums]
set_option maxRecDepth 100000 in
/-- A new memory of n cells. -/
theorem mnew_any (n : Nat) (w : World) (hn : n ≤ 4096) :
    Calls Tryd.prog 48 #[.int .i64 n] w fun e w' => e = .returned (.pointer (some ⟨w.heap.size + 1, 0, none⟩)) ∧ MemAt w' (w.heap.size + 1) w.heap.size (List.replicate n 0) 0 ∧ Below w.heap.size w w' := by
  have hmk := fun W => run_make_row' (P := Tryd.prog) 29 3 (.int .i64 0) 8 Tryd.underlying29 infoInt rfl .i64 .i64 n (by omega) (by omega) W
  have b0 : (0 : Int) ≤ (n : Int) := by omega
  have b1 : (n : Int) ≤ 4096 := by omega
  have HM := Lib.hid (show MemAt ((w.alloc (.cells (madeCells #[.int .i64 0] n) 3)).alloc (.cells #[.slice (some ⟨w.heap.size, 0, none⟩) n n, .int .i64 0] 113)) (w.heap.size + 1) w.heap.size (List.replicate n 0) 0 from
    ⟨by rw [List.length_replicate]; have := Blk.new (w.alloc (.cells (madeCells #[.int .i64 0] n) 3)) 113 #[.slice (some ⟨w.heap.size, 0, none⟩) n n, .int .i64 0]; simpa using this,
      by have := (Blk.new w 3 (madeCells #[.int .i64 0] n)).alloc (.cells #[.slice (some ⟨w.heap.size, 0, none⟩) n n, .int .i64 0] 113); rw [nums_zeros] at this ⊢; exact this,
      by rw [List.length_replicate]; exact hn⟩)
  have HB := Lib.hid ((below_alloc (w := w) (Nat.le_refl _) (.cells (madeCells #[.int .i64 0] n) 3)).alloc (by simp) (.cells #[.slice (some ⟨w.heap.size, 0, none⟩) n n, .int .i64 0] 113))
  clear hn
  go_enter Tryd.func48, Tryd.ntmps48
  go_wp2
  go_ret
  exact ⟨rfl, HM.out, HB.out⟩
end Go.Proofs.YtmcelldklmjlkaaDoor
