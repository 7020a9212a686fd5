/- A register of four slots: what may be written; a write, and a read, begin. -/
import Derived.Test.YtmcelldklmjlkaaDoorFourC
import Derived.Test.YtmcelldklmjlkaaDoorFill
namespace Go.Proofs.YtmcelldklmjlkaaDoor
open Go.RowKit

def okWord (v : Int) : Prop := 0 ≤ v ∧ v ≤ 2147483647
instance : DecidablePred okWord := fun v => by unfold okWord; infer_instance
def allOk (l : List Int) : Prop := ∀ v ∈ l, okWord v
instance : DecidablePred allOk := fun l => by unfold allOk; infer_instance
theorem odd_any (v : Int) (w : World) :
    Calls Tryd.prog 49 #[.int .i64 v] w fun e w' => e = .returned (.bool (!decide (okWord v))) ∧ w = w' := by
  by_cases hq : okWord v
  · rw [show (!decide (okWord v)) = false by simp [hq]]
    have h0 : ¬ v < 0 := by unfold okWord at hq; omega
    have h1 : ¬ 2147483647 < v := by unfold okWord at hq; omega
    clear hq
    go_enter Tryd.func49, Tryd.ntmps49
    go_wp2
    go_ret
    exact ⟨rfl, rfl⟩
  · rw [show (!decide (okWord v)) = true by simp [hq]]
    have hh : v < 0 ∨ (¬ v < 0 ∧ 2147483647 < v) := by unfold okWord at hq; omega
    clear hq
    rcases hh with h0 | ⟨h0, h1⟩
    all_goals
      go_enter Tryd.func49, Tryd.ntmps49
      go_wp2
      go_ret
      exact ⟨rfl, rfl⟩
set_option maxHeartbeats 1600000 in
theorem index_any {w : World} {v : Value} {l : List Int} (h : IntsIn w v l) (hl65 : l.length ≤ 65536) :
    Calls Tryd.prog 69 #[v, .func (.func 49) #[] #[]] w fun e w' => (∃ k : Int, e = .returned (.int .i64 k) ∧ (allOk l → k = -1) ∧ (¬ allOk l → 0 ≤ k)) ∧ w = w' := by
  obtain ⟨A, c, rfl, hc, hcs⟩ := h
  have HC := Lib.hid (show ∀ (k : Nat) (h : k < l.length), ∃ g o, A = some ⟨g, o, none⟩ ∧ w.cell? ⟨g, o + k, none⟩ = some (.int .i64 l[k]) from fun k hk => by
    obtain ⟨g, o, rfl, hcell⟩ := hcs (by omega)
    exact ⟨g, o, rfl, hcell k hk⟩)
  clear hcs
  go_enter Tryd.func69, Tryd.ntmps69
  go_wp2_with fail
  go_loop [8] (fun i => ∃ k : Nat, k ≤ l.length ∧ i = .int .i64 k ∧ ∀ t (h : t < l.length), t < k → okWord l[t]) (fun i => l.length - (intOf i).toNat)
  case atStart => exact ⟨0, Nat.zero_le _, rfl, fun t _ e => by omega⟩
  case round =>
    obtain ⟨k, hk, rfl, hall⟩ := hrel
    have HALL := Lib.hid hall
    clear hall
    by_cases hlt : k < l.length
    · obtain ⟨g, o, rfl, ck⟩ := HC.out k hlt
      have b1 : (k : Int) < (l.length : Int) := by omega
      have b0 : (0 : Int) ≤ (k : Int) := by omega
      obtain ⟨x, hx⟩ : ∃ x, x = l[k] := ⟨_, rfl⟩
      rw [← hx] at ck
      have HX := Lib.hid hx
      clear hx
      by_cases hok : okWord x
      · have hd : (!decide (okWord x)) = false := by simp [hok]
        have HN := Lib.hid (show ∀ t (h : t < l.length), t < k + 1 → okWord l[t] from fun t ht e => by
          rcases Nat.lt_or_ge t k with h' | h'
          · exact HALL.out t ht h'
          · have : t = k := by omega
            subst this
            rw [← HX.out]
            exact hok)
        have HO := Lib.hid (odd_any x w)
        rw [hd] at HO
        clear hok HALL hd
        go_wp2_with fail
        refine HO.out.mono ?_
        rintro e w' ⟨rfl, rfl⟩
        go_wp2_with fail
        go_round
        case rel => exact ⟨k + 1, by omega, by go_num, HN.out⟩
        case measure => simp [intOf]; omega
      · have hd : (!decide (okWord x)) = true := by simp [hok]
        have HO := Lib.hid (odd_any x w)
        rw [hd] at HO
        have HB := Lib.hid (show ¬ allOk l from fun e => hok (by rw [HX.out]; exact e _ (List.getElem_mem _)))
        clear hok HALL hd
        go_wp2_with fail
        refine HO.out.mono ?_
        rintro e w' ⟨rfl, rfl⟩
        go_wp2
        go_ret
        exact ⟨⟨k, rfl, fun e => absurd e HB.out, fun _ => b0⟩, rfl⟩
    · obtain rfl : k = l.length := by omega
      have b1 : ¬ (l.length : Int) < (l.length : Int) := by omega
      have hall : allOk l := fun v hv => by
        obtain ⟨t, ht, rfl⟩ := List.getElem_of_mem hv
        exact HALL.out t ht ht
      have HA := Lib.hid hall
      clear hall HALL
      go_wp2
      go_ret
      exact ⟨⟨-1, rfl, fun _ => rfl, fun e => absurd HA.out e⟩, rfl⟩
theorem contains_any {w : World} {v : Value} {l : List Int} (h : IntsIn w v l) (hl65 : l.length ≤ 65536) :
    Calls Tryd.prog 50 #[v, .func (.func 49) #[] #[]] w fun e w' => e = .returned (.bool (!decide (allOk l))) ∧ w = w' := by
  have HI := Lib.hid (index_any h hl65)
  obtain ⟨A, c, rfl, -⟩ := h
  by_cases hall : allOk l
  · have hd : (!decide (allOk l)) = false := by simp [hall]
    rw [hd]
    have HA := Lib.hid hall
    clear hall hd
    go_enter Tryd.func50, Tryd.ntmps50
    go_wp2_with fail
    refine HI.out.mono ?_
    rintro e w' ⟨⟨k, rfl, h1, -⟩, rfl⟩
    obtain rfl := h1 HA.out
    go_wp2
    go_ret
    exact ⟨rfl, rfl⟩
  · have hd : (!decide (allOk l)) = true := by simp [hall]
    rw [hd]
    have HA := Lib.hid hall
    clear hall hd
    go_enter Tryd.func50, Tryd.ntmps50
    go_wp2_with fail
    refine HI.out.mono ?_
    rintro e w' ⟨⟨k, rfl, -, h1⟩, rfl⟩
    have h0 := h1 HA.out
    clear h1
    go_wp2
    go_ret
    exact ⟨by simp, rfl⟩
section
variable {w w' : World} {B b mb lb : Nat} {X Z : Nat → Prop} {s : FS} {vl vi vr vo v : Value} {c : Int} {l : List Int}
/-- All new blocks may hold what is left of the accesses. -/
theorem FAt.grow (h : FAt w B b mb lb X Z s vl vi vr vo c) (hb : Below w.heap.size w w') : FAt w' B b mb lb X (newX Z w w') s vl vi vr vo c := by
  have h2 := h.below hb
  have hbl := h.r.lt
  have hml := h.m.m.lt
  have hll := h.m.d.lt
  refine ⟨h2.r, h2.m, h2.il.mono fun k e => .inl e, h2.ol, fun g hg => ⟨(h2.so g hg).1, fun e => e.elim (h2.so g hg).2.1 fun e => by have := (h.ol.lt g hg).2; omega, (h2.so g hg).2.2⟩, fun k e => ?_, h2.x⟩
  rcases e with e | e
  · exact h2.z k e
  · exact ⟨e.2, by unfold regS; omega, fun f => by have := (h.x k f).1; omega⟩
/-- The words of the write are new. -/
theorem FAt.words (h : FAt w B b mb lb X Z s vl vi vr vo c) (hi : IntsX w Z v l) : FAt (w.setCell ⟨b, 5, none⟩ v) B b mb lb X Z { s with il := l } vl v vr vo c := by
  have hne := h.ne
  have hO : Only (fun k => k = b) w (w.setCell ⟨b, 5, none⟩ v) := onl_set (S := fun k => k = b) (onl_refl _ w) (p := ⟨b, 5, none⟩) (.inl rfl) v
  exact h.set 5 v (s' := { s with il := l }) (vl' := vl) (vi' := v) (vr' := vr) rfl rfl hi rfl
theorem begins_w {A : Option Addr} {n cc : Nat} (h : FAt w B b mb lb X Z s (.slice none 0 0) vi vr vo c) :
    Calls Tryd.prog 57 #[.pointer (some ⟨b, 0, none⟩), .bool true, .slice A n cc] w fun e w' => e = .returned (.int .i64 0) ∧ w' = w.setCell ⟨b, 2, none⟩ (.slice A n cc) := by
  have c2 := h.c2
  have f2 := h.r.fr 2
  clear h
  go_enter Tryd.func57, Tryd.ntmps57
  go_wp2_with fail
  refine (side_w b w).mono ?_
  rintro e w' ⟨rfl, rfl⟩
  go_wp2
  go_ret
  exact ⟨rfl, rfl⟩
theorem begins_r {A : Option Addr} {n cc : Nat} (h : FAt w B b mb lb X Z s vl vi (.slice none 0 0) vo c) :
    Calls Tryd.prog 57 #[.pointer (some ⟨b, 0, none⟩), .bool false, .slice A n cc] w fun e w' => e = .returned (.int .i64 0) ∧ w' = w.setCell ⟨b, 6, none⟩ (.slice A n cc) := by
  have c6 := h.c6
  have f6 := h.r.fr 6
  clear h
  go_enter Tryd.func57, Tryd.ntmps57
  go_wp2_with fail
  refine (side_r b w).mono ?_
  rintro e w' ⟨rfl, rfl⟩
  go_wp2
  go_ret
  exact ⟨rfl, rfl⟩
/-! ### Write begins nothing -/
set_option maxHeartbeats 1600000 in
theorem write_bad (h : FAt w B b mb lb X Z s vl vi vr vo c) (hv : IntsIn w v l) (hl65 : l.length ≤ 65536) (hbad : ¬ (l.length = s.W ∧ allOk l)) :
    Calls Tryd.prog 33 #[.pointer (some ⟨b, 0, none⟩), v] w fun e w' => e = .returned (.int .i64 3) ∧ Below w.heap.size w w' := by
  have c0 : (w.alloc (.cells #[.pointer (some ⟨b, 0, none⟩)] 78)).cell? ⟨b, 0, none⟩ = some (.int .i64 s.W) := ((h.below (below_alloc (Nat.le_refl _) _)).c0)
  have hv2 := hv.below (below_alloc (w := w) (Nat.le_refl _) (.cells #[.pointer (some ⟨b, 0, none⟩)] 78))
  have HC := Lib.hid (contains_any hv2 hl65)
  obtain ⟨A, cc, rfl, -⟩ := hv
  have hba := below_alloc (w := w) (Nat.le_refl _) (.cells #[.pointer (some ⟨b, 0, none⟩)] 78)
  by_cases hl : l.length = s.W
  · have hb : ¬ allOk l := fun e => hbad ⟨hl, e⟩
    have hd : (!decide (allOk l)) = true := by simp [hb]
    rw [hd] at HC
    have b1 : ((l.length : Int) != (s.W : Int)) = false := by simp; omega
    clear h hv2 hbad hl hb hd
    go_enter Tryd.func33, Tryd.ntmps33
    go_wp2_with fail
    refine HC.out.mono ?_
    rintro e w' ⟨rfl, rfl⟩
    go_wp2
    go_ret
    exact ⟨rfl, hba⟩
  · have b1 : ((l.length : Int) != (s.W : Int)) = true := by simp; omega
    clear h hv2 hbad hl
    go_enter Tryd.func33, Tryd.ntmps33
    go_wp2
    go_ret
    exact ⟨rfl, hba⟩
set_option maxHeartbeats 1600000 in
theorem write_busy {A : Option Addr} {n cc : Nat} (h : FAt w B b mb lb X Z s (.slice A n cc) vi vr vo c) (hn : 0 < n) (hv : IntsIn w v l) (hl65 : l.length ≤ 65536) (hl : l.length = s.W) (hok : allOk l) :
    Calls Tryd.prog 33 #[.pointer (some ⟨b, 0, none⟩), v] w fun e w' => e = .returned (.int .i64 1) ∧ Below w.heap.size w w' := by
  have h2 := h.below (below_alloc (Nat.le_refl _) (.cells #[.pointer (some ⟨b, 0, none⟩)] 78))
  have c0 := h2.c0
  have c2 := h2.c2
  have hv2 := hv.below (below_alloc (w := w) (Nat.le_refl _) (.cells #[.pointer (some ⟨b, 0, none⟩)] 78))
  have HC := Lib.hid (contains_any hv2 hl65)
  obtain ⟨A, cc, rfl, -⟩ := hv
  have hba := below_alloc (w := w) (Nat.le_refl _) (.cells #[.pointer (some ⟨b, 0, none⟩)] 78)
  have hd : (!decide (allOk l)) = false := by simp [hok]
  rw [hd] at HC
  have b1 : ((l.length : Int) != (s.W : Int)) = false := by simp; omega
  have b2 : (0 : Int) < (n : Int) := by omega
  clear h h2 hv2 hl hok hd
  go_enter Tryd.func33, Tryd.ntmps33
  go_wp2_with fail
  refine HC.out.mono ?_
  rintro e w' ⟨rfl, rfl⟩
  go_wp2
  go_ret
  exact ⟨rfl, hba⟩
theorem write_nil (A : Option Addr) (n cc : Nat) (w : World) :
    Calls Tryd.prog 33 #[.pointer none, .slice A n cc] w fun e w' => e = .returned (.int .i64 3) ∧ Below w.heap.size w w' := by
  have hba := below_alloc (w := w) (Nat.le_refl _) (.cells #[.pointer none] 78)
  go_enter Tryd.func33, Tryd.ntmps33
  go_wp2
  go_ret
  exact ⟨rfl, hba⟩
theorem read_nil (w : World) :
    Calls Tryd.prog 38 #[.pointer none] w fun e w' => e = .returned (.int .i64 1) ∧ Below w.heap.size w w' := by
  have hba := below_alloc (w := w) (Nat.le_refl _) (.cells #[.pointer none] 78)
  go_enter Tryd.func38, Tryd.ntmps38
  go_wp2
  go_ret
  exact ⟨rfl, hba⟩
theorem read_busy {A : Option Addr} {n cc : Nat} (h : FAt w B b mb lb X Z s vl vi (.slice A n cc) vo c) (hn : 0 < n) :
    Calls Tryd.prog 38 #[.pointer (some ⟨b, 0, none⟩)] w fun e w' => e = .returned (.int .i64 1) ∧ Below w.heap.size w w' := by
  have h2 := h.below (below_alloc (Nat.le_refl _) (.cells #[.pointer (some ⟨b, 0, none⟩)] 78))
  have c6 := h2.c6
  have hba := below_alloc (w := w) (Nat.le_refl _) (.cells #[.pointer (some ⟨b, 0, none⟩)] 78)
  have b2 : (0 : Int) < (n : Int) := by omega
  clear h h2
  go_enter Tryd.func38, Tryd.ntmps38
  go_wp2
  go_ret
  exact ⟨rfl, hba⟩
end
end Go.Proofs.YtmcelldklmjlkaaDoor
