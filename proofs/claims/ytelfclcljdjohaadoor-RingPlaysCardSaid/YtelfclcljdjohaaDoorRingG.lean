/- Messages through a ring: the pop's words, and its last access. -/
import Derived.Test.YtelfclcljdjohaaDoorRingF
import Derived.Deep.AppendLies
namespace Go.Proofs.YtelfclcljdjohaaDoor
open Go.RowKit
attribute [local go_sem] run_mkf events_mkf

set_option maxRecDepth 100000 in
set_option maxHeartbeats 1600000 in
theorem take_last {w : World} {B b mb lb : Nat} {X : Nat → Prop} {s : RS} {vi vo : Value} {c : Int} (h : RAt w B b mb lb X s vi vo c) (hk : s.ok) (hn : s.ol.length = s.W) :
    Calls Tryd.prog 52 #[.pointer (some ⟨b, 0, none⟩)] w fun e w' =>
      e = .returned (.tuple #[.bool true, .int .i64 0]) ∧ RAt w' B b mb lb X { s with mem := s.mem.set 0 ((nextOf s.P s.oh : Nat) : Int) } vi vo (wrap64 (c + 1)) ∧ Only (regS b mb lb) w w' := by
  have c0 := h.c0
  have c1 := h.c1
  have c2 := h.c2
  have c9 := h.c9
  have c11 := h.c11
  obtain ⟨A, cc, rfl⟩ := own_form h.ol
  rw [hn] at c11
  have hP1 := hk.p1
  have hP8 := hk.p8
  have hit := hk.oh
  have hit16 : s.oh ≤ 16 := by omega
  have H := Lib.hid h
  have HW := Lib.hid (write_next h hk 0 s.oh (by omega))
  rw [show ((0 : Nat) : Int) = 0 from rfl] at HW
  have HC := Lib.hid (show ∀ W', W'.heap = w.heap → Calls Tryd.prog 36 #[.pointer (some ⟨b, 0, none⟩), .int .i64 ((s.oh : Int) + 1)] W' fun e w' => e = .returned (.int .i64 ((nextOf s.P s.oh : Nat) : Int)) ∧ ∃ q, w' = W'.drewN q from
    fun W' hW' => by
      have := round_any s.P ((s.oh : Int) + 1) (cell_heap c0 hW') hP1 hP8 (by omega) (by omega)
      rw [next_eq] at this
      exact this)
  have hnb := Lib.hid (show ¬ memS mb lb b from fun e => e.elim h.ne.1 h.ne.2)
  have hw1 : IntKind.i64.wrap ((s.oh : Int) + 1) = (s.oh : Int) + 1 := by rw [IntKind.wrap_i64]; omega
  have hnlt : ¬ (s.W : Int) < (s.W : Int) := by omega
  clear h hk hn hP1 hP8 hit
  go_enter Tryd.func52, Tryd.ntmps52
  go_wp2_with fail
  go_quiet (fail)
  go_wp2_with fail
  go_region_held3 (fun w' => w'.cell? ⟨b, 2, none⟩ = some (.pointer (some ⟨mb, 0, none⟩)) ∧ w'.cell? ⟨b, 9, none⟩ = some (.int .i64 s.oh)) (go_keep)
    (first
      | (go_at_call 36; refine (HC.out _ (by rfl)).mono ?_; rintro e w' ⟨rfl, q, rfl⟩)
      | (go_at_call 55; refine (HW.out _ (by rfl)).mono ?_; rintro e w' ⟨rfl, hM, hO⟩; have hO' := onl_heap (a := w) hO rfl rfl rfl rfl; have k2 := cell_onl c2 hO' hnb.out; have k9 := cell_onl c9 hO' hnb.out; have HM := Lib.hid hM; have HO := Lib.hid hO'; clear hM hO hO'))
  have HF := Lib.hid (H.out.mem_ HM.out HO.out)
  have HOF := Lib.hid (onl_mono (T := regS b mb lb) HO.out fun k e => .inr e)
  clear H HM HO HW HC
  go_wp2
  go_ret2
  exact ⟨rfl, HF.out, HOF.out⟩
theorem own_heap {w w' : World} {base : Nat} {e : TypeId} {size n : Nat} {v : Value} {xs : List Value} (h : w.ownsRow base e size v n xs) (hk : w'.heap = w.heap) : w'.ownsRow base e size v n xs := by
  obtain ⟨h1, h2⟩ := h
  refine ⟨h1, ?_⟩
  rcases h2 with h2 | ⟨g, cap, cur, hv, hg, hh, r⟩
  · exact Or.inl h2
  · exact Or.inr ⟨g, cap, cur, hv, hg, by rw [hk]; exact hh, r⟩
theorem only_app {w W3 w2 : World} {row : Option Nat} (o : Obj) (hk : W3.heap = (w.alloc o).heap) (h1 : W3.os = w.os) (h2 : W3.tape = w.tape) (h3 : W3.output = w.output) (hg : W3.grownBy w2 row) : Only (fun k => row = some k) w w2 := by
  have hs : w.heap.size ≤ W3.heap.size := by rw [hk]; simp
  exact ⟨hg.os.trans h1, hg.tape.trans h2, hg.output.trans h3, Nat.le_trans hs hg.size, fun k hk' hn => (hg.block k (by omega) (fun e => hn e.symm)).trans (by rw [hk]; exact Below.heap_alloc w o k hk')⟩
theorem take_fin {w w2 : World} {B b mb lb : Nat} {X : Nat → Prop} {s : RS} {vi vo : Value} {c : Int} (h : RAt w B b mb lb X s vi vo c) (hO : Only (fun k => vo.ownBlock = some k) w w2) (g cap : Nat) (x : Int)
    (hown : w2.ownsRow B 3 1 (.slice (some ⟨g, 0, none⟩) (s.ol.length + 1) cap) (s.ol.length + 1) (nums s.ol ++ [.int .i64 x])) (hat : vo.ownBlock = some g ∨ w.heap.size ≤ g) :
    RAt (w2.setCell ⟨b, 11, none⟩ (.slice (some ⟨g, 0, none⟩) (s.ol.length + 1) cap)) B b mb lb X { s with ol := s.ol ++ [x] } vi (.slice (some ⟨g, 0, none⟩) (s.ol.length + 1) cap) c ∧ Only (turnS b mb lb vo) w (w2.setCell ⟨b, 11, none⟩ (.slice (some ⟨g, 0, none⟩) (s.ol.length + 1) cap)) := by
  have hne := h.ne
  have hbl := h.r.lt
  have hml := h.m.m.lt
  have hll := h.m.d.lt
  have hgr : ¬ regS b mb lb g := by
    rcases hat with e | e
    · exact h.so g e
    · unfold regS; omega
  have hO2 : Only (fun k => k = b) w2 (w2.setCell ⟨b, 11, none⟩ (.slice (some ⟨g, 0, none⟩) (s.ol.length + 1) cap)) := onl_set (S := fun k => k = b) (onl_refl _ w2) (p := ⟨b, 11, none⟩) (.inl rfl) _
  have hr := (blk_onl h.r hO (fun e => h.so b e (.inl rfl))).set 11 (.slice (some ⟨g, 0, none⟩) (s.ol.length + 1) cap)
  have hm := (h.m.onl hO (fun e => h.so mb e (.inr (.inl rfl))) (fun e => h.so lb e (.inr (.inr rfl)))).onl hO2 (fun e => hne.1 e.symm) (fun e => hne.2 e.symm)
  have hil := own_onl (own_onl h.il hO (fun k hk e => h.si k hk (.inr e))) hO2 (fun k hk e => h.si k hk (.inl (.inl e)))
  have hol := own_onl hown hO2 (fun k hk e => by simp [Value.ownBlock] at hk; exact hgr (.inl (by omega)))
  refine ⟨⟨by simpa [ringCells] using hr, hm, hil, by simpa [nums] using hol, fun k hk e => ?_, fun k hk e => ?_, h.xi, fun k hk e => ?_, fun k hk => Nat.lt_of_lt_of_le (h.lx k hk) (Nat.le_trans hO.size hO2.size)⟩, onl_trans (onl_mono hO fun k e => .inr e) (onl_mono hO2 fun k e => .inl (.inl e))⟩
  · rcases e with e | e
    · exact h.si k hk (.inl e)
    · simp [Value.ownBlock] at e
      subst e
      rcases hat with e | e
      · exact h.si g hk (.inr e)
      · have := (h.il.lt g hk).2
        omega
  · simp [Value.ownBlock] at hk
    subst hk
    exact hgr e
  · simp [Value.ownBlock] at hk
    subst hk
    rcases hat with e' | e'
    · exact h.xo g e' e
    · have := h.lx g e
      omega
set_option maxRecDepth 100000 in
set_option maxHeartbeats 1600000 in
theorem take_more {w : World} {B b mb lb : Nat} {X : Nat → Prop} {s : RS} {vi vo : Value} {c : Int} (h : RAt w B b mb lb X s vi vo c) (hk : s.ok) (hB : B ≤ w.heap.size) (hn : s.ol.length < s.W) (x : Int) (hx : s.mem[2 + s.oh % s.P * s.W + s.ol.length]? = some x) :
    Calls Tryd.prog 52 #[.pointer (some ⟨b, 0, none⟩)] w fun e w' =>
      e = .returned (.tuple #[.bool false, .int .i64 0]) ∧ ∃ vo', RAt w' B b mb lb X { s with ol := s.ol ++ [x] } vi vo' (wrap64 (c + 1)) ∧ Only (turnS b mb lb vo) w w' := by
  have c0 := h.c0
  have c1 := h.c1
  have c2 := h.c2
  have c9 := h.c9
  have c11 := h.c11
  obtain ⟨A, cc, rfl⟩ := own_form h.ol
  have hP1 := hk.p1
  have hP8 := hk.p8
  have hW6 := hk.w6
  have hoh := hk.oh
  have hlt := idx_lt (a := s.oh) hP1 hn
  rw [← hk.len] at hlt
  have hxe : s.mem[2 + s.oh % s.P * s.W + s.ol.length] = x := by rw [List.getElem?_eq_getElem hlt] at hx; exact Option.some.inj hx
  have H := Lib.hid h
  have HC := Lib.hid (show ∀ W', W'.heap = w.heap → Calls Tryd.prog 56 #[.pointer (some ⟨b, 0, none⟩), .int .i64 s.oh, .int .i64 s.ol.length] W' fun e w' => e = .returned (.int .i64 ((2 + s.oh % s.P * s.W + s.ol.length : Nat) : Int)) ∧ ∃ q, w' = W'.drewN q from
    fun W' hW' => cell_any s.P s.W s.oh s.ol.length (cell_heap c0 hW') (cell_heap c1 hW') hP1 hP8 hW6 (by omega) (by omega))
  have HG := Lib.hid (show ∀ W', W'.heap = w.heap → Calls Tryd.prog 47 #[.pointer (some ⟨b, 0, none⟩), .int .i64 ((2 + s.oh % s.P * s.W + s.ol.length : Nat) : Int)] W' fun e w' => e = .returned (.int .i64 x) ∧ MemAt w' mb lb s.mem (wrap64 (c + 1)) ∧ Only (memS mb lb) W' w' from
    fun W' hW' => by
      have := get_any (h.m.heap hW') (cell_heap c2 hW') (2 + s.oh % s.P * s.W + s.ol.length) hlt
      rw [hxe] at this
      exact this)
  have hnb := Lib.hid (show ¬ memS mb lb b from fun e => e.elim h.ne.1 h.ne.2)
  have b1 : (s.ol.length : Int) < (s.W : Int) := by omega
  have hl6 : s.ol.length ≤ 6 := by omega
  obtain ⟨i0, hi, hz0, hz1, hz2⟩ := info_parts infoInt
  clear h hk hn hP1 hP8 hW6 hoh hlt hxe hx
  go_enter Tryd.func52, Tryd.ntmps52
  go_wp2_with fail
  go_quiet (fail)
  go_wp2_with fail
  go_region_law (first
    | (go_simp; go_at_call 56; refine (HC.out _ (by rfl)).mono ?_; rintro e w' ⟨rfl, q, rfl⟩)
    | (go_simp; go_at_call 47; refine (HG.out _ (by rfl)).mono ?_; rintro e w' ⟨rfl, hM, hO⟩; have hO' := onl_heap (a := w) hO rfl rfl rfl rfl; have k11 := cell_onl c11 hO' hnb.out; have ka11 := (World.cell?_alloc_lt w' (.cells #[.int .i64 x] 3) ⟨b, 11, none⟩ (World.block_lt_of_cell? _ _ k11)).trans k11; have HH := Lib.hid (H.out.mem_ hM hO'); have HO := Lib.hid hO'; clear hM hO hO')
    | (refine step_append_lies _ rfl (.tmp 22) (.tmp 36) 32 rfl B 3 i0 (.int .i64 0) 1 8 Tryd.underlying32 hi hz0 hz1 hz2 rfl (by decide) (.slice A s.ol.length cc) s.ol.length (nums s.ol) (by simp [Act.eval]) (own_heap (HH.out.ol.alloc (.cells #[.int .i64 x] 3)) (by rfl)) ⟨w'.heap.size, 0, none⟩ 1 1 [.int .i64 x] (by simp [Act.eval]) rfl (one_new w' _ _) (by simp [Value.oneCell']) (by omega) (by simp [maxLen]; omega) (by omega) (by have := HO.out.size; simp; omega) _ rfl ?_; intro g cap w2 hown hg hat hlt; have hOA := only_app (w := w') (.cells #[.int .i64 x] 3) (by rfl) (by rfl) (by rfl) (by rfl) hg; have HF := Lib.hid (take_fin HH.out hOA g cap x hown (hat.imp id (fun e => by rw [e]; simp))); have q11 := cell_onl (HH.out.c11) hOA (fun e => HH.out.so b e (.inl rfl)); have qf := (World.frozen?_of_block (a := ⟨b, 11, none⟩) (hOA.block b HH.out.r.lt (fun e => HH.out.so b e (.inl rfl)))).trans (HH.out.r.fr 11); clear hown hg hat hlt hOA))
  all_goals
    go_wp2
    go_ret2
    exact ⟨rfl, ⟨_, HF.out.1⟩, onl_trans (onl_mono HO.out fun k e => .inl (.inr e)) HF.out.2⟩
end Go.Proofs.YtelfclcljdjohaaDoor
