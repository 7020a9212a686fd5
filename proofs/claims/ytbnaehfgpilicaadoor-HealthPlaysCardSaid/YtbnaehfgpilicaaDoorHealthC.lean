/- A log: All. -/
import Derived.Test.YtbnaehfgpilicaaDoorHealthB
namespace Go.Proofs.YtbnaehfgpilicaaDoor
open Go.RowKit

/-- append(row, x), as one step of a region that draws. -/
theorem wp_app_one {P : Program} {W : World} {o : Oper} {a : Act} {K : Act → World → Prop} {Q : Exit → Act → World → Prop} (s x : Operand) (t : TypeId)
    (ho : o.op = .call { callee := .builtin .append, args := #[s, x], argTypes := #[t, t] })
    (base : Nat) (e : TypeId) (z : Value) (size bytes : Nat) (ht : P.underlying t = some (.slice e)) (hI : (P.info? e).map (fun i => (i.zero, i.size, i.bytes)) = some (some z, size, bytes))
    (hzs : z.cells.size = size) (hsz : 0 < size) (v : Value) (n : Nat) (xs : List Value) (hs : a.eval s = v) (hown : W.ownsRow base e size v n xs) (u : Array Value) (hu : u.size = size)
    (hx : a.eval x = .slice (some ⟨W.heap.size, 0, none⟩) 1 1) (h1 : ∀ c ∈ u.toList, c.oneCell' = true) (hn : n ≤ 1048576) (hby : bytes ≤ 1048576) (hbase : base ≤ W.heap.size)
    (h : ∀ v' w', w'.ownsRow base e size v' (n + 1) (xs ++ u.toList) → Below base (W.alloc (.cells u e)) w' → K (a.put o.dst v') w') : o.wp P a (W.alloc (.cells u e)) K Q := by
  obtain ⟨i, hi, hz, hz1, hz2⟩ := info_parts hI
  refine wp_append_own _ s x t ho base e i z size bytes ht hi hz hz1 hz2 hzs hsz v n xs hs (hown.alloc _) ⟨W.heap.size, 0, none⟩ 1 1 u.toList hx (by simp [hu]) ?_ h1 (by unfold maxLen; omega) ?_ (by simp; omega) ?_
  · intro j c hc
    have hj : (⟨W.heap.size, 0, none⟩ : Addr).add j = ⟨W.heap.size, j, none⟩ := by unfold Addr.add; split <;> simp_all
    rw [hj, World.cell?_alloc_at _ _ _ _ rfl]
    simpa using hc
  · calc (n + 1) * bytes ≤ 1048577 * 1048576 := Nat.mul_le_mul (by omega) hby
      _ ≤ _ := by decide
  · intro v' w' ho' hg hiff
    exact h v' w' ho' ((Below.refl base _).grown hg (by simp; omega) fun k hk => (hown.lt k hk).1)
theorem own_drew {w : World} {base : Nat} {e : TypeId} {size n : Nat} {v : Value} {xs : List Value} (h : w.ownsRow base e size v n xs) : w.drew.ownsRow base e size v n xs := h
set_option maxHeartbeats 1600000 in
theorem all_any {w : World} {b : Nat} {l : List Ev} (h : LogAt w b l) (hl : l.length ≤ 100000) :
    Calls Tryd.prog 18 #[.pointer (some ⟨b, 0, none⟩)] w fun r w' => ∃ v, r = .returned v ∧ w'.ownsRow w.heap.size 23 5 v (lastOf l).length (flat (lastOf l)) ∧ Below w.heap.size w w' := by
  have hlt := h.lt
  have H := Lib.hid h
  have HT := Lib.hid (told_any h)
  have HG := Lib.hid (gone_any h hl)
  obtain ⟨g, hg⟩ : ∃ g : Nat, g = goneOf l := ⟨_, rfl⟩
  obtain ⟨L, hL⟩ : ∃ L, L = lastOf l := ⟨_, rfl⟩
  have hn : l.length = g + L.length := by rw [hL, lastOf_len, hg]; unfold goneOf; omega
  have h64 : L.length ≤ 64 := by rw [hL, lastOf_len']; omega
  have HL := Lib.hid (show ∀ (k : Nat) (hk : k < L.length), g + k < l.length ∧ (∀ h' : g + k < l.length, L[k] = l[g + k]) from fun k hk => ⟨by omega, fun h' => by subst hL; subst hg; exact lastOf_get l k hk⟩)
  rw [← hL]
  rw [← hg] at HG
  have hsub : (l.length : Int) - (g : Int) = (L.length : Int) := by omega
  have HGN := Lib.hid hg
  clear h hg hL
  have HN := Lib.hid hn
  have HSUB := Lib.hid hsub
  clear hn
  go_enter Tryd.func18, Tryd.ntmps18
  go_wp2_with fail
  refine HT.out.mono ?_
  rintro r w' ⟨rfl, rfl⟩
  go_wp2_with fail
  refine HG.out.mono ?_
  rintro r w' ⟨rfl, rfl⟩
  go_wp2_with fail
  go_loopw [3, 10] (fun v i wr => ∃ k : Nat, k ≤ L.length ∧ i = .int .i64 k ∧ wr.ownsRow w.heap.size 23 5 v k (flat (L.take k)) ∧ Below w.heap.size w wr) (fun _ i _ => L.length - (intOf i).toNat)
  case atStart => exact ⟨0, Nat.zero_le _, rfl, ⟨by simp [flat], Or.inl ⟨rfl, rfl⟩⟩, Below.refl _ _⟩
  case round =>
    obtain ⟨k, hk, rfl, hown, hbel⟩ := hrel
    obtain ⟨A, c, rfl⟩ := own_form hown
    have HO := Lib.hid hown
    have HB := Lib.hid hbel
    clear hown
    by_cases hlt' : k < L.length
    · have hP : LogAt wr b l := H.out.below hbel hlt
      have HGW := Lib.hid (gone_any (w := wr.drew) (b := b) (l := l) (hP.keep rfl) hl)
      obtain ⟨hgk, hgl⟩ := HL.out k hlt'
      have hev := hP.ev (g + k) hgk (by have := HN.out; omega)
      rw [← hgl hgk] at hev
      have HTK := Lib.hid (show flat (L.take (k + 1)) = flat (L.take k) ++ L[k].cells.toList by rw [List.take_succ_eq_append_getElem hlt', flat_snoc])
      have hgn : goneOf l = g := HGN.out.symm
      rw [hgn] at HGW
      have HHH := Lib.hid hgn
      clear hgn hgl
      generalize L[k] = e at *
      obtain ⟨m, hm⟩ : ∃ m, m = (g + k) % 64 := ⟨_, rfl⟩
      rw [← hm] at hev
      have m64 : (m : Int) < 64 := by omega
      have m0 : (0 : Int) ≤ (m : Int) := by omega
      have hs0 : IntKind.i64.wrap ((g : Int) + (k : Int)) = (g : Int) + (k : Int) := by rw [IntKind.wrap_i64]; omega
      have hs1 : (0 : Int) ≤ (g : Int) + (k : Int) := by omega
      have ht : ((g : Int) + (k : Int)).tmod 64 = (m : Int) := by rw [Int.tmod_eq_emod_of_nonneg hs1]; omega
      have ht' : ((g : Int) + (k : Int)) % 64 = (m : Int) := by omega
      have w0 : IntKind.i64.wrap (m : Int) = (m : Int) := by rw [IntKind.wrap_i64]; omega
      have HM := Lib.hid hm
      have hbs : w.heap.size ≤ wr.heap.size := hbel.size
      have hE : EvAt wr.drew b (m * 5) e := hev.keep rfl
      have hbw : b < wr.heap.size := by omega
      clear hm hP hgk hbel hev
      go_wp2_with fail
      refine wp_region_held_drew (S := fun w' => EvAt w' b (m * 5) e) rfl hE fun hS => ?_
      refine wpAnyH_take (i := 0) (v := .slice A k c) rfl (by kernel_rfl) (by kernel_rfl) (by kernel_rfl) (fun _ _ _ h => h) (Or.inl ⟨by kernel_rfl, fun w' _ => by kernel_rfl⟩) hS ?_
      refine wpAnyH_take (i := 1) (v := .pointer (some ⟨b, 0, none⟩)) rfl (by kernel_rfl) (by kernel_rfl) (by kernel_rfl) (fun _ _ _ h => h) (Or.inl ⟨by kernel_rfl, fun w' _ => by kernel_rfl⟩) hS ?_
      refine wpAnyH_take (i := 2) (v := .pointer (some ⟨b, 0, none⟩)) rfl (by kernel_rfl) (by kernel_rfl) (by kernel_rfl) (fun _ _ _ h => h) (Or.inl ⟨by kernel_rfl, fun w' _ => by kernel_rfl⟩) hS ?_
      refine wpAnyH_take (i := 4) (v := .int .i64 (k : Int)) rfl (by kernel_rfl) (by kernel_rfl) (by kernel_rfl) (fun _ _ _ h => h) (Or.inl ⟨by kernel_rfl, fun w' _ => by kernel_rfl⟩) hS ?_
      refine wpAnyH_take (i := 7) (v := .pointer (some ⟨b, 0, none⟩)) rfl (by kernel_rfl) (by kernel_rfl) (by kernel_rfl) (fun _ _ _ h => h) (Or.inl ⟨by kernel_rfl, fun w' _ => by kernel_rfl⟩) hS ?_
      refine wpAnyH_take (i := 8) (v := .pointer (some ⟨b, 0, none⟩)) rfl (by kernel_rfl) (by kernel_rfl) (by kernel_rfl) (fun _ _ _ h => h) (Or.inl ⟨by kernel_rfl, fun w' _ => by kernel_rfl⟩) hS ?_
      refine wpAnyH_ready (rs := [3]) (by kernel_rfl) (by simp) ?_
      refine AllReadyH.cons rfl (fun K hK => ?_) AllReadyH.nil
      go_simp
      refine HGW.out.mono ?_
      rintro r wa ⟨rfl, rfl⟩
      refine hK.out _ _ hS fun hS1 => ?_
      clear hK
      refine wpAnyH_take (i := 5) (v := .int .i64 ((g : Int) + (k : Int))) rfl (by kernel_rfl) (by kernel_rfl) (by kernel_rfl) (fun _ _ _ h => h) (Or.inl ⟨by kernel_rfl, fun w' _ => by go_simp⟩) hS1 ?_
      refine wpAnyH_take (i := 6) (v := .int .i64 (m : Int)) rfl (by kernel_rfl) (by kernel_rfl) (by kernel_rfl) (fun _ _ _ h => h) (Or.inl ⟨by kernel_rfl, fun w' _ => by go_simp⟩) hS1 ?_
      refine wpAnyH_take (i := 9) (v := .pointer (some ⟨b, m * 5, none⟩)) rfl (by kernel_rfl) (by kernel_rfl) (by kernel_rfl) (fun _ _ _ h => h) (Or.inl ⟨by kernel_rfl, fun w' _ => by go_simp⟩) hS1 ?_
      refine wpAnyH_take (i := 10) (v := .agg e.cells) rfl (by kernel_rfl) (by kernel_rfl) (by kernel_rfl) (fun _ _ _ h => h) (Or.inl ⟨by kernel_rfl, fun w' hS' => by obtain ⟨q0, q1, q2, q3, q4⟩ := hS'; unfold Ev.cells; go_simp⟩) hS1 ?_
      refine wpAnyH_ready (rs := [11]) (by kernel_rfl) (by simp) ?_
      refine AllReadyH.cons rfl (fun K hK => ?_) AllReadyH.nil
      unfold Ev.cells
      go_simp
      have hE1 : EvAt (wr.drew.alloc (.cells #[.int .i64 e.k, .int .i64 e.t, .int .i64 e.p, .int .i64 e.c, .int .i64 e.n] 23)) b (m * 5) e := hE.keep (Below.heap_alloc _ _ b hbw)
      refine hK.out _ _ hE1 fun hS2 => ?_
      clear hK
      refine wpAnyH_ready (rs := [12]) (by kernel_rfl) (by simp) ?_
      refine AllReadyH.cons rfl (fun K hK => ?_) AllReadyH.nil
      refine wp_app_one (W := wr.drew) _ _ 28 rfl w.heap.size 23 _ 5 40 Tryd.underlying28 infoEv rfl (by decide) (.slice A k c) k (flat (L.take k)) rfl (own_drew HO.out) #[.int .i64 e.k, .int .i64 e.t, .int .i64 e.p, .int .i64 e.c, .int .i64 e.n] rfl rfl (ev_ones e) (by omega) (by omega) hbs ?_
      intro v' w3 hown' hbel'
      have hB3 : Below w.heap.size w w3 := ((HB.out.drew).trans (below_alloc (w := wr.drew) hbs (.cells #[.int .i64 e.k, .int .i64 e.t, .int .i64 e.p, .int .i64 e.c, .int .i64 e.n] 23))).trans hbel'
      have hE3 : EvAt w3 b (m * 5) e := hE1.keep (hbel'.block b hlt)
      have HO3 := Lib.hid (show w3.ownsRow w.heap.size 23 5 v' (k + 1) (flat (L.take (k + 1))) from by rw [HTK.out]; exact hown')
      have HB3 := Lib.hid hB3
      refine hK.out _ _ hE3 fun hS4 => ?_
      clear hK hown' hbel' hB3 hE1 hE
      refine wpAnyH_ready (rs := [13]) (by kernel_rfl) (by simp) ?_
      refine AllReadyH.cons rfl (fun K hK => ?_) AllReadyH.nil
      go_simp
      refine hK.out _ _ hE3 fun hS5 => ?_
      clear hK
      refine wpAnyH_done (by kernel_rfl) ?_ _
      go_simp
      go_wp2_with fail
      go_roundw
      case rel => exact ⟨k + 1, by omega, by go_num, HO3.out, HB3.out⟩
      case measure => simp [intOf]; omega
    · obtain rfl : k = L.length := by omega
      rw [List.take_length] at HO
      go_wp2_with fail
      go_ret
      exact ⟨_, rfl, HO.out, HB.out⟩
end Go.Proofs.YtbnaehfgpilicaaDoor
