/-
  OrbitFewer: the walk.
-/
import Derived.Test.YtijocgijnbcefaaWLater
namespace Go.Proofs.Ytijocgijnbcefaa
open Go.ChangeShapes Go.WideShapes Go.ChangeAt Go.RowKit

def less (ts : List Win) (o : Nat) : List Win := ts.take o ++ ts.drop (o + 1)
theorem less_sub (ts : List Win) (o : Nat) : (less ts o).Sublist ts := by
  have h : (ts.take o ++ ts.drop (o + 1)).Sublist (ts.take o ++ ts.drop o) := List.Sublist.append_left (by
    have := List.drop_sublist 1 (ts.drop o)
    rwa [List.drop_drop] at this) _
  rwa [List.take_append_drop] at h
theorem less_good {ts : List Win} (h : Good ts) (o : Nat) : Good (less ts o) :=
  ⟨fun t ht => h.formed t ((less_sub ts o).subset ht), h.ord.sublist (less_sub ts o), h.far.sublist (less_sub ts o)⟩

theorem own_sl {w : World} {B e n : Nat} {v : Value} {l : List Win} (h : w.ownsRow B e 6 v n (l.flatMap csW)) (hl : l.length = n) : ∃ A cap, v = .slice A n cap ∧ Sl csW 6 w w.heap.size A n cap l := by
  rcases h.2 with ⟨rfl, h2⟩ | ⟨g, cap, cur, rfl, hb, hg, h1, h2, h3⟩
  · have hn : n = 0 := by
      have := h.1
      have hlen : ∀ l : List Win, (l.flatMap csW).length = l.length * 6 := fun l => by
        induction l with
        | nil => rfl
        | cons t l ih => rw [List.flatMap_cons, List.length_append, ih, List.length_cons]; show 6 + _ = _; omega
      rw [hlen] at this
      first | omega | (simp at h2; omega)
    subst hn
    obtain rfl : l = [] := List.length_eq_zero_iff.1 hl
    exact ⟨_, _, rfl, Sl.nil_⟩
  · exact ⟨_, _, rfl, Sl.own h hl (fun _ _ => rfl) (Nat.le_refl _) h1 h2⟩

set_option maxRecDepth 100000 in
set_option maxHeartbeats 2000000 in
theorem orbitFewer_any (w : World) (A : Option Addr) (n cap : Nat) (xs : List Int) (h : Sl csI 1 w w.heap.size A n cap xs) (hx : ∀ x ∈ xs, I64 x) (c : Int) (ic : I64 c) (s : Int) (is : I64 s) (k : Int) (ik : I64 k) (z : Int) (iz : I64 z) (d : Int) (id : I64 d) :
    Calls Try.prog 10 #[.slice A n cap, .int .i64 c, .int .i64 s, .int .i64 k, .int .i64 z, .int .i64 d] w fun e w' => e = .returned (.bool true) ∧ Below w.heap.size w w' := by
  go_enter Try.func10, Try.ntmps10
  go_wp2_with fail
  refine (table_any w A n cap xs h hx).mono ?_
  rintro e w1 ⟨A1, n1, cap1, ts, rfl, hT, hG, hn, hb1⟩
  by_cases h0 : n1 = 0
  · subst h0
    go_wp2_with fail
    refine (lives_any _).mono ?_
    rintro e w6 ⟨rfl, hb6⟩
    go_wp2
    go_ret
    exact ⟨rfl, hb1.trans (hb6.mono hb1.size)⟩
  · have h0b : ((n1 : Int) == 0) = false := by simp; omega
    obtain ⟨C, hC, hC0⟩ := around_nat (n := c) (m := 12) (by omega)
    obtain ⟨S, hS, hS0⟩ := around_nat (n := s) (m := 9) (by omega)
    obtain ⟨O, hO, hO0⟩ := around_nat (n := d) (m := n1) (by omega)
    have hk := around_lo (n := k) (m := 400) (by omega)
    have hk2 := around_hi (n := k) (m := 400) (by omega)
    have hz := around_lo (n := z) (m := 500) (by omega)
    have hz2 := around_hi (n := z) (m := 500) (by omega)
    obtain ⟨K, hK⟩ : ∃ K, around k 400 = K := ⟨_, rfl⟩
    obtain ⟨Z, hZ⟩ : ∃ Z, around z 500 = Z := ⟨_, rfl⟩
    rw [hK] at hk hk2
    rw [hZ] at hz hz2
    go_wp2_with fail
    refine (around_any c 12 _ ic (by omega) (by omega)).mono ?_
    rintro e w2 ⟨rfl, rfl⟩
    go_wp2_with fail
    refine (around_any s 9 _ is (by omega) (by omega)).mono ?_
    rintro e w2 ⟨rfl, rfl⟩
    go_wp2_with fail
    refine (around_any k 400 _ ik (by omega) (by omega)).mono ?_
    rintro e w2 ⟨rfl, rfl⟩
    go_wp2_with fail
    refine (around_any z 500 _ iz (by omega) (by omega)).mono ?_
    rintro e w2 ⟨rfl, rfl⟩
    go_wp2_with fail
    refine (around_any d n1 _ id (by omega) (by omega)).mono ?_
    rintro e w2 ⟨rfl, rfl⟩
    go_wp2
    have hcap := hT.caps
    refine wp_region_mix (by kernel_rfl) ?_
    change AtK _ _ _ _ _ w1.drew
    have hTd : Tab w1.drew w.heap.size A1 n1 cap1 ts := hT.below (below_drewN (Below.refl _ _) 1)
    have hbd : Below w.heap.size w w1.drew := below_drewN hb1 1
    obtain ⟨wd, hwd⟩ : ∃ wd, w1.drew = wd := ⟨_, rfl⟩
    rw [hwd] at hTd hbd ⊢
    clear hwd hT hb1
    refine AtL.of _ _ rfl rfl ?_
    have hO1 : IntKind.i64.wrap ((O : Int) + 1) = (O : Int) + 1 := IntWalk.i64_in _ (by omega)
    have hu : Try.prog.underlying 22 = some (.slice (Try.prog.elem 22)) := by kernel_rfl
    obtain ⟨X, hXe⟩ : ∃ X, (if cap1 = O + 1 then A1 else Option.map (fun x => x.add ((O + 1) * 6)) A1) = X := ⟨_, rfl⟩
    have hrh : ∀ w, _ := fun w => (run_sliceAt_slice (P := Try.prog) (w := w) 22 (.slice A1 n1 cap1) none (some (.int .i64 O)) none hu).trans (run_head A1 n1 cap1 O (by omega) w)
    have hrt : ∀ w, _ := fun w => (run_sliceAt_slice (P := Try.prog) (w := w) 22 (.slice A1 n1 cap1) (some (.int .i64 (O + 1 : Nat))) none none hu).trans (run_tail A1 n1 cap1 (O + 1) (by omega) w)
    rw [hXe, show (((O + 1 : Nat)) : Int) = (O : Int) + 1 by omega] at hrt
    refine AtL.move (i := 0) (by kernel_rfl) _ _ rfl rfl (by kernel_rfl) ?_
    refine AtL.move (i := 1) (by kernel_rfl) _ _ rfl rfl (by kernel_rfl) ?_
    refine AtL.move (i := 2) (by kernel_rfl) _ _ rfl rfl (by kernel_rfl) ?_
    refine AtL.pure (i := 3) (by kernel_rfl) _ (.slice A1 O cap1) rfl (fun w => ?hrun) (by kernel_rfl) ?_
    case hrun =>
      have h2 := hrh w
      clear hrh hrt
      unfold execOp
      simp [Act.eval, Act.put, h2]
    refine AtL.move (i := 5) (by kernel_rfl) _ _ rfl rfl (by kernel_rfl) ?_
    refine AtL.move (i := 6) (by kernel_rfl) _ _ rfl rfl (by kernel_rfl) ?_
    refine AtL.pure (i := 7) (by kernel_rfl) _ (.int .i64 ((O : Int) + 1)) rfl (fun w => ?hrun) (by kernel_rfl) ?_
    case hrun =>
      clear hrh hrt
      unfold execOp
      simp [Act.eval, Act.put, go_sem, hO1]
    refine AtL.pure (i := 8) (by kernel_rfl) _ (.slice X (n1 - (O + 1)) (cap1 - (O + 1))) rfl (fun w => ?hrun) (by kernel_rfl) ?_
    case hrun =>
      have h2 := hrt w
      clear hrh hrt
      unfold execOp
      simp [Act.eval, Act.put, h2]
    clear hrh hrt hu hO1
    have hlO : (ts.take O).length = O := by have := hTd.len; simp; omega
    have hdl : (ts.drop (O + 1)).length = n1 - (O + 1) := by have := hTd.len; simp; omega
    have hA : (A1 = none ∧ O = 0 ∧ cap1 = 0) ∨ ∃ ad, A1 = some ad ∧ ∀ j u, ((ts.take O).flatMap csW)[j]? = some u → wd.cell? (ad.add j) = some u := by
      obtain ⟨g, c', hv, _, hlt⟩ := hTd.own.form (by omega)
      injection hv with hA _ hc
      subst hA hc
      exact .inr ⟨_, rfl, by have := part_cells hTd.own 0 O; simpa using this⟩
    clear hC hS hK hZ hO
    refine AtL.one (i := 4) (by kernel_rfl) _ rfl ?_
    go_simp
    refine wpList_app rfl _ _ rfl wd.heap.size (.slice none 0 0) 0 [] rfl (World.ownsRow_nil _ _ _ _) A1 O cap1 (ts.take O) rfl hlO hA (by omega) (Nat.le_refl _) ?_
    intro v1 w2 hv1 hb2
    refine ⟨rfl, ?_⟩
    have hT2 := hTd.below hb2
    have hX2 := tail_src hT2 (p := O + 1) (by omega)
    rw [hXe] at hX2
    have hs2 := hb2.size
    clear hA hXe
    refine AtL.one (i := 9) (by kernel_rfl) _ rfl ?_
    go_simp
    refine wpList_app rfl _ _ rfl wd.heap.size v1 (0 + O) ([] ++ ts.take O) rfl hv1 X (n1 - (O + 1)) (cap1 - (O + 1)) (ts.drop (O + 1)) rfl hdl hX2 (by omega) (by omega) ?_
    intro v2 w3 hv2 hb3
    refine ⟨rfl, ?_⟩
    refine AtL.one (i := 10) (by kernel_rfl) _ rfl ?_
    go_wp2
    refine ⟨by kernel_rfl, ?_⟩
    have hbw : Below w.heap.size w w3 := hbd.trans ((hb2.trans hb3).mono hbd.size)
    have hlen : (less ts O).length = 0 + O + (n1 - (O + 1)) := by
      have := hTd.len
      unfold less
      rw [List.length_append, hlO, hdl]
      omega
    obtain ⟨A2, cap2, rfl, hsl2⟩ := own_sl (l := less ts O) (by simpa [less] using hv2) hlen
    have hT3 := hTd.below (hb2.trans hb3)
    have hGl := less_good hG O
    have hck := hGl.check (by omega)
    have hsub := fun t ht => (less_sub ts O).subset (a := t) ht
    obtain ⟨n2, hn2⟩ : ∃ n2, 0 + O + (n1 - (O + 1)) = n2 := ⟨_, rfl⟩
    obtain ⟨tl, htl⟩ : ∃ tl, less ts O = tl := ⟨_, rfl⟩
    rw [hn2] at hsl2 ⊢
    rw [htl] at hsl2 hGl hck hsub
    have hn260 : n2 ≤ 60 := by omega
    clear hlen hn2 htl hv1 hv2 hb2 hb3 hT2 hTd hX2 hlO hdl hs2 hbd
    have hsl := hT3.sl
    go_wp2_with fail
    refine (arrival_any _ A1 n1 cap1 ts C S K (1 + Z) _ hsl (Nat.le_refl _) hG.formed (by omega) (by omega) hk (by omega) (by omega) (by omega)).mono ?_
    rintro e w4 ⟨a, l, ok, A3, cap3, hsp, rfl, hL3, hb4⟩
    have hbw4 := hbw.trans (hb4.mono hbw.size)
    have hsl4 := hsl2.below hb4 (Nat.le_refl _)
    go_wp2_with fail
    refine (arrival_any _ A2 n2 cap2 tl C S K (1 + Z) _ hsl4 hb4.size hGl.formed (by omega) (by omega) hk (by omega) (by omega) (by omega)).mono ?_
    rintro e w5 ⟨b, l', ok', A4, cap4, hsp', rfl, hL4, hb5⟩
    have hbw5 := hbw4.trans (hb5.mono hbw4.size)
    have hsl5 := hsl4.below hb5 hb4.size
    have hlat := spec_later hsp hsp' hG.formed hsub hk (Int.le_refl _) (by omega) (Int.le_refl _)
    have hs45 := hb5.size
    have hs4 := hb4.size
    clear hsp hsp' hL3 hL4
    cases ok with
    | false =>
      cases ok' with
      | true => exact absurd (hlat rfl).1 (by simp)
      | false =>
        clear hlat hsub
        go_wp2_with fail
        refine (check_any w3.heap.size A2 n2 cap2 tl _ hsl5 (by omega)).mono ?_
        rintro e w6 ⟨rfl, hb6⟩
        rw [hck]
        have hbw6 := hbw5.trans (hb6.mono hbw5.size)
        clear hck
        go_wp2_with fail
        refine (lives_any _).mono ?_
        rintro e w7 ⟨rfl, hb7⟩
        go_wp2
        go_ret
        exact ⟨rfl, hbw6.trans (hb7.mono hbw6.size)⟩
    | true =>
      cases ok' with
      | true =>
        have hab := (hlat rfl).2
        clear hlat hsub
        go_wp2_with fail
        refine (check_any w3.heap.size A2 n2 cap2 tl _ hsl5 (by omega)).mono ?_
        rintro e w6 ⟨rfl, hb6⟩
        rw [hck]
        have hbw6 := hbw5.trans (hb6.mono hbw5.size)
        clear hck
        go_wp2_with fail
        refine (lives_any _).mono ?_
        rintro e w7 ⟨rfl, hb7⟩
        go_wp2
        go_ret
        exact ⟨rfl, hbw6.trans (hb7.mono hbw6.size)⟩
      | false =>
        clear hlat hsub
        go_wp2_with fail
        refine (check_any w3.heap.size A2 n2 cap2 tl _ hsl5 (by omega)).mono ?_
        rintro e w6 ⟨rfl, hb6⟩
        rw [hck]
        have hbw6 := hbw5.trans (hb6.mono hbw5.size)
        clear hck
        go_wp2_with fail
        refine (lives_any _).mono ?_
        rintro e w7 ⟨rfl, hb7⟩
        go_wp2
        go_ret
        exact ⟨rfl, hbw6.trans (hb7.mono hbw6.size)⟩

end Go.Proofs.Ytijocgijnbcefaa
