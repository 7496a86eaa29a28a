/-
  OrbitLater: the walk.
-/
import Derived.Test.YtijocgijnbcefaaOrbX
namespace Go.Proofs.Ytijocgijnbcefaa
open Go.ChangeShapes Go.WideShapes Go.ChangeAt Go.RowKit

theorem spec_later {ts ts' : List Win} {c st : Nat} {k k' z z' a b : Int} {l l' : List Int} {ok is : Bool} (h : ArrSpec ts c k z st a l ok) (h' : ArrSpec ts' c k' z' st b l' is) (hF : ∀ t ∈ ts, t.Formed) (hsub : ∀ t ∈ ts', t ∈ ts) (hk0 : 0 ≤ k) (hk : k ≤ k') (hz1 : 1 ≤ z) (hz : z ≤ z') (hi : is = true) : ok = true ∧ a ≤ b := by
  obtain ⟨e, he, h⟩ := h
  obtain ⟨e', he', h'⟩ := h'
  have hc := he.cmp he' hF hsub hk0 hk hz1 hz (12 + st)
  rcases h' with ⟨_, _, _, rfl⟩ | ⟨h1, rfl, _, _⟩
  · cases hi
  · obtain ⟨h2, h3⟩ := hc h1
    rcases h with ⟨h4, _⟩ | ⟨_, rfl, rfl, _⟩
    · omega
    · exact ⟨rfl, h3⟩

theorem spec_gt {ts : List Win} {c st : Nat} {k z a : Int} {l : List Int} {ok : Bool} (h : ArrSpec ts c k z st a l ok) (hF : ∀ t ∈ ts, t.Formed) (hc : c < 12) (hz1 : 1 ≤ z) (hok : ok = true) : k < a := by
  obtain ⟨e, he, h⟩ := h
  rcases h with ⟨_, _, _, rfl⟩ | ⟨h1, rfl, _, _⟩
  · cases hok
  · obtain ⟨m, t, ht, hm, hop⟩ := he.held (12 + st) (by omega) h1
    have h2 := (hop.gt (hF t ht) hz1).1
    have h3 := he.low m
    omega

set_option maxRecDepth 100000 in
set_option maxHeartbeats 1000000 in
theorem orbitLater_any (w : World) (A : Option Addr) (n cap : Nat) (xs : List Int) (h : Sl csI 1 w w.heap.size A n cap xs) (hx : ∀ x ∈ xs, I64 x) (c : Int) (ic : I64 c) (s : Int) (is : I64 s) (k : Int) (ik : I64 k) (z : Int) (iz : I64 z) (d : Int) (id : I64 d) (m : Int) (im : I64 m) :
    Calls Try.prog 9 #[.slice A n cap, .int .i64 c, .int .i64 s, .int .i64 k, .int .i64 z, .int .i64 d, .int .i64 m] w fun e w' => e = .returned (.bool true) ∧ Below w.heap.size w w' := by
  go_enter Try.func9, Try.ntmps9
  go_wp2_with fail
  refine (table_any w A n cap xs h hx).mono ?_
  rintro e w1 ⟨A1, n1, cap1, ts, rfl, hT, hG, hn, hb1⟩
  obtain ⟨C, hC, hC0⟩ := around_nat (n := c) (m := 12) (by omega)
  obtain ⟨S, hS, hS0⟩ := around_nat (n := s) (m := 9) (by omega)
  have hk := around_lo (n := k) (m := 400) (by omega)
  have hk2 := around_hi (n := k) (m := 400) (by omega)
  have hz := around_lo (n := z) (m := 500) (by omega)
  have hz2 := around_hi (n := z) (m := 500) (by omega)
  have hd := around_lo (n := d) (m := 100) (by omega)
  have hd2 := around_hi (n := d) (m := 100) (by omega)
  have hm := around_lo (n := m) (m := 100) (by omega)
  have hm2 := around_hi (n := m) (m := 100) (by omega)
  obtain ⟨K, hK⟩ : ∃ K, around k 400 = K := ⟨_, rfl⟩
  obtain ⟨Z, hZ⟩ : ∃ Z, around z 500 = Z := ⟨_, rfl⟩
  obtain ⟨D, hD⟩ : ∃ D, around d 100 = D := ⟨_, rfl⟩
  obtain ⟨M, hM⟩ : ∃ M, around m 100 = M := ⟨_, rfl⟩
  rw [hK] at hk hk2
  rw [hZ] at hz hz2
  rw [hD] at hd hd2
  rw [hM] at hm hm2
  go_wp2_with fail
  refine (around_any c 12 _ ic (by omega) (by omega)).mono ?_
  rintro e w2 ⟨rfl, rfl⟩
  go_wp2_with fail
  refine (around_any s 9 _ is (by omega) (by omega)).mono ?_
  rintro e w2 ⟨rfl, rfl⟩
  go_wp2_with fail
  refine (around_any k 400 _ ik (by omega) (by omega)).mono ?_
  rintro e w2 ⟨rfl, rfl⟩
  go_wp2_with fail
  refine (around_any z 500 _ iz (by omega) (by omega)).mono ?_
  rintro e w2 ⟨rfl, rfl⟩
  have hsl := hT.sl
  go_wp2_with fail
  refine (arrival_any _ A1 n1 cap1 ts C S K (1 + Z) _ hsl (Nat.le_refl _) hG.formed (by omega) (by omega) hk (by omega) (by omega) (by omega)).mono ?_
  rintro e w3 ⟨a, l, ok, A3, cap3, hsp, rfl, hL3, hb3⟩
  have hb13 := hb1.trans (hb3.mono hb1.size)
  go_wp2_with fail
  refine (around_any d 100 _ id (by omega) (by omega)).mono ?_
  rintro e w4 ⟨rfl, rfl⟩
  go_wp2_with fail
  refine (around_any m 100 _ im (by omega) (by omega)).mono ?_
  rintro e w4 ⟨rfl, rfl⟩
  go_wp2_with fail
  refine (arrival_any _ A1 n1 cap1 ts C S (K + D) (1 + Z + M) _ (hsl.below hb3 (Nat.le_refl _)) hb3.size hG.formed (by omega) (by omega) (by omega) (by omega) (by omega) (by omega)).mono ?_
  rintro e w4 ⟨b, l', ok', A4, cap4, hsp', rfl, hL4, hb4⟩
  have hb14 := hb13.trans (hb4.mono hb13.size)
  have hlat := spec_later hsp hsp' hG.formed (fun _ h => h) hk (by omega) (by omega) (by omega)
  have hgt := spec_gt hsp hG.formed (by omega) (by omega)
  clear hsp hsp' hL3 hL4
  cases ok with
  | false =>
    cases ok' with
    | true => exact absurd (hlat rfl).1 (by simp)
    | false =>
      clear hlat hgt
      go_wp2_with fail
      refine (lives_any _).mono ?_
      rintro e w6 ⟨rfl, hb6⟩
      go_wp2
      go_ret
      exact ⟨rfl, hb14.trans (hb6.mono hb14.size)⟩
  | true =>
    have hak := hgt rfl
    cases ok' with
    | true =>
      have hab := (hlat rfl).2
      have hab' : ¬ b < a := by omega
      clear hlat hgt
      go_wp2_with fail
      refine (lives_any _).mono ?_
      rintro e w6 ⟨rfl, hb6⟩
      go_wp2
      go_ret
      exact ⟨rfl, hb14.trans (hb6.mono hb14.size)⟩
    | false =>
      clear hlat hgt
      go_wp2_with fail
      refine (lives_any _).mono ?_
      rintro e w6 ⟨rfl, hb6⟩
      go_wp2
      go_ret
      exact ⟨rfl, hb14.trans (hb6.mono hb14.size)⟩

end Go.Proofs.Ytijocgijnbcefaa
