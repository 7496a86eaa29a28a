/-
  The reference's list, Sum, Tag.
-/
import Derived.Test.YtcljmnbjejcdaaaHashR
import Derived.Test.YtcljmnbjejcdaaaApd
namespace Go.Proofs.Ytcljmnbjejcdaaa
open Go.ChangeShapes Go.WideShapes Go.ChangeAt Go.RowKit

theorem wrap_sgn {n : Nat} (h : U64 n) : wrap64 (n : Int) = sgn n := by unfold wrap64 sgn; unfold U64 at h; split <;> omega

theorem uns_wrap (x : Int) : IntKind.u64.wrap x = ((uns x : Nat) : Int) := by
  rw [IntKind.wrap_u64]
  unfold uns
  omega
theorem uns_get {l : List Int} {k : Nat} {x : Int} (hx : l[k]? = some x) : (l.map uns)[k]? = some (uns x) := by rw [List.getElem?_map, hx, Option.map_some]
theorem mixL_zero (M : Nat) (l : List Nat) : mixL M (l.take 0) = M := by unfold mixL; rw [List.take_zero, List.foldl_nil]


theorem row_len {α : Type} {cs : α → List Value} {t : TypeId} {w : World} {B : Nat} {v : Value} {l : List α} (h : Row cs t w B v l) : ∀ k, v.ownBlock = some k → B ≤ k ∧ k < w.heap.size := World.ownsRow.lt h

set_option maxRecDepth 100000 in
set_option maxHeartbeats 2000000 in
theorem listR_any (B0 B : Nat) (v0 : Value) (l0 : List Int) (A : Option Addr) (n cap : Nat) (xs : List UInt8) (w : World) (h0 : Row csI 3 w B0 v0 l0) (hB0 : B0 ≤ w.heap.size) (hl0 : l0.length ≤ 100) (h : Sl csB 1 w B A n cap xs) (hB : B ≤ B0) (hr : n ≤ 100000000000000) :
    Calls Try.prog 38 #[v0, .slice A n cap] w fun e w' => ∃ v, e = .returned v ∧ Row csI 3 w' B0 v (withN l0 xs) ∧ Below B0 w w' := by
  have HL := Lib.hid h.len
  have HW := Lib.hid (wordsN_len xs)
  have HU := Lib.hid (wordsN_lt xs)
  obtain ⟨i0, hi', hz0, hz1, hz2⟩ := info_parts infoI
  go_enter Try.func38, Try.ntmps38
  go_wp2_with fail
  refine (wordsR_any B A n cap xs w h (by omega) (by omega)).mono ?_
  rintro e w1 ⟨v1, rfl, hR1, hb1⟩
  obtain ⟨A1, cap1, rfl, hS1⟩ := hR1.sl (fun _ => rfl)
  have h01 := h0.below hb1
  have hbw := hb1.mono hB0
  have hs1 := hb1.size
  obtain ⟨ws, hws⟩ : ∃ ws, wordsN xs = ws := ⟨_, rfl⟩
  have HWS := Lib.hid hws
  rw [hws] at hS1 ⊢
  have hwl : ws.length ≤ 12500000000001 := by have := HW.out; have := HL.out; rw [hws] at *; omega
  obtain ⟨m, hm⟩ : ∃ m, ws.length = m := ⟨_, rfl⟩
  have HM := Lib.hid hm
  rw [hm] at hS1 hwl ⊢
  have hlow : ∀ k, v0.ownBlock = some k → k < w.heap.size := fun k hk => (row_len h0 k hk).2
  have HB1 : Hid (∀ b o, A1 = some ⟨b, o, none⟩ → w.heap.size ≤ b) := fun b o e => (row_len hR1 b (by rw [e]; rfl)).1
  clear hws hm hR1 h0
  go_wp2
  go_loopw [0, 6] (fun v i wr => ∃ (j : Nat) (v' : Value), j ≤ m ∧ i = .int .i64 j ∧ v' = v ∧ Row csI 3 wr B0 v' (l0 ++ (ws.take j).map sgn) ∧ Below B0 w wr ∧ Sl csU 1 wr w1.heap.size A1 m cap1 ws ∧ w1.heap.size ≤ wr.heap.size ∧ ∀ k, v'.ownBlock = some k → k < w.heap.size ∨ w1.heap.size ≤ k) (fun _ i _ => m - (intOf i).toNat)
  case atStart => exact ⟨0, _, by omega, rfl, rfl, by simpa using h01, hbw, hS1, Nat.le_refl _, fun k hk => .inl (hlow k hk)⟩
  case round =>
    obtain ⟨j, v, hj, rfl, rfl, hO, hbr, hSr, hsz, hap⟩ := hrel
    have HAP := Lib.hid hap
    clear hap
    by_cases hlt : j < m
    · obtain ⟨b1, o1, x, rfl, hb1', hx, hc⟩ := hSr.word_at hlt
      have cx := hc wr (Below.refl _ _)
      have hxm : x ∈ ws := List.mem_of_getElem? hx
      have hxu : U64 x := by have := HU.out; rw [HWS.out] at this; exact this x hxm
      have hxs := wrap_sgn hxu
      have HT : Hid (l0 ++ (ws.take (j + 1)).map sgn = (l0 ++ (ws.take j).map sgn) ++ [sgn x]) := by rw [Hid, take_snoc hx]; simp
      have hln : (l0 ++ (ws.take j).map sgn).length ≤ 16999999999999 := by have := List.length_take_le j ws; simp; omega
      have hO2 := hO.alloc (.cells #[.int .i64 (sgn x)] 3)
      have hsrc := Src.new (cs := csI) wr (sgn x) (.int .i64 (sgn x)) rfl 3
      have hB2 : Below B0 w (wr.alloc (.cells #[.int .i64 (sgn x)] 3)) := hbr.alloc (by omega) _
      have hjm : (j : Int) < m := by omega
      have hSH := Lib.hid hSr
      clear hx hc hSr
      generalize l0 ++ (ws.take j).map sgn = L at *
      go_wp2_with (at_builtin; refine wpList_row oneI rfl _ _ rfl B0 v L rfl hO2 (some ⟨wr.heap.size, 0, none⟩) 1 1 [sgn x] rfl hsrc (by omega) (by simp; omega) ?_; intro v2 w2 hO3 hg3 hat3)
      have hb3 : Below B0 w w2 := Below.grown hB2 hg3 (by simp; omega) (fun k hk => (row_len hO2 k hk).1)
      have hS3 : Sl csU 1 w2 w1.heap.size (some ⟨b1, o1, none⟩) m cap1 ws := (hSH.out.below ((Below.refl _ _).alloc hsz (.cells #[.int .i64 (sgn x)] 3)) (Nat.le_refl _)).grown hg3 (by simp; omega) (fun b o e hb he => by
        injection e with e
        injection e with e1 e2
        subst e1
        have h1 := HAP.out b1 he.symm
        have h2 := HB1.out b1 o1 rfl
        omega)
      have hsz3 : w1.heap.size ≤ w2.heap.size := by have := hg3.size; simp at this; omega
      have hap3 : ∀ k, v2.ownBlock = some k → k < w.heap.size ∨ w1.heap.size ≤ k := fun k hk => by
        rcases hat3 with h1 | h1
        · exact HAP.out k (by rw [← h1]; exact hk)
        · rw [h1] at hk
          simp at hk
          right; omega
      rw [← HT.out] at hO3
      clear hO hO2 hsrc hB2 hg3 hat3
      go_wp2
      go_roundw
      case rel => exact ⟨j + 1, _, by omega, by go_num, rfl, hO3, hb3, hS3, hsz3, hap3⟩
      case measure => simp [intOf]; omega
    · obtain rfl : j = m := by omega
      rw [List.take_of_length_le (by rw [HM.out]; omega)] at hO
      have hln : (l0 ++ ws.map sgn).length ≤ 16999999999999 := by have := HM.out; simp; omega
      have hO2 := hO.alloc (.cells #[.int .i64 n] 3)
      have hsrc := Src.new (cs := csI) wr (n : Int) (.int .i64 n) rfl 3
      have hB2 : Below B0 w (wr.alloc (.cells #[.int .i64 n] 3)) := hbr.alloc (by omega) _
      have HT : Hid (withN l0 xs = (l0 ++ ws.map sgn) ++ [(n : Int)]) := by unfold Hid withN; rw [HWS.out, HL.out]
      have hnc := h.ncap
      have hcm := h.cmax
      clear hSr hO
      generalize l0 ++ ws.map sgn = L at *
      go_wp2_with (at_builtin; refine wpList_row oneI rfl _ _ rfl B0 v L rfl hO2 (some ⟨wr.heap.size, 0, none⟩) 1 1 [(n : Int)] rfl hsrc (by omega) (by simp; omega) ?_; intro v2 w2 hO3 hg3 hat3)
      have hb3 : Below B0 w w2 := Below.grown hB2 hg3 (by simp; omega) (fun k hk => (row_len hO2 k hk).1)
      rw [← HT.out] at hO3
      have HR : Hid (∃ v', Ending.returned v2 = .returned v' ∧ Row csI 3 w2 B0 v' (withN l0 xs) ∧ Below B0 w w2) := ⟨v2, rfl, hO3, hb3⟩
      clear hO2 hsrc hB2 hg3 hat3 hO3
      go_wp2
      go_ret
      exact HR.out

set_option maxRecDepth 100000 in
set_option maxHeartbeats 2000000 in
theorem sumR_any (B : Nat) (s : ByteArray) (A : Option Addr) (n cap : Nat) (l : List Int) (w : World) (h : Sl csI 1 w B A n cap l) (hB : B ≤ w.heap.size) (hs : s.size ≤ 1000) (hr : n ≤ 100000000000000) (hl : ∀ x ∈ l, I64 x) :
    Calls Try.prog 37 #[.string s, .slice A n cap] w fun e w' => e = .returned (.int .u64 (sumN s.data.toList l : Nat)) ∧ Below w.heap.size w w' := by
  have hn := h.ncap
  have hcm := h.cmax
  obtain ⟨cs, w0, hconv, hSs, hb0, hz0⟩ := bytes_of_string s (by omega) w
  go_enter Try.func37, Try.ntmps37
  go_wp2_with fail
  refine (wordsR_any _ _ s.size cs s.data.toList w0 hSs (Nat.le_refl _) (by omega)).mono ?_
  rintro e w1 ⟨v1, rfl, hR1, hb1⟩
  obtain ⟨A1, cap1, rfl, hS1⟩ := hR1.sl (fun _ => rfl)
  have hbw := hb0.trans (hb1.mono hb0.size)
  have hu := wordsN_lt s.data.toList
  have hwl := wordsN_len s.data.toList
  have hsz := bytes_len s
  have HE : Hid (sumN s.data.toList l = mixL (mixN (mixN (mixL 0 (wordsN s.data.toList)) s.data.toList.length) l.length) (l.map uns)) := rfl
  rw [hsz] at hwl
  have HZ := Lib.hid hsz
  obtain ⟨ws, hws⟩ : ∃ ws, wordsN s.data.toList = ws := ⟨_, rfl⟩
  rw [hws] at hS1 hu hwl HE ⊢
  obtain ⟨m, hm⟩ : ∃ m, ws.length = m := ⟨_, rfl⟩
  rw [hm] at hS1 hwl ⊢
  have hm1 : m ≤ 1000 := by omega
  have HU := Lib.hid hu
  have HM := Lib.hid hm
  have HL := Lib.hid hl
  have hll := h.len
  have HLL := Lib.hid hll
  have hsl := h.below hbw hB
  clear hws hm hu hl hsz hwl hconv hSs hR1 hll h
  go_wp2
  go_loop [5, 7] (fun x i => ∃ j : Nat, j ≤ m ∧ i = .int .i64 j ∧ x = .int .u64 (mixL 0 (ws.take j) : Nat)) (fun _ i => m - (intOf i).toNat)
  case atStart => exact ⟨0, by omega, rfl, by rw [mixL_zero]; rfl⟩
  case round =>
    obtain ⟨j, hj, rfl, rfl⟩ := hrel
    by_cases hlt : j < m
    · obtain ⟨b1, o1, x, rfl, hb1', hx, hc⟩ := hS1.word_at hlt
      have cx := hc w1 (Below.refl _ _)
      have hxu : U64 x := HU.out x (List.mem_of_getElem? hx)
      have HT : Hid (mixL 0 (ws.take (j + 1)) = mixN (mixL 0 (ws.take j)) x) := by rw [Hid, take_snoc hx, mixL_snoc]
      have hU0 : U64 (mixL 0 (ws.take j)) := mixL_lt (by unfold U64; omega) _
      have hjm : (j : Int) < m := by omega
      clear hx hc
      generalize mixL 0 (ws.take j) = M at *
      go_wp2_with fail
      refine (mixR_any M x hU0 hxu _).mono ?_
      rintro e w2 ⟨rfl, rfl⟩
      rw [← HT.out]
      go_wp2
      go_round
      case rel => exact ⟨j + 1, by omega, by go_num, rfl⟩
      case measure => simp [intOf]; omega
    · obtain rfl : j = m := by omega
      rw [List.take_of_length_le (by rw [HM.out]; omega)]
      have hU0 : U64 (mixL 0 ws) := mixL_lt (by unfold U64; omega) _
      generalize mixL 0 ws = M at *
      have hsU : U64 s.size := by unfold U64; omega
      have hnU : U64 n := by unfold U64; omega
      go_wp2_with fail
      refine (mixR_any M s.size hU0 hsU _).mono ?_
      rintro e w2 ⟨rfl, rfl⟩
      go_wp2_with fail
      refine (mixR_any (mixN M s.size) n (mixN_lt _ _) hnU _).mono ?_
      rintro e w2 ⟨rfl, rfl⟩
      have HE2 : Hid (sumN s.data.toList l = mixL (mixN (mixN M s.size) n) (l.map uns)) := by rw [Hid, HE.out, HZ.out, HLL.out]
      have hU1 : U64 (mixN (mixN M s.size) n) := mixN_lt _ _
      generalize mixN (mixN M s.size) n = M1 at *
      clear HE hU0
      go_wp2
      go_loop [5, 8] (fun x i => ∃ j : Nat, j ≤ n ∧ i = .int .i64 j ∧ x = .int .u64 (mixL M1 ((l.map uns).take j) : Nat)) (fun _ i => n - (intOf i).toNat)
      case atStart => exact ⟨0, by omega, rfl, by rw [mixL_zero]⟩
      case round =>
        obtain ⟨k, hk, rfl, rfl⟩ := hrel
        by_cases hlt : k < n
        · obtain ⟨b1, o1, x, rfl, hb1', hx, cx⟩ := hsl.int_at hlt
          have hxi : I64 x := HL.out x (List.mem_of_getElem? hx)
          have hxu := uns_lt x
          have hwx := uns_wrap x
          have HT : Hid (mixL M1 ((l.map uns).take (k + 1)) = mixN (mixL M1 ((l.map uns).take k)) (uns x)) := by
            rw [Hid, take_snoc (uns_get hx), mixL_snoc]
          have hU2 : U64 (mixL M1 ((l.map uns).take k)) := mixL_lt hU1 _
          have hkn : (k : Int) < n := by omega
          clear hx
          generalize mixL M1 ((l.map uns).take k) = M2 at *
          go_wp2_with fail
          refine (mixR_any M2 (uns x) hU2 hxu _).mono ?_
          rintro e w2 ⟨rfl, rfl⟩
          rw [← HT.out]
          go_wp2
          go_round
          case rel => exact ⟨k + 1, by omega, by go_num, rfl⟩
          case measure => simp [intOf]; omega
        · obtain rfl : k = n := by omega
          have HF : Hid (mixL M1 ((l.map uns).take k) = sumN s.data.toList l) := by
            rw [Hid, HE2.out, List.take_of_length_le (by rw [List.length_map, HLL.out]; omega)]
          rw [HF.out]
          go_wp2
          go_ret
          exact ⟨rfl, hbw⟩

end Go.Proofs.Ytcljmnbjejcdaaa
