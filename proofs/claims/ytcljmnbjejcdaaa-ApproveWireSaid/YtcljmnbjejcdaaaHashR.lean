/-
  The reference's Words.
-/
import Derived.Test.YtcljmnbjejcdaaaHashA
namespace Go.Proofs.Ytcljmnbjejcdaaa
open Go.ChangeShapes Go.WideShapes Go.ChangeAt Go.RowKit

theorem ret_val {k : IntKind} {a b : Int} (h : a = b) : Value.int k a = .int k b := by rw [h]
theorem uint8_lt' (c : UInt8) : c.toNat < 256 := c.toNat_lt
theorem infoU : (Try.prog.info? 23).map (fun i => (i.zero, i.size, i.bytes)) = some (some (.int .u64 0), 1, 8) := by kernel_rfl
theorem infoI : (Try.prog.info? 3).map (fun i => (i.zero, i.size, i.bytes)) = some (some (.int .i64 0), 1, 8) := by kernel_rfl

theorem wordsN_snoc (b : List UInt8) (j : Nat) (h : 8 * j < b.length) : (wordsN b).take (j + 1) = (wordsN b).take j ++ [wordOf ((b.drop (8 * j)).take 8)] := by
  induction j generalizing b with
  | zero =>
    have hb : b ≠ [] := by intro e; subst e; simp at h
    rw [wordsN_cons hb]
    simp
  | succ j ih =>
    have hb : b ≠ [] := by intro e; subst e; simp at h
    rw [wordsN_cons hb, List.take_succ_cons, List.take_succ_cons, ih (b.drop 8) (by simp; omega), List.drop_drop, show 8 + 8 * j = 8 * (j + 1) by omega]
    rfl

theorem chunk_step {xs : List UInt8} {q hi : Nat} {x : UInt8} (hx : xs[q]? = some x) (hq : q < hi) : wordOf ((xs.drop q).take (hi - q)) = 256 * wordOf ((xs.drop (q + 1)).take (hi - (q + 1))) + x.toNat := by
  rw [drop_cons hx, show hi - q = (hi - (q + 1)) + 1 by omega, List.take_succ_cons]
  show x.toNat + 256 * wordOf _ = _
  omega
theorem chunk_lt (xs : List UInt8) (q n : Nat) (h : n ≤ 7) : wordOf ((xs.drop q).take n) < 72057594037927936 := by
  have h1 := wordOf_lt ((xs.drop q).take n)
  have h2 : 256 ^ ((xs.drop q).take n).length ≤ 256 ^ 7 := Nat.pow_le_pow_right (by omega) (by have := List.length_take_le n (xs.drop q); omega)
  omega

set_option maxRecDepth 100000 in
set_option maxHeartbeats 2000000 in
theorem wordsR_any (B : Nat) (A : Option Addr) (n cap : Nat) (xs : List UInt8) (w : World) (h : Sl csB 1 w B A n cap xs) (hB : B ≤ w.heap.size) (hr : n ≤ 140737488351232) :
    Calls Try.prog 44 #[.slice A n cap] w fun e w' => ∃ v, e = .returned v ∧ Row csU 23 w' w.heap.size v (wordsN xs) ∧ Below w.heap.size w w' := by
  have hn := h.ncap
  have hcm := h.cmax
  have HL := Lib.hid h.len
  have HW := Lib.hid (wordsN_len xs)
  obtain ⟨i0, hi', hz0, hz1, hz2⟩ := info_parts infoU
  go_enter Try.func44, Try.ntmps44
  go_wp2
  go_loopw [3, 4] (fun v i wr => ∃ (j : Nat) (v' : Value), 8 * j ≤ n + 7 ∧ i = .int .i64 ((8 * j : Nat) : Int) ∧ v' = v ∧ Row csU 23 wr w.heap.size v' ((wordsN xs).take j) ∧ Below w.heap.size w wr) (fun _ i _ => n + 7 - (intOf i).toNat)
  case atStart => exact ⟨0, _, by omega, rfl, rfl, Row.nil _ _ _ _, Below.refl _ _⟩
  case round =>
    obtain ⟨j, v, hj, rfl, rfl, hO, hbr⟩ := hrel
    have hsr := hbr.size
    by_cases hlt : 8 * j < n
    · have HS : Hid ((wordsN xs).take (j + 1) = (wordsN xs).take j ++ [wordOf ((xs.drop (8 * j)).take 8)]) := wordsN_snoc xs j (by rw [HL.out]; omega)
      have htl : ((wordsN xs).take j).length ≤ j := List.length_take_le _ _
      obtain ⟨i, hie⟩ : ∃ i, 8 * j = i := ⟨_, rfl⟩
      have HI := Lib.hid hie
      rw [hie] at hlt ⊢
      clear hie
      have hin : (i : Int) < n := by omega
      obtain ⟨b0, o0, y0, rfl, hb0, _, _⟩ := h.byte_at hlt
      have HH := Lib.hid h
      clear h
      go_upto_region 6 with fail
      go_cut [6] (fun s6 wx => ∃ hi : Nat, s6 = .int .i64 ((hi : Int) - 1) ∧ Hid (i < hi ∧ hi ≤ n ∧ hi ≤ i + 8 ∧ (xs.drop i).take (hi - i) = (xs.drop i).take 8) ∧ wr = wx)
      case first =>
        rcases (by omega : (n : Int) < (i : Int) + 8 ∨ (i : Int) + 8 ≤ n) with h8 | h8
        · go_wp2
          go_meet
          exact ⟨n, rfl, ⟨hlt, Nat.le_refl _, by omega, by rw [List.take_of_length_le (by simp; have := HL.out; omega), List.take_of_length_le (by simp; have := HL.out; omega)]⟩, rfl⟩
        · go_wp2
          go_meet
          exact ⟨i + 8, ret_val (by omega), ⟨by omega, by omega, by omega, by rw [show i + 8 - i = 8 by omega]⟩, rfl⟩
      case rest =>
        obtain ⟨hi, rfl, HP, rfl⟩ := hcut
        have p1 := HP.out.1; have p2 := HP.out.2.1; have p3 := HP.out.2.2.1
        go_wp2
        go_loopw [5, 6] (fun s k wx => ∃ q : Nat, i ≤ q ∧ q ≤ hi ∧ k = .int .i64 ((q : Int) - 1) ∧ s = .int .u64 (wordOf ((xs.drop q).take (hi - q)) : Nat) ∧ wr = wx) (fun _ k _ => ((intOf k) + 1).toNat)
        case atStart => exact ⟨hi, by omega, Nat.le_refl _, rfl, by simp [wordOf], rfl⟩
        case round =>
          obtain ⟨q, q1, q2, rfl, rfl, rfl⟩ := hrel
          by_cases hq : i < q
          · obtain ⟨r, rfl⟩ : ∃ r, q = r + 1 := ⟨q - 1, by omega⟩
            obtain ⟨b1, o1, x, he, hb1, hx, hc⟩ := HH.out.byte_at (k := r) (by omega)
            injection he with he
            injection he with e1 e2
            subst e1 e2
            have cx := hc wr (hbr.mono hB)
            have HC := Lib.hid (chunk_step hx (show r < hi by omega))
            have hlw := chunk_lt xs (r + 1) (hi - (r + 1)) (by omega)
            have hx256 := uint8_lt' x
            have hir : (i : Int) ≤ r := by omega
            have hrn : (r : Int) < n := by omega
            clear hx hc
            generalize wordOf ((xs.drop (r + 1)).take (hi - (r + 1))) = W at *
            go_wp2
            go_roundw
            case rel => exact ⟨r, by omega, by omega, ret_val (by omega), by rw [HC.out]; exact ret_val (by omega), by first | rfl | trivial⟩
            case measure => first | (simp [intOf]; done) | (simp [intOf]; omega)
          · obtain rfl : q = i := by omega
            have HE : Hid (wordOf ((xs.drop q).take (hi - q)) = wordOf ((xs.drop q).take 8)) := by rw [Hid, HP.out.2.2.2]
            rw [HE.out]
            go_wp2_with (at_builtin; refine wpList_append_own _ rfl _ _ 82 rfl w.heap.size 23 i0 (.int .u64 0) 1 8 (by kernel_rfl) hi' hz0 hz1 hz2 rfl (by decide) _ _ _ rfl (hO.alloc _) ⟨wr.heap.size, 0, none⟩ 1 1 [.int .u64 (wordOf ((xs.drop q).take 8) : Nat)] rfl rfl (cell_one_new _ _ _) ?c2 ?c3 ?c4 ?c5 ?_)
            case c2 => simp [Value.oneCell']
            case c3 => unfold maxLen; omega
            case c4 => omega
            case c5 => simp; omega
            intro v2 w2 hown2 hgrow2 _
            have hb3 : Below w.heap.size w w2 := Below.grown (hbr.alloc hsr (.cells #[.int .u64 (wordOf ((xs.drop q).take 8) : Nat)] 23)) hgrow2 (by simp; omega) (fun k hk => (hO.alloc (.cells #[.int .u64 (wordOf ((xs.drop q).take 8) : Nat)] 23)).lt k hk |>.1)
            have hO3 : Row csU 23 w2 w.heap.size v2 ((wordsN xs).take (j + 1)) := by
              rw [HS.out, HI.out]
              exact Row.snoc (by rw [List.length_take]; exact hown2)
            clear hown2 hgrow2 hO
            go_wp2
            go_roundw
            case rel => exact ⟨j + 1, _, by have := HI.out; omega, ret_val (by have := HI.out; omega), rfl, hO3, hb3⟩
            case measure => simp [intOf]; omega
    · have HR : Hid (∃ v', Ending.returned v = .returned v' ∧ Row csU 23 wr w.heap.size v' (wordsN xs) ∧ Below w.heap.size w wr) := ⟨v, rfl, by rwa [List.take_of_length_le (by have := HW.out; have := HL.out; omega)] at hO, hbr⟩
      go_wp2
      go_ret
      exact HR.out

end Go.Proofs.Ytcljmnbjejcdaaa
