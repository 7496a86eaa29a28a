/-
  The wire's writer: put, Int, Ints, Done.
-/
import Derived.Test.YtcljmnbjejcdaaaApd
import Derived.Test.YtcljmnbjejcdaaaWireP
namespace Go.Proofs.Ytcljmnbjejcdaaa
open Go.ChangeShapes Go.WideShapes Go.ChangeAt Go.RowKit

/-- grown since w0, but for block b -/
structure Wr (w0 w : World) (b : Nat) : Prop where
  os : w.os = w0.os
  tape : w.tape = w0.tape
  output : w.output = w0.output
  size : w0.heap.size ≤ w.heap.size
  block : ∀ k, k < w0.heap.size → k ≠ b → w.heap[k]? = w0.heap[k]?
section
variable {w0 w w' : World} {b : Nat}
theorem Wr.refl (w : World) (b : Nat) : Wr w w b := ⟨rfl, rfl, rfl, Nat.le_refl _, fun _ _ _ => rfl⟩
theorem Wr.below {B : Nat} (h : Wr w0 w b) (hB : B ≤ w0.heap.size) (hb : B ≤ b) : Below B w0 w := ⟨h.os, h.tape, h.output, h.size, fun k hk => h.block k (by omega) (by omega)⟩
theorem Wr.then (h : Wr w0 w b) (hb : Below w.heap.size w w') : Wr w0 w' b := ⟨hb.os.trans h.os, hb.tape.trans h.tape, hb.output.trans h.output, Nat.le_trans h.size hb.size, fun k hk hne => (hb.block k (by have := h.size; omega)).trans (h.block k hk hne)⟩
theorem Wr.grown {row : Option Nat} (h : Wr w0 w b) (hg : w.grownBy w' row) (hr : ∀ k, row = some k → w0.heap.size ≤ k) : Wr w0 w' b :=
  ⟨hg.os.trans h.os, hg.tape.trans h.tape, hg.output.trans h.output, Nat.le_trans h.size hg.size, fun k hk hne => (hg.block k (by have := h.size; omega) (fun e => by have := hr k e.symm; omega)).trans (h.block k hk hne)⟩
theorem Wr.set (h : Wr w0 w b) (i : Nat) (u : Value) : Wr w0 (w.setCell ⟨b, i, none⟩ u) b := by
  refine ⟨h.os, h.tape, h.output, by rw [show (w.setCell ⟨b, i, none⟩ u).heap.size = w.heap.size by simp]; exact h.size, fun k hk hne => ?_⟩
  rw [Below.heap_setCell w ⟨b, i, none⟩ u k (by simpa using hne)]
  exact h.block k hk hne
theorem Wr.trans {w1 : World} (h : Wr w0 w b) (h' : Wr w w1 b) : Wr w0 w1 b := ⟨h'.os.trans h.os, h'.tape.trans h.tape, h'.output.trans h.output, Nat.le_trans h.size h'.size, fun k hk hne => (h'.block k (by have := h.size; omega) hne).trans (h.block k hk hne)⟩
end

/-- the writer at block b holds the bytes l -/
structure Wtr (w0 w : World) (b : Nat) (l : List UInt8) : Prop where
  wr : Wr w0 w b
  lt : b < w0.heap.size
  buf : ∃ v, Blk w b 56 #[v] ∧ Row csB 5 w w0.heap.size v l

set_option maxRecDepth 100000 in
theorem or128 : ∀ x : Nat, x < 256 → x ||| 128 = x % 128 + 128 := by decide

set_option maxRecDepth 100000 in
set_option maxHeartbeats 2000000 in
theorem put_any (w0 w : World) (b : Nat) (l : List UInt8) (n : Nat) (hn : U64 n) (h : Wtr w0 w b l) (hl : l.length ≤ 1000000000000) :
    Calls Try.prog 34 #[.pointer (some ⟨b, 0, none⟩), .int .u64 (n : Int)] w fun e w' => e = .returned (.tuple #[]) ∧ Wtr w0 w' b (l ++ uintB n) := by
  have hn' : n < 18446744073709551616 := hn
  go_enter Try.func34, Try.ntmps34
  go_wp2
  go_loopw [1] (fun s wr => ∃ (f k : Nat) (l' : List UInt8), s = .int .u64 (k : Int) ∧ k < 18446744073709551616 ∧ k < 128 ^ (f + 1) ∧ f ≤ 9 ∧ l'.length + (f + 1) ≤ l.length + 10 ∧ Hid (l' ++ uintF (f + 1) k = l ++ uintB n) ∧ Wtr w0 wr b l') (fun s _ => (intOf s).toNat)
  case atStart => exact ⟨9, n, l, rfl, hn', by omega, by omega, by omega, rfl, h⟩
  case round =>
    obtain ⟨f, k, l', rfl, hk, hkf, hf, hll, HE, hw⟩ := hrel
    obtain ⟨v, hB, hR⟩ := hw.buf
    have c0 := hB.cell 0
    simp only [List.getElem?_toArray, List.getElem?_cons_zero] at c0
    have f0 := hB.frozen 0
    have hlt := hw.lt
    have hsz := hw.wr.size
    by_cases hbig : 128 ≤ k
    · obtain ⟨B, hBe⟩ : ∃ B, UInt8.ofNat (k % 128 + 128) = B := ⟨_, rfl⟩
      have hbits : bits BinOp.or IntKind.u8 ((k : Int) % 256) 128 = (B.toNat : Int) := by
        have h1 := u8_or_nat (k % 256) 128 (by omega) (by omega)
        rw [or128 (k % 256) (by omega), show k % 256 % 128 + 128 = k % 128 + 128 by omega] at h1
        rw [← hBe, ofNat_toNat (by omega), ← h1]
        rfl
      have HBe := Lib.hid hBe
      clear hBe
      go_wp2_with (at_builtin; refine wpList_row oneB rfl (.tmp 10) (.tmp 14) rfl w0.heap.size v l' rfl (hR.alloc _) (some ⟨wr.heap.size, 0, none⟩) 1 1 [B] rfl (Src.new wr B _ rfl _) (by omega) (by simp; omega) ?_; intro v2 w2 hR2 hg2 _; obtain ⟨A2, k2, rfl, _⟩ := hR2.sl (fun _ => rfl); have hne := own_blk_ne hR hB (by decide); have hB2 := (hB.alloc _).grown hg2 (fun e => hne e.symm); have hw2 := (hw.wr.then ((Below.refl _ _).alloc (Nat.le_refl _) _)).grown hg2 (fun j hj => (World.ownsRow.lt hR j hj).1); have c2 := hB2.cell 0; simp only [List.getElem?_toArray, List.getElem?_cons_zero] at c2; have f2 := hB2.frozen 0; have hne2 := own_blk_ne hR2 hB2 (by decide); clear hne hg2 hR)
      have hB3 := hB2.set_ 0 (.slice A2 (l' ++ [B]).length k2)
      have hR3 : Row csB 5 (w2.setCell ⟨b, 0, none⟩ (.slice A2 (l' ++ [B]).length k2)) w0.heap.size (.slice A2 (l' ++ [B]).length k2) (l' ++ [B]) := ownsRow_setCell_other hR2 (a := ⟨b, 0, none⟩) hne2 _
      have hW3 : Wtr w0 (w2.setCell ⟨b, 0, none⟩ (.slice A2 (l' ++ [B]).length k2)) b (l' ++ [B]) := ⟨hw2.set 0 _, hlt, _, hB3, hR3⟩
      rw [show (l' ++ [B]).length = l'.length + 1 by simp] at hW3
      clear hB3 hR3 hB2 hR2 hw2 hne2 c2 f2
      obtain ⟨f', rfl⟩ : ∃ f', f = f' + 1 := ⟨f - 1, by
        rcases Nat.eq_zero_or_pos f with h0 | h0
        · subst h0; omega
        · omega⟩
      go_wp2
      go_roundw
      case rel => exact ⟨f', k / 128, l' ++ [B], rfl, by omega, by rw [Nat.pow_succ] at hkf; omega, by omega, by simp; omega, by
        have h1 := HE.out
        rw [uintF_big hbig, HBe.out] at h1
        rw [Hid, ← h1]; simp, hW3⟩
      case measure => simp [intOf]; omega
    · obtain ⟨B, rfl⟩ : ∃ B : UInt8, k = B.toNat := ⟨UInt8.ofNat k, by rw [ofNat_toNat (by omega)]⟩
      have hsm : ¬ (128 : Int) ≤ (B.toNat : Int) := by omega
      go_wp2_with (at_builtin; refine wpList_row oneB rfl (.tmp 24) (.tmp 27) rfl w0.heap.size v l' rfl (hR.alloc _) (some ⟨wr.heap.size, 0, none⟩) 1 1 [B] rfl (Src.new wr B _ rfl _) (by omega) (by simp; omega) ?_; intro v2 w2 hR2 hg2 _; obtain ⟨A2, k2, rfl, _⟩ := hR2.sl (fun _ => rfl); have hne := own_blk_ne hR hB (by decide); have hB2 := (hB.alloc _).grown hg2 (fun e => hne e.symm); have hw2 := (hw.wr.then ((Below.refl _ _).alloc (Nat.le_refl _) _)).grown hg2 (fun j hj => (World.ownsRow.lt hR j hj).1); have c2 := hB2.cell 0; simp only [List.getElem?_toArray, List.getElem?_cons_zero] at c2; have f2 := hB2.frozen 0; have hne2 := own_blk_ne hR2 hB2 (by decide); clear hne hg2 hR)
      have hB3 := hB2.set_ 0 (.slice A2 (l' ++ [B]).length k2)
      have hR3 : Row csB 5 (w2.setCell ⟨b, 0, none⟩ (.slice A2 (l' ++ [B]).length k2)) w0.heap.size (.slice A2 (l' ++ [B]).length k2) (l' ++ [B]) := ownsRow_setCell_other hR2 (a := ⟨b, 0, none⟩) hne2 _
      have hW3 : Wtr w0 (w2.setCell ⟨b, 0, none⟩ (.slice A2 (l' ++ [B]).length k2)) b (l' ++ [B]) := ⟨hw2.set 0 _, hlt, _, hB3, hR3⟩
      rw [show (l' ++ [B]).length = l'.length + 1 by simp] at hW3
      have hE := HE.out
      rw [uintF_small (by omega), ofNat_self] at hE
      rw [hE] at hW3
      clear hB3 hR3 hB2 hR2 hw2 hne2 c2 f2 hE HE
      go_wp2
      go_end0
      exact ⟨rfl, hW3⟩

theorem xor_ones (x : Nat) (h : x < 18446744073709551616) : x ^^^ 18446744073709551615 = 18446744073709551615 - x := by
  have h1 := BitVec.toNat_not (x := BitVec.ofNat 64 x)
  rw [← BitVec.xor_allOnes, BitVec.toNat_xor, BitVec.toNat_ofNat, BitVec.toNat_allOnes, Nat.mod_eq_of_lt (by simpa using h)] at h1
  have e : (2 : Nat) ^ 64 = 18446744073709551616 := by decide
  rw [e] at h1
  simpa using h1
theorem zig_pos {n : Int} (h0 : 0 ≤ n) (h2 : n ≤ 9223372036854775807) : bits BinOp.xor IntKind.u64 (n * 2) (n / 9223372036854775808) = (zig n : Int) := by
  have h := u64_xor_nat (2 * n).toNat 0 (by omega) (by omega)
  rw [Nat.xor_zero] at h
  have e1 : n / 9223372036854775808 = ((0 : Nat) : Int) := by omega
  have e2 : n * 2 = (((2 * n).toNat : Nat) : Int) := by omega
  unfold zig
  rw [if_pos h0, e1, e2, h]
theorem zig_neg {n : Int} (h0 : ¬ 0 ≤ n) (h1 : -9223372036854775808 ≤ n) : bits BinOp.xor IntKind.u64 (IntKind.u64.wrap (IntKind.u64.wrap n * 2)) (IntKind.u64.wrap (n / 9223372036854775808)) = (zig n : Int) := by
  have e1 : IntKind.u64.wrap (n / 9223372036854775808) = ((18446744073709551615 : Nat) : Int) := by rw [IntKind.wrap_u64]; omega
  have e2 : IntKind.u64.wrap (IntKind.u64.wrap n * 2) = ((18446744073709551616 + 2 * n).toNat : Int) := by rw [IntKind.wrap_u64, IntKind.wrap_u64]; omega
  have h := u64_xor_nat (18446744073709551616 + 2 * n).toNat 18446744073709551615 (by omega) (by omega)
  rw [xor_ones _ (by omega)] at h
  unfold zig
  rw [if_neg h0, e1, e2, h]
  omega

set_option maxRecDepth 100000 in
set_option maxHeartbeats 2000000 in
theorem wint_any (w0 w : World) (b : Nat) (l : List UInt8) (n : Int) (hn : -9223372036854775808 ≤ n ∧ n ≤ 9223372036854775807) (h : Wtr w0 w b l) (hl : l.length ≤ 1000000000000) :
    Calls Try.prog 35 #[.pointer (some ⟨b, 0, none⟩), .int .i64 n] w fun e w' => e = .returned (.tuple #[]) ∧ Wtr w0 w' b (l ++ intB n) := by
  have hz := zig_lt hn
  obtain ⟨h1, h2⟩ := hn
  by_cases h0 : 0 ≤ n
  · have hp := zig_pos h0 h2
    go_enter Try.func35, Try.ntmps35
    go_wp2_with fail
    refine (put_any w0 w b l (zig n) hz h hl).mono ?_
    rintro e w1 ⟨rfl, hw⟩
    go_wp2
    go_end0
    exact ⟨rfl, hw⟩
  · have hp := zig_neg h0 h1
    go_enter Try.func35, Try.ntmps35
    go_wp2_with fail
    refine (put_any w0 w b l (zig n) hz h hl).mono ?_
    rintro e w1 ⟨rfl, hw⟩
    go_wp2
    go_end0
    exact ⟨rfl, hw⟩

theorem intB_len (n : Int) : (intB n).length ≤ 10 := uintB_len _
theorem intsT_len (l : List Int) : (l.flatMap intB).length ≤ 10 * l.length := by
  induction l with
  | nil => simp
  | cons x l ih => rw [List.flatMap_cons, List.length_append, List.length_cons]; have := intB_len x; omega

set_option maxRecDepth 100000 in
set_option maxHeartbeats 2000000 in
theorem ints_any (w0 w : World) (b : Nat) (l : List UInt8) (A : Option Addr) (n cap : Nat) (zs : List Int) (hz : ∀ z ∈ zs, I64 z) (h : Wtr w0 w b l) (hl : l.length ≤ 1000000) (hn : n ≤ 1000000) (hs : Sl csI 1 w0 b A n cap zs) :
    Calls Try.prog 25 #[.pointer (some ⟨b, 0, none⟩), .slice A n cap] w fun e w' => e = .returned (.tuple #[]) ∧ Wtr w0 w' b (l ++ intsB zs) := by
  have HL := Lib.hid hs.len
  have hlt := h.lt
  have hs0 : ∀ wx, Wr w0 wx b → Sl csI 1 wx b A n cap zs := fun wx hw => hs.below (hw.below (Nat.le_of_lt hlt) (Nat.le_refl _)) (Nat.le_refl _)
  have HS := Lib.hid hs0
  clear hs0
  go_enter Try.func25, Try.ntmps25
  go_wp2_with fail
  refine (put_any w0 w b l n (by unfold U64; omega) h (by omega)).mono ?_
  rintro e w1 ⟨rfl, hw1⟩
  have hul := uintB_len n
  go_wp2
  go_loopw [15] (fun s wr => ∃ k : Nat, k ≤ n ∧ s = .int .i64 k ∧ Wtr w0 wr b (l ++ uintB n ++ (zs.take k).flatMap intB)) (fun s _ => n - (intOf s).toNat)
  case atStart => exact ⟨0, by omega, rfl, by simpa using hw1⟩
  case round =>
    obtain ⟨k, hk, rfl, hw⟩ := hrel
    by_cases hkn : k < n
    · have hkI : (k : Int) < n := by omega
      obtain ⟨b2, o2, z, rfl, hb2, hx, hc⟩ := (HS.out wr hw.wr).int_at hkn
      have hzi := hz z (List.mem_of_getElem? hx)
      have HT : Hid ((zs.take (k + 1)).flatMap intB = (zs.take k).flatMap intB ++ intB z) := by rw [Hid, take_snoc hx, List.flatMap_append]; simp
      have hlen : (l ++ uintB n ++ (zs.take k).flatMap intB).length ≤ 1000000000000 := by
        have := intsT_len (zs.take k)
        have h3 := List.length_take_le k zs
        rw [List.length_append, List.length_append]
        omega
      clear hx
      generalize (zs.take k).flatMap intB = L at *
      go_wp2_with fail
      refine (wint_any w0 wr b _ z hzi hw hlen).mono ?_
      rintro e w2 ⟨rfl, hw2⟩
      rw [List.append_assoc _ L, ← HT.out] at hw2
      clear hw hc
      go_wp2
      go_roundw
      case rel => exact ⟨k + 1, by omega, by go_num, hw2⟩
      case measure => simp [intOf]; omega
    · obtain rfl : k = n := by omega
      have HE : Hid (l ++ uintB k ++ (zs.take k).flatMap intB = l ++ intsB zs) := by
        rw [Hid, List.take_of_length_le (by rw [HL.out]; omega)]
        unfold intsB
        rw [HL.out, List.append_assoc]
      rw [HE.out] at hw
      go_wp2
      go_end0
      exact ⟨rfl, hw⟩
end Go.Proofs.Ytcljmnbjejcdaaa
