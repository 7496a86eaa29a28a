/-
  hash.words: the words of a byte slice, ranged over.
-/
import Derived.Test.YtcljmnbjejcdaaaRngB
import Derived.Test.YtcljmnbjejcdaaaHashT
import Derived.Sort.LoopGhostIn
import Derived.Sort.CutIn
namespace Go.Proofs.Ytcljmnbjejcdaaa
open Go.ChangeShapes Go.WideShapes Go.ChangeAt Go.RowKit Go.Shelf

attribute [local go_sem] Oper.semAt_some

/-- Below n₀, and from a on up to b, all lies as it lay. -/
structure KpX (n₀ a b : Nat) (W W' : World) : Prop where
  below : Below n₀ W W'
  box : ∀ k, a ≤ k → k < b → W'.heap[k]? = W.heap[k]?
section
variable {n₀ a b : Nat} {W W' X : World}
theorem KpX.refl (n₀ a b : Nat) (W : World) : KpX n₀ a b W W := ⟨Below.refl _ _, fun _ _ _ => rfl⟩
theorem KpX.trans (h : KpX n₀ a b W W') (k : KpX n₀ a b W' X) : KpX n₀ a b W X := ⟨h.below.trans k.below, fun i h1 h2 => (k.box i h1 h2).trans (h.box i h1 h2)⟩
theorem KpX.putObj {l : Nat} (o' : Obj) (hn : n₀ ≤ l) (hb : b ≤ l) : KpX n₀ a b W (W.putObj l o') :=
  ⟨⟨rfl, rfl, rfl, by simp, fun k hk => World.putObj_heap_other (by omega)⟩, fun k h1 h2 => World.putObj_heap_other (by omega)⟩
theorem kpX_t {n₀ a b : Nat} : ∀ {A B C : World}, KpX n₀ a b A B → KpX n₀ a b B C → KpX n₀ a b A C := fun h k => h.trans k
theorem kpX_b {n₀ a b s : Nat} (h1 : n₀ ≤ s) (h2 : b ≤ s) : ∀ (W : World) (l : Nat) (o o' : Obj), s ≤ l → W.heap[l]? = some o → o.isCells = false → o.isWalk = false → KpX n₀ a b W (W.putObj l o') :=
  fun _ _ _ o' hl _ _ _ => KpX.putObj o' (by omega) (by omega)
theorem KpX.boxed (h : KpX n₀ a b W W') {B : Nat} {t : TypeId} {v : Value} (hB : Boxed W B t v) (h1 : a ≤ B) (h2 : B < b) : Boxed W' B t v := (h.box B h1 h2).trans hB
end

theorem Sl.tail_ {α : Type} {cs : α → List Value} {s : Nat} {w : World} {B : Nat} {A : Option Addr} {n cap p : Nat} {xs : List α} (h : Sl cs s w B A n cap xs) (hp : p ≤ n) : Sl cs s w B (if cap = p then A else Option.map (fun x => x.add (p * s)) A) (n - p) (cap - p) (xs.drop p) := by
  refine ⟨by have := h.len; simp; omega, by have := h.ncap; omega, by have := h.cmax; omega, fun h0 => ?_⟩
  obtain ⟨b, o, rfl, hb, hc⟩ := h.row (by omega)
  have hne : cap ≠ p := by have := h.ncap; omega
  rw [if_neg hne]
  refine ⟨b, o + p * s, by show some ((⟨b, o, none⟩ : Addr).add (p * s)) = _; rw [addr_add], hb, fun k x hx j v hv => ?_⟩
  have := hc (p + k) x (by rw [List.getElem?_drop] at hx; exact hx) j v hv
  rwa [Nat.add_mul, ← Nat.add_assoc] at this

/-- where a slice's elements lie: below n₀, or in the blocks from a up to b -/
def Lies (A : Option Addr) (n n₀ a b : Nat) : Prop := 0 < n → ∃ b' o', A = some ⟨b', o', none⟩ ∧ (b' < n₀ ∨ a ≤ b' ∧ b' < b)
theorem Lies.of_sl {α : Type} {cs : α → List Value} {s B : Nat} {w : World} {A : Option Addr} {n cap : Nat} {xs : List α} (h : Sl cs s w B A n cap xs) (a b : Nat) : Lies A n B a b := fun h0 => by
  obtain ⟨b', o', e, hb, _⟩ := h.row h0
  exact ⟨b', o', e, .inl hb⟩
theorem Sl.kpx {α : Type} {cs : α → List Value} {s n₀ a b n₁ : Nat} {X Y : World} {A : Option Addr} {n cap : Nat} {xs : List α} (h : Sl cs s X n₁ A n cap xs) (hk : KpX n₀ a b X Y) (hA : Lies A n n₀ a b) : Sl cs s Y n₁ A n cap xs :=
  ⟨h.len, h.ncap, h.cmax, fun h0 => by
    obtain ⟨b', o', e, hb, hc⟩ := h.row h0
    obtain ⟨b1, o1, e1, h1⟩ := hA h0
    rw [e] at e1
    injection e1 with e1
    injection e1 with e1 _
    subst e1
    refine ⟨b', o', e, hb, fun k x hx j v hv => (World.cell?_of_block ?_).trans (hc k x hx j v hv)⟩
    rcases h1 with h1 | h1
    · exact hk.below.block b' h1
    · exact hk.box b' h1.1 h1.2⟩
theorem Lies.tail {A : Option Addr} {n cap p n₀ a b : Nat} (hA : Lies A n n₀ a b) (hc : n ≤ cap) : Lies (if cap = p then A else Option.map (fun x => x.add p) A) (n - p) n₀ a b := fun h0 => by
  obtain ⟨b1, o1, rfl, h1⟩ := hA (by omega)
  rw [if_neg (by omega)]
  exact ⟨b1, o1 + p, by rw [Option.map_some, addr_add], h1⟩

abbrev WU := { n : Nat // U64 n }
def wus (xs : List UInt8) : List WU := (wordsN xs).pmap Subtype.mk (fun x h => wordsN_lt xs x h)
theorem wus_val (xs : List UInt8) : (wus xs).map (·.1) = wordsN xs := by unfold wus; rw [List.map_pmap]; simp

theorem shl_nat (c i : Nat) (hc : c < 256) (hi : i < 8) : c * 2 ^ (8 * i) < 18446744073709551616 := by
  have h1 : 2 ^ (8 * i) ≤ 2 ^ 56 := Nat.pow_le_pow_right (by omega) (by omega)
  have h2 : c * 2 ^ (8 * i) ≤ 255 * 2 ^ 56 := Nat.mul_le_mul (by omega) h1
  omega

theorem or_step {ys : List UInt8} {q : Nat} {x : UInt8} (hx : ys[q]? = some x) (hq : q < 8) :
    bits .or .u64 ((wordOf (ys.take q) : Nat) : Int) (IntKind.u64.wrap ((x.toNat : Int) * 2 ^ (8 * q))) = ((wordOf (ys.take (q + 1)) : Nat) : Int) := by
  have hlen : (ys.take q).length = q := by have := (List.getElem?_eq_some_iff.1 hx).1; simp; omega
  have hlt := wordOf_lt (ys.take q)
  rw [hlen] at hlt
  have hp : (256 : Nat) ^ q = 2 ^ (8 * q) := by rw [Nat.pow_mul]
  have hc := uint8_lt' x
  have hb := shl_nat x.toNat q hc hq
  have e : ((x.toNat : Int) * 2 ^ (8 * q)) = ((x.toNat * 2 ^ (8 * q) : Nat) : Int) := by simp
  have hle : wordOf (ys.take q) < 18446744073709551616 := by
    have h1 : (2 : Nat) ^ (8 * q) ≤ 2 ^ 56 := Nat.pow_le_pow_right (by omega) (by omega)
    rw [hp] at hlt
    omega
  rw [e, wrap_nat (show U64 _ from hb), u64_or_nat _ _ hle hb, take_snoc hx, wordOf_snoc, hlen, hp, Nat.or_comm, nat_join (8 * q) _ _ (Nat.mul_mod_left _ _) (by rw [← hp]; exact hlt), Nat.add_comm]

theorem run_tailB (A : Option Addr) (q cap p : Nat) (hp : p ≤ q) (w : World) : (Instr.slice 26 (.slice A q cap) (some (.int .i64 p)) none none).run Try.prog w = .ok (.slice (if cap = p then A else Option.map (fun x => x.add p) A) (q - p) (cap - p)) w := by
  simp [Instr.slice, run_underlying Try.underlying26, Instr.sliceBounds, Instr.sliceBound, asIntOf, go_sem]
  intro h; omega

set_option maxRecDepth 100000 in
set_option maxHeartbeats 2000000 in
theorem words1_seq (F : Fence) (m : Nat) (h6 : F.fn 49) (hro : F.round = none) (hm : 1 ≤ m) (N n₀ a b n₁ : Nat) (A : Option Addr) (n cap : Nat) (xs : List UInt8) (w : World) (hbox : Boxed w N 26 (.slice A n cap)) (hS : Sl csB 1 w n₁ A n cap xs) (hn₁ : n₁ ≤ N) (ha : a ≤ N) (hb : N < b) (hA : Lies A n n₀ a b) :
    SeqB F m Try.prog 49 #[.pointer (some ⟨N, 0, none⟩)] (fun x : WU => #[.int .u64 (x.1 : Int)]) (KpX n₀ a b) (fun ys => ys.map (·.1) = wordsN xs) (wordsN xs).length N w := by
  intro l J W hW hJ hJb hY h0
  have hNlt := hbox.lt
  have bW : Boxed W N 26 (.slice A n cap) := (hW.block N hNlt).trans hbox
  have sW : Sl csB 1 W n₁ A n cap xs := hS.below hW (by omega)
  have hn := hS.ncap
  have hcm := hS.cmax
  have HL := Lib.hid hS.len
  have HW := Lib.hid (wordsN_len xs)
  have HY := Lib.hid hY
  have HJB := Lib.hid hJb
  clear hY hJb hS
  refine callsIn_of_wp Try.func49 rfl h6 ?_ hro
  simp only [Try.ntmps49, List.size_toArray, List.length_cons, List.length_nil, Nat.reduceAdd, Nat.reduceSub, Array.replicate_succ, Array.replicate_zero, List.push_toArray, List.append_toArray, List.nil_append, List.cons_append]
  gi_wp2
  gi_loopg [9] (n + 8) (fun gk _ wr => ∃ (j : Nat) (A' : Option Addr) (n' cap' : Nat) (pre : List WU), gk = n' + 8 ∧ 8 * j ≤ n + 7 ∧ n' = n - 8 * j ∧ Boxed wr N 26 (.slice A' n' cap') ∧ Sl csB 1 wr n₁ A' n' cap' (xs.drop (8 * j)) ∧ Hid (Lies A' n' n₀ a b) ∧ pre.map (·.1) = (wordsN xs).take j ∧ J pre wr)
  case atStart => exact ⟨0, A, n, cap, [], rfl, by omega, by omega, bW, by simpa using sW, hA, by simp, h0⟩
  case round =>
    obtain ⟨j, A', n', cap', pre, rfl, hj, hn', bX, sX, HBK, hpre, hJX⟩ := hrel
    have HN := Lib.hid hn'
    have HP := Lib.hid hpre
    have hcn := sX.ncap
    have hcx := sX.cmax
    have hlx := sX.len
    have hXsz := bX.lt
    have HLX := Lib.hid hlx
    clear hn' hpre hlx
    have cb := bX.cell
    have fb := bX.frozen
    by_cases h0 : 0 < n'
    · have h0i : (0 : Int) < n' := by omega
      have hS8 : Hid ((wordsN xs).take (j + 1) = (wordsN xs).take j ++ [wordOf ((xs.drop (8 * j)).take 8)]) := wordsN_snoc xs j (by rw [HL.out]; have := HN.out; omega)
      have hw8 := wordOf8 (xs.drop (8 * j))
      have hdd : Hid ((xs.drop (8 * j)).drop 8 = xs.drop (8 * (j + 1))) := by rw [Hid, List.drop_drop, show 8 * j + 8 = 8 * (j + 1) by omega]
      obtain ⟨ys, hys⟩ : ∃ ys, xs.drop (8 * j) = ys := ⟨_, rfl⟩
      have HYS := Lib.hid hys
      rw [hys] at sX hS8 hw8 hdd HLX
      clear hys
      gi_upto_region 1 with fail
      gi_cut [3] from 10 (fun s3 wx => ∃ p : Nat, s3 = .int .i64 p ∧ 1 ≤ p ∧ p ≤ n' ∧ p ≤ 8 ∧ Hid (p = 8 ∨ p = n') ∧ wr = wx)
      case first =>
        rcases (by omega : (n' : Int) < 8 ∨ (8 : Int) ≤ n') with h8 | h8
        · gi_wp2
          gi_meet
          exact ⟨n', rfl, by omega, by omega, by omega, .inr rfl, rfl⟩
        · gi_wp2
          gi_meet
          exact ⟨8, rfl, by omega, by omega, by omega, .inl rfl, rfl⟩
      case rest =>
        obtain ⟨p, rfl, p1, p2, p3, HPE, rfl⟩ := hcut
        have hpc : (p : Int) ≤ cap' := by omega
        gi_wp2
        have SX := Lib.hid sX
        clear sX
        gi_loopw [4, 17] (fun s i wx => ∃ q : Nat, q ≤ p ∧ i = .int .i64 q ∧ s = .int .u64 (wordOf (ys.take q) : Nat) ∧ wr = wx) (fun _ i _ => p - (intOf i).toNat)
        case atStart => exact ⟨0, by omega, rfl, rfl, rfl⟩
        case round =>
          obtain ⟨q, hq, rfl, rfl, rfl⟩ := hrel
          by_cases hqp : q < p
          · obtain ⟨b1, o1, x, he, hb1, hx, hc⟩ := SX.out.byte_at (k := q) (by omega)
            subst he
            have cx := hc wr (Below.refl _ _)
            have hx256 := uint8_lt' x
            have hqi : (q : Int) < p := by omega
            have hq8 : (q : Int) < 8 := by omega
            have HO := Lib.hid (or_step hx (show q < 8 by omega))
            clear hc hx
            gi_wp2
            go_roundw
            case rel => exact ⟨q + 1, by omega, by go_num, by rw [HO.out], by first | rfl | trivial⟩
            case measure => first | (simp [intOf]; done) | (simp [intOf]; omega)
          · obtain rfl : q = p := by omega
            have hW8 : Hid (wordOf (ys.take q) = wordOf (ys.take 8)) := by
              rcases HPE.out with h | h
              · rw [Hid, h]
              · rw [Hid, List.take_of_length_le (by rw [HLX.out]; omega), List.take_of_length_le (by rw [HLX.out]; omega)]
            have hlen : pre.length < (wordsN xs).length := by
              have h1 := congrArg List.length HP.out
              rw [List.length_map, List.length_take] at h1
              have h2 := HW.out
              have h3 := HL.out
              have h4 := HN.out
              omega
            obtain ⟨fn, tmps, assign, body, hy, hR⟩ := HY.out pre ⟨wordOf (ys.take 8), hw8⟩ wr hJX hlen
            rw [hW8.out]
            gi_wp2_with fail
            refine hR.mono ?_
            rintro e W3 ⟨rfl, hJ3, hk3⟩
            have bX3 := hk3.boxed bX ha hb
            have cb3 := bX3.cell
            have fb3 := bX3.frozen
            have SX3 := ((SX.out.kpx hk3 HBK.out).tail_ p2)
            have hbk := HBK.out.tail (p := q) hcn
            have hrt := run_tailB A' n' cap' q p2
            obtain ⟨X, hX⟩ : ∃ X, (if cap' = q then A' else Option.map (fun x => x.add q) A') = X := ⟨_, rfl⟩
            rw [Nat.mul_one, hX] at SX3
            rw [hX] at hrt hbk
            have HBK3 := Lib.hid hbk
            clear hX hbk
            have hD : Hid (ys.drop q = xs.drop (8 * (j + 1))) := by
              rw [Hid, ← hdd.out]
              rcases HPE.out with h | h
              · rw [h]
              · rw [List.drop_eq_nil_of_le (by rw [HLX.out]; omega), List.drop_eq_nil_of_le (by rw [HLX.out]; omega)]
            rw [hD.out] at SX3
            have bX4 := bX3.set (.slice X (n' - q) (cap' - q))
            have hJ4 := HJB.out _ W3 (.slice X (n' - q) (cap' - q)) hJ3
            have SX4 : Sl csB 1 (W3.setCell ⟨N, 0, none⟩ (.slice X (n' - q) (cap' - q))) n₁ X (n' - q) (cap' - q) (xs.drop (8 * (j + 1))) := SX3.keep fun a ha => World.cell?_of_block (Below.heap_setCell _ _ _ _ (by dsimp only; omega))
            have HP4 : Hid ((pre ++ [(⟨wordOf (ys.take 8), hw8⟩ : WU)]).map (·.1) = (wordsN xs).take (j + 1)) := by
              rw [Hid, List.map_append, HP.out, hS8.out]
              rfl
            have HN4 : Hid (n' - q = n - 8 * (j + 1) ∧ 8 * (j + 1) ≤ n + 7) := by
              have h1 := HN.out
              have h2 := HPE.out
              unfold Hid
              omega
            clear hJ3 hk3 SX3 bX3 SX bX hR hy
            generalize hpp : pre ++ [(⟨wordOf (ys.take 8), hw8⟩ : WU)] = pre' at *
            clear hpp
            gi_wp2
            gi_roundg (n' - q + 8)
            case rel => exact ⟨j + 1, X, n' - q, cap' - q, pre', rfl, HN4.out.2, HN4.out.1, bX4, SX4, HBK3, HP4.out, hJ4⟩
            case measure => omega
    · have hE : pre.map (·.1) = wordsN xs := by
        rw [HP.out, List.take_of_length_le]
        have h2 := HW.out
        have h3 := HL.out
        have h4 := HN.out
        omega
      have HE := Lib.hid hE
      clear hE
      gi_wp2
      go_end0
      exact ⟨⟨_, rfl⟩, pre, HE.out, hJX⟩

end Go.Proofs.Ytcljmnbjejcdaaa
