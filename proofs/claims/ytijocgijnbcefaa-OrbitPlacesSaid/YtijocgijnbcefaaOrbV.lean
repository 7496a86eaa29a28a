/-
  The reference's insert and Table: the walks.
-/
import Derived.Test.YtijocgijnbcefaaOrbU
import Derived.Test.YtijocgijnbcefaaOrbC
import Derived.Test.YtijocgijnbcefaaMix
import Derived.Laws.AppendOwnNone
namespace Go.Proofs.Ytijocgijnbcefaa
open Go.ChangeShapes Go.WideShapes Go.ChangeAt Go.RowKit

theorem own_below6 {w w' : World} {B e size n : Nat} {v : Value} {xs : List Value} (h : w.ownsRow B e size v n xs) (hb : Below w.heap.size w w') : w'.ownsRow B e size v n xs := by
  refine ⟨h.1, ?_⟩
  rcases h.2 with h1 | ⟨g, cap, cur, hv, hbg, hg, rest⟩
  · exact .inl h1
  · exact .inr ⟨g, cap, cur, hv, hbg, (hb.block g ((Array.getElem?_eq_some_iff.1 hg).1)).trans hg, rest⟩

theorem infoW : ∃ z, (Try.prog.info? 31).map (fun i => (i.zero, i.size, i.bytes)) = some (some z, 6, 48) ∧ z.cells.size = 6 := ⟨.agg #[.int .i64 0, .int .i64 0, .int .i64 0, .int .i64 0, .int .i64 0, .int .i64 0], by kernel_rfl, rfl⟩

theorem run_head (A : Option Addr) (q cap p : Nat) (hp : p ≤ cap) (w : World) : (Instr.slice 22 (.slice A q cap) none (some (.int .i64 p)) none).run Try.prog w = .ok (.slice A p cap) w := by
  simp [Instr.slice, run_underlying Try.underlying22, Instr.sliceBounds, Instr.sliceBound, asIntOf, go_sem]
  intro h; omega
theorem run_tail (A : Option Addr) (q cap p : Nat) (hp : p ≤ q) (w : World) : (Instr.slice 22 (.slice A q cap) (some (.int .i64 p)) none none).run Try.prog w = .ok (.slice (if cap = p then A else Option.map (fun x => x.add (p * 6)) A) (q - p) (cap - p)) w := by
  simp [Instr.slice, run_underlying Try.underlying22, Instr.sliceBounds, Instr.sliceBound, asIntOf, go_sem]
  intro h; omega

theorem wpList_app {ops : Array Oper} {rest : List Oper} {o : Oper} {a : Act} {w : World} {Q : Exit → Act → World → Prop} (hgd : o.guard = none) (s x : Operand)
    (ho : o.op = .call { callee := .builtin .append, args := #[s, x], argTypes := #[22, 22] }) (Bw : Nat) (v : Value) (n : Nat) (xs : List Win) (hs : a.eval s = v) (hown : w.ownsRow Bw 31 6 v n (xs.flatMap csW))
    (X : Option Addr) (m c : Nat) (ys : List Win) (hx : a.eval x = .slice X m c) (hl : ys.length = m) (hX : (X = none ∧ m = 0 ∧ c = 0) ∨ ∃ ad, X = some ad ∧ ∀ j u, (ys.flatMap csW)[j]? = some u → w.cell? (ad.add j) = some u) (hsz : n + m ≤ 10000) (hB : Bw ≤ w.heap.size)
    (h : ∀ v' w', w'.ownsRow Bw 31 6 v' (n + m) ((xs ++ ys).flatMap csW) → Below Bw w w' → wpList Try.prog ops Q rest (a.put o.dst v') w') : wpList Try.prog ops Q (o :: rest) a w := by
  obtain ⟨z, hinfo, hz6⟩ := infoW
  obtain ⟨i0, hi, hz0, hz1, hz2⟩ := info_parts hinfo
  have hlen : ∀ l : List Win, (l.flatMap csW).length = l.length * 6 := fun l => by
    induction l with
    | nil => rfl
    | cons t l ih => rw [List.flatMap_cons, List.length_append, ih, List.length_cons]; show 6 + _ = _; omega
  rcases hX with ⟨rfl, rfl, rfl⟩ | ⟨ad, rfl, hc⟩
  · obtain rfl : ys = [] := List.length_eq_zero_iff.1 hl
    exact wpList_append_own_none hgd s x 22 ho Bw 31 i0 6 (by kernel_rfl) hi v n _ hs hown hx (h v w (by simpa using hown) (Below.refl _ _))
  · refine wpList_append_own w hgd s x 22 ho Bw 31 i0 z 6 48 (by kernel_rfl) hi hz0 hz1 hz2 hz6 (by decide) v n _ hs hown ad m c (ys.flatMap csW) hx (by rw [hlen, hl]) hc ?_ ?_ ?_ hB ?_
    · intro u hu
      obtain ⟨t, _, ht⟩ := List.mem_flatMap.1 hu
      simp only [csW, List.mem_cons, List.not_mem_nil, or_false] at ht
      rcases ht with rfl | rfl | rfl | rfl | rfl | rfl <;> rfl
    · unfold maxLen; omega
    · omega
    · intro v' w' h1 h2 _
      exact h v' w' (by rw [List.flatMap_append]; exact h1) ((Below.refl _ _).grown h2 hB (fun k hk => (hown.lt k hk).1))

theorem add_none (g o j : Nat) : (⟨g, o, none⟩ : Addr).add j = ⟨g, o + j, none⟩ := by unfold Addr.add; split <;> simp_all

/-- cells of a part of a table -/
theorem part_cells {w : World} {Bw g n cap : Nat} {ts : List Win} (h : w.ownsRow Bw 31 6 (.slice (some ⟨g, 0, none⟩) n cap) n (ts.flatMap csW)) (a b : Nat) : ∀ j u, (((ts.drop a).take b).flatMap csW)[j]? = some u → w.cell? ((⟨g, a * 6, none⟩ : Addr).add j) = some u := by
  intro j u hj
  have hlen : ∀ l : List Win, (l.flatMap csW).length = l.length * 6 := fun l => by
    induction l with
    | nil => rfl
    | cons t l ih => rw [List.flatMap_cons, List.length_append, ih, List.length_cons]; show 6 + _ = _; omega
  have hjl : j < ((ts.drop a).take b).length * 6 := by rw [← hlen]; exact (List.getElem?_eq_some_iff.1 hj).1
  have hc := h.cells (g := g) rfl (a * 6 + j) u (by
    have e : ts = ts.take a ++ ((ts.drop a).take b ++ (ts.drop a).drop b) := by rw [List.take_append_drop, List.take_append_drop]
    have ha : a ≤ ts.length := by simp at hjl; omega
    rw [e, List.flatMap_append, List.getElem?_append_right (by rw [hlen]; simp; omega), hlen, List.flatMap_append]
    rw [List.length_take, Nat.min_eq_left ha, show a * 6 + j - a * 6 = j by omega]
    rw [List.getElem?_append_left (by rw [hlen]; exact hjl)]
    exact hj)
  rw [add_none] at hc ⊢
  simpa using hc

theorem own_mono {w : World} {B B' e size n : Nat} {v : Value} {xs : List Value} (h : w.ownsRow B e size v n xs) (hb : B' ≤ B) : w.ownsRow B' e size v n xs := by
  refine ⟨h.1, ?_⟩
  rcases h.2 with h1 | ⟨g, cap, cur, hv, hbg, rest⟩
  · exact .inl h1
  · exact .inr ⟨g, cap, cur, hv, by omega, rest⟩
theorem src_keep {A : Option Addr} {p cap : Nat} {l : List Value} {ws w1 : World} (hA : (A = none ∧ p = 0 ∧ cap = 0) ∨ ∃ ad, A = some ad ∧ ad.block < ws.heap.size ∧ ∀ j u, l[j]? = some u → ws.cell? (ad.add j) = some u) (hb : Below ws.heap.size ws w1) :
    (A = none ∧ p = 0 ∧ cap = 0) ∨ ∃ ad, A = some ad ∧ ∀ j u, l[j]? = some u → w1.cell? (ad.add j) = some u := by
  rcases hA with h | ⟨ad, h1, h2, h3⟩
  · exact .inl h
  · refine .inr ⟨ad, h1, fun j u hj => ?_⟩
    have hblk : (ad.add j).block = ad.block := by unfold Addr.add; split <;> rfl
    exact (hb.cell (p := ad.add j) (by rw [hblk]; exact h2)).trans (h3 j u hj)
theorem one_new (w : World) (t : Win) : ∀ j u, ([t].flatMap csW)[j]? = some u → (w.alloc (.cells #[.int .i64 t.kind, .int .i64 t.a, .int .i64 t.b, .int .i64 t.lo, .int .i64 t.hi, .int .i64 t.rate] 31)).cell? ((⟨w.heap.size, 0, none⟩ : Addr).add j) = some u := by
  intro j u hj
  rw [add_none, Nat.zero_add, (Blk.new w 31 #[.int .i64 t.kind, .int .i64 t.a, .int .i64 t.b, .int .i64 t.lo, .int .i64 t.hi, .int .i64 t.rate]).cell j]
  simpa [csW] using hj

/-- a table in memory that the call itself made: nil, or a row of its own -/
structure Tab (w : World) (B0 : Nat) (A : Option Addr) (n cap : Nat) (ts : List Win) : Prop where
  own : w.ownsRow B0 31 6 (.slice A n cap) n (ts.flatMap csW)
  len : ts.length = n
  nil : n = 0 → A = none ∧ cap = 0
theorem Tab.caps {w : World} {B0 : Nat} {A : Option Addr} {n cap : Nat} {ts : List Win} (h : Tab w B0 A n cap ts) : n ≤ cap ∧ cap ≤ 9223372036854775807 := by
  rcases h.own.2 with ⟨h1, h2⟩ | ⟨g', cap', cur, h', _, _, h1, h2, _⟩
  · injection h1; omega
  · injection h' with _ _ e
    subst e
    exact ⟨h1, h2⟩
theorem Tab.sl {w : World} {B0 : Nat} {A : Option Addr} {n cap : Nat} {ts : List Win} (h : Tab w B0 A n cap ts) : Sl csW 6 w w.heap.size A n cap ts :=
  Sl.own h.own h.len (fun _ _ => rfl) (Nat.le_refl _) h.caps.1 h.caps.2
theorem Tab.below {w w' : World} {B0 : Nat} {A : Option Addr} {n cap : Nat} {ts : List Win} (h : Tab w B0 A n cap ts) (hb : Below w.heap.size w w') : Tab w' B0 A n cap ts := ⟨own_below6 h.own hb, h.len, h.nil⟩
theorem Tab.none_ (w : World) (B0 : Nat) : Tab w B0 none 0 0 [] := ⟨World.ownsRow_nil _ _ _ _, rfl, fun _ => ⟨rfl, rfl⟩⟩

theorem tail_src {w : World} {B0 q cap p : Nat} {A : Option Addr} {ts : List Win} (h : Tab w B0 A q cap ts) (hp : p ≤ q) :
    ((if cap = p then A else Option.map (fun x => x.add (p * 6)) A) = none ∧ q - p = 0 ∧ cap - p = 0) ∨ ∃ ad, (if cap = p then A else Option.map (fun x => x.add (p * 6)) A) = some ad ∧ ∀ j u, ((ts.drop p).flatMap csW)[j]? = some u → w.cell? (ad.add j) = some u := by
  have hc := h.caps
  rcases Nat.eq_zero_or_pos q with h0 | h0
  · obtain ⟨rfl, rfl⟩ := h.nil h0
    refine .inl ⟨?_, by omega, by omega⟩
    split <;> rfl
  · obtain ⟨g, c', hv, _, hlt⟩ := h.own.form h0
    injection hv with hA _ hc'
    subst hA hc'
    by_cases hcp : cap = p
    · rw [if_pos hcp]
      refine .inr ⟨_, rfl, fun j u hj => ?_⟩
      have : ts.drop p = [] := List.drop_eq_nil_of_le (by rw [h.len]; omega)
      rw [this] at hj
      simp at hj
    · rw [if_neg hcp]
      refine .inr ⟨_, rfl, fun j u hj => ?_⟩
      have hd : (ts.drop p).take (q - p) = ts.drop p := List.take_of_length_le (by have := h.len; simp; omega)
      have := part_cells h.own p (q - p) j u (by rw [hd]; exact hj)
      show w.cell? (((⟨g, 0, none⟩ : Addr).add (p * 6)).add j) = some u
      rw [add_none] at this
      rw [add_none, add_none, Nat.zero_add]
      exact this

set_option maxRecDepth 100000 in
set_option maxHeartbeats 2000000 in
theorem insert_any (B0 : Nat) (A : Option Addr) (n cap : Nat) (ts : List Win) (t : Win) (w : World) (hT : Tab w B0 A n cap ts) (hB0 : B0 ≤ w.heap.size) (hG : Good ts) (hF : t.Formed) (hn60 : n ≤ 1000) :
    Calls Try.prog 44 #[.slice A n cap, t.val] w fun e w' => ∃ A' n' cap' ts', e = .returned (.slice A' n' cap') ∧ Tab w' B0 A' n' cap' ts' ∧ Good ts' ∧ n' ≤ n + 1 ∧ Below w.heap.size w w' := by
  have h := hT.sl
  have hB : w.heap.size ≤ w.heap.size := Nat.le_refl _
  have hn := h.ncap
  have hcm := h.cmax
  have HG := Lib.hid hG
  have HFt := Lib.hid hF
  clear hG hF
  unfold Win.val
  go_enter Try.func44, Try.ntmps44
  have bX := Blk.new w 31 #[.int .i64 t.kind, .int .i64 t.a, .int .i64 t.b, .int .i64 t.lo, .int .i64 t.hi, .int .i64 t.rate]
  have hb0 : Below w.heap.size w (w.alloc (.cells #[.int .i64 t.kind, .int .i64 t.a, .int .i64 t.b, .int .i64 t.lo, .int .i64 t.hi, .int .i64 t.rate] 31)) := (Below.refl _ _).alloc (Nat.le_refl _) _
  have hsz : w.heap.size < (w.alloc (.cells #[.int .i64 t.kind, .int .i64 t.a, .int .i64 t.b, .int .i64 t.lo, .int .i64 t.hi, .int .i64 t.rate] 31)).heap.size := by simp
  go_wp2
  obtain ⟨W, hW⟩ : ∃ W, w.alloc (.cells #[.int .i64 t.kind, .int .i64 t.a, .int .i64 t.b, .int .i64 t.lo, .int .i64 t.hi, .int .i64 t.rate] 31) = W := ⟨_, rfl⟩
  rw [hW] at bX hb0 hsz ⊢
  clear hW
  go_loopw [5, 6] (fun a i wr => ∃ q p : Nat, q ≤ n ∧ a = .int .i64 p ∧ i = .int .i64 q ∧ Hid ((∀ (j : Nat) (x : Win), j < q → ts[j]? = some x → ¬ x.meet t = true) ∧ p ≤ q ∧ (∀ (j : Nat) (x : Win), p = j + 1 → ts[j]? = some x → x.Before t) ∧ ∀ (j : Nat) (x : Win), p ≤ j → j < q → ts[j]? = some x → ¬ x.Before t) ∧ Below W.heap.size W wr) (fun _ i _ => n - (intOf i).toNat)
  case atStart => exact ⟨0, 0, by omega, rfl, rfl, ⟨fun j x hj => absurd hj (by omega), by omega, fun j x hj => absurd hj (by omega), fun j x _ hj => absurd hj (by omega)⟩, Below.refl _ _⟩
  case round =>
    obtain ⟨q, p, hq, rfl, rfl, HP, hbr⟩ := hrel
    by_cases hlt : q < n
    · obtain ⟨b, o, x, rfl, hb, hx, hW⟩ := h.win hlt
      have HX := Lib.hid hx
      have HH := Lib.hid h
      clear hx h
      have hbr' := hb0.trans (hbr.mono (by omega))
      have bX1 := bX.below hbr (by omega)
      have hs := hbr.size
      obtain ⟨c0, c1, c2, c3, c4, c5⟩ := hW wr (hbr'.mono hB)
      have c0 := Gr.cell (H := wr.heap.size) c0 (by dsimp only; omega)
      have c1 := Gr.cell (H := wr.heap.size) c1 (by dsimp only; omega)
      have c2 := Gr.cell (H := wr.heap.size) c2 (by dsimp only; omega)
      have c3 := Gr.cell (H := wr.heap.size) c3 (by dsimp only; omega)
      have c4 := Gr.cell (H := wr.heap.size) c4 (by dsimp only; omega)
      have c5 := Gr.cell (H := wr.heap.size) c5 (by dsimp only; omega)
      have x0 := Gr.blk bX1 (H := wr.heap.size) (by omega) 0
      have x1 := Gr.blk bX1 (H := wr.heap.size) (by omega) 1
      have x2 := Gr.blk bX1 (H := wr.heap.size) (by omega) 2
      have x3 := Gr.blk bX1 (H := wr.heap.size) (by omega) 3
      have x4 := Gr.blk bX1 (H := wr.heap.size) (by omega) 4
      have x5 := Gr.blk bX1 (H := wr.heap.size) (by omega) 5
      simp only [List.getElem?_toArray, List.getElem?_cons_zero, List.getElem?_cons_succ] at x0 x1 x2 x3 x4 x5
      go_wp2
      refine wp_region_gr wr.heap.size (by kernel_rfl) (by kernel_rfl) ?_
      repeat (go_big_quiet_step ((go_at_call 41; exact Calls.gr_of (Nat.le_refl _) (meet_any x t _))))
      refine wpQuiet_nil ?_
      rintro w1 ⟨g, hg⟩
      have hb1 : Below wr.heap.size wr w1 := by rw [hg]; exact Gr.below
      have hbr1 := hbr.trans (hb1.mono hbr.size)
      have hbw1 := hb0.trans (hbr1.mono (by omega))
      have bX2 := bX1.below hb1 (by omega)
      clear hg c0 c1 c2 c3 c4 c5 x0 x1 x2 x3 x4 x5 hb1 hbr bX1
      by_cases hm : x.meet t = true
      · have HR : Hid (∃ A' n' cap' ts', Ending.returned (.slice (some ⟨b, o, none⟩) n cap) = .returned (.slice A' n' cap') ∧ Tab w1 B0 A' n' cap' ts' ∧ Good ts' ∧ n' ≤ n + 1 ∧ Below w.heap.size w w1) :=
          ⟨_, _, _, ts, rfl, hT.below hbw1, HG.out, by omega, hbw1⟩
        simp only [hm]
        clear hm
        go_wp2
        go_ret
        exact HR.out
      · have hm' : x.meet t = false := by simpa using hm
        have HM := Lib.hid hm
        simp only [hm']
        clear hm hm'
        obtain ⟨c0, c1, c2, c3, c4, c5⟩ := hW w1 (hbw1.mono hB)
        have hs1 := hbr1.size
        have c0 := Gr.cell (H := w1.heap.size) c0 (by dsimp only; omega)
        have c1 := Gr.cell (H := w1.heap.size) c1 (by dsimp only; omega)
        have c2 := Gr.cell (H := w1.heap.size) c2 (by dsimp only; omega)
        have c3 := Gr.cell (H := w1.heap.size) c3 (by dsimp only; omega)
        have c4 := Gr.cell (H := w1.heap.size) c4 (by dsimp only; omega)
        have c5 := Gr.cell (H := w1.heap.size) c5 (by dsimp only; omega)
        have x0 := Gr.blk bX2 (H := w1.heap.size) (by omega) 0
        have x1 := Gr.blk bX2 (H := w1.heap.size) (by omega) 1
        have x2 := Gr.blk bX2 (H := w1.heap.size) (by omega) 2
        have x3 := Gr.blk bX2 (H := w1.heap.size) (by omega) 3
        have x4 := Gr.blk bX2 (H := w1.heap.size) (by omega) 4
        have x5 := Gr.blk bX2 (H := w1.heap.size) (by omega) 5
        simp only [List.getElem?_toArray, List.getElem?_cons_zero, List.getElem?_cons_succ] at x0 x1 x2 x3 x4 x5
        go_wp2
        refine wp_region_gr w1.heap.size (by kernel_rfl) (by kernel_rfl) ?_
        repeat (go_big_quiet_step ((go_at_call 40; exact Calls.gr_of (Nat.le_refl _) (before_any x t _))))
        refine wpQuiet_nil ?_
        rintro w2 ⟨g, hg⟩
        have hb2 : Below w1.heap.size w1 w2 := by rw [hg]; exact Gr.below
        have hbr2 := hbr1.trans (hb2.mono hbr1.size)
        clear hg c0 c1 c2 c3 c4 c5 x0 x1 x2 x3 x4 x5 hb2 hbr1 bX2
        by_cases hbf : x.before t = true
        · have HP' : Hid ((∀ (j : Nat) (y : Win), j < q + 1 → ts[j]? = some y → ¬ y.meet t = true) ∧ q + 1 ≤ q + 1 ∧ (∀ (j : Nat) (y : Win), q + 1 = j + 1 → ts[j]? = some y → y.Before t) ∧ ∀ (j : Nat) (y : Win), q + 1 ≤ j → j < q + 1 → ts[j]? = some y → ¬ y.Before t) := by
            refine ⟨fun j y hj hy => ?_, Nat.le_refl _, fun j y hj hy => ?_, fun j y h1 h2 => absurd h1 (by omega)⟩
            · by_cases hjq : j = q
              · subst hjq; rw [HX.out] at hy; cases hy; exact HM.out
              · exact HP.out.1 j y (by omega) hy
            · obtain rfl : j = q := by omega
              rw [HX.out] at hy; cases hy; rwa [Win.before_iff] at hbf
          simp only [hbf]
          clear hbf HP
          go_wp2
          go_roundw
          case rel => exact ⟨q + 1, q + 1, by omega, by go_num, by go_num, HP', hbr2⟩
          case measure => simp [intOf]; omega
        · have HP' : Hid ((∀ (j : Nat) (y : Win), j < q + 1 → ts[j]? = some y → ¬ y.meet t = true) ∧ p ≤ q + 1 ∧ (∀ (j : Nat) (y : Win), p = j + 1 → ts[j]? = some y → y.Before t) ∧ ∀ (j : Nat) (y : Win), p ≤ j → j < q + 1 → ts[j]? = some y → ¬ y.Before t) := by
            refine ⟨fun j y hj hy => ?_, by have := HP.out.2.1; omega, HP.out.2.2.1, fun j y h1 h2 hy => ?_⟩
            · by_cases hjq : j = q
              · subst hjq; rw [HX.out] at hy; cases hy; exact HM.out
              · exact HP.out.1 j y (by omega) hy
            · by_cases hjq : j = q
              · subst hjq; rw [HX.out] at hy; cases hy; rwa [Win.before_iff] at hbf
              · exact HP.out.2.2.2 j y h1 (by omega) hy
          have hbf' : x.before t = false := by simpa using hbf
          simp only [hbf']
          clear hbf hbf' HP
          go_wp2
          go_roundw
          case rel => exact ⟨q + 1, p, by omega, rfl, by go_num, HP', hbr2⟩
          case measure => simp [intOf]; omega
    · obtain rfl : q = n := by omega
      have hP : Place ts t p := by
        have hl := h.len
        refine ⟨by have := HP.out.2.1; omega, HP.out.2.2.1, fun j x h1 h2 => ?_⟩
        have := (List.getElem?_eq_some_iff.1 h2).1
        exact HP.out.2.2.2 j x h1 (by omega) h2
      have hins := HG.out.ins HFt.out hP (fun x hx => by
        obtain ⟨j, hj, rfl⟩ := List.mem_iff_getElem.1 hx
        exact HP.out.1 j _ (by have := h.len; omega) (List.getElem?_eq_getElem hj))
      have HI := Lib.hid hins
      have hpq := HP.out.2.1
      clear hins hP HP
      go_wp2
      have hbw : Below w.heap.size w wr := hb0.trans (hbr.mono (by omega))
      have hTr := hT.below hbw
      have bXr := bX.below hbr hsz
      have hsr : w.heap.size < wr.heap.size := by have := hbr.size; omega
      clear hbr hb0 bX h
      refine wp_region_mix (by kernel_rfl) ?_
      change AtK _ _ _ _ _ wr.drew
      have hbw := below_drewN hbw 1
      have hTr : Tab wr.drew B0 A q cap ts := hTr.below (below_drewN (Below.refl _ _) 1)
      have bXr := bXr.drew
      have hsr : w.heap.size < wr.drew.heap.size := hsr
      obtain ⟨ws, hws⟩ : ∃ ws, wr.drew = ws := ⟨_, rfl⟩
      change Below w.heap.size w wr.drew at hbw
      rw [hws] at hbw hTr bXr hsr ⊢
      clear hws
      have c0 := bXr.cell 0; have c1 := bXr.cell 1; have c2 := bXr.cell 2; have c3 := bXr.cell 3; have c4 := bXr.cell 4; have c5 := bXr.cell 5
      simp only [List.getElem?_toArray, List.getElem?_cons_zero, List.getElem?_cons_succ] at c0 c1 c2 c3 c4 c5
      refine AtK.move (by kernel_rfl) _ _ rfl rfl (by kernel_rfl) ?_
      refine AtK.move (by kernel_rfl) _ _ rfl rfl (by kernel_rfl) ?_
      refine AtK.move (by kernel_rfl) _ _ rfl rfl (by kernel_rfl) ?_
      have hcap := hTr.caps
      refine AtK.pure (by kernel_rfl) _ (.slice A p cap) rfl (fun w => ?hrun) (by kernel_rfl) ?_
      case hrun =>
        have h1 := run_head A q cap p (by omega) w
        have hu : Try.prog.underlying 22 = some (.slice (Try.prog.elem 22)) := by kernel_rfl
        have h2 := (run_sliceAt_slice (P := Try.prog) (w := w) 22 (.slice A q cap) none (some (.int .i64 p)) none hu).trans h1
        clear h1 hu
        unfold execOp
        simp [Act.eval, Act.put, h2]
      refine AtL.of _ _ rfl rfl ?_
      have hA : (A = none ∧ p = 0 ∧ cap = 0) ∨ ∃ ad, A = some ad ∧ ad.block < ws.heap.size ∧ ∀ j u, ((ts.take p).flatMap csW)[j]? = some u → ws.cell? (ad.add j) = some u := by
        rcases Nat.eq_zero_or_pos q with h0 | h0
        · obtain ⟨h1, h2⟩ := hTr.nil h0
          exact .inl ⟨h1, by omega, h2⟩
        · obtain ⟨g, c', hv, _, hlt⟩ := hTr.own.form h0
          injection hv with hA _ hc
          subst hA hc
          exact .inr ⟨_, rfl, hlt, by have := part_cells hTr.own 0 p; simpa using this⟩
      have hlp : (ts.take p).length = p := by have := hTr.len; simp; omega
      refine AtL.two (i := 4) (j := 5) (by kernel_rfl) _ _ rfl rfl ?_ ?_
      · go_wp2_with (at_builtin; refine wpList_app rfl _ _ rfl ws.heap.size _ 0 [] rfl (World.ownsRow_nil _ _ _ _) A p cap (ts.take p) rfl hlp (src_keep hA (Below.refl _ _)) (by omega) (Nat.le_refl _) ?_; intro v1 w1 hv1 hb1)
        have bX1 := bXr.below hb1 hsr
        have c0 := bX1.cell 0; have c1 := bX1.cell 1; have c2 := bX1.cell 2; have c3 := bX1.cell 3; have c4 := bX1.cell 4; have c5 := bX1.cell 5
        simp only [List.getElem?_toArray, List.getElem?_cons_zero, List.getElem?_cons_succ] at c0 c1 c2 c3 c4 c5
        refine AtL.one (i := 5) (by kernel_rfl) _ rfl ?_
        go_wp2
        refine AtL.one (i := 6) (by kernel_rfl) _ rfl ?_
        go_wp2
        have hv := (own_mono hv1 (show w.heap.size + 1 ≤ ws.heap.size by omega)).alloc (.cells #[.int .i64 t.kind, .int .i64 t.a, .int .i64 t.b, .int .i64 t.lo, .int .i64 t.hi, .int .i64 t.rate] 31)
        have hbW : Below ws.heap.size ws (w1.alloc (.cells #[.int .i64 t.kind, .int .i64 t.a, .int .i64 t.b, .int .i64 t.lo, .int .i64 t.hi, .int .i64 t.rate] 31)) := hb1.alloc hb1.size _
        have hX := one_new w1 t
        obtain ⟨W1, hW1⟩ : ∃ W1, w1.alloc (.cells #[.int .i64 t.kind, .int .i64 t.a, .int .i64 t.b, .int .i64 t.lo, .int .i64 t.hi, .int .i64 t.rate] 31) = W1 := ⟨_, rfl⟩
        rw [hW1] at hv hbW hX ⊢
        clear hW1
        have hsW := hbW.size
        refine AtL.one (i := 7) (by kernel_rfl) _ rfl ?_
        go_wp2_with (at_builtin; refine wpList_app rfl _ _ rfl (w.heap.size + 1) v1 (0 + p) ([] ++ ts.take p) rfl hv (some ⟨w1.heap.size, 0, none⟩) 1 1 [t] rfl rfl (.inr ⟨_, rfl, hX⟩) (by omega) (by omega) ?_; intro v2 w2 hv2 hb2)
        refine AtL.one (i := 8) (by kernel_rfl) _ rfl ?_
        go_wp2
        refine ⟨by kernel_rfl, ?_⟩
        have hbw2 : Below w.heap.size w w2 := hbw.trans ((hbW.mono (by omega)).trans (hb2.mono (by omega)))
        have hs2 := hb2.size
        have hT2 := hT.below hbw2
        have hX2 := tail_src hT2 (p := p) (by omega)
        have hrt := run_tail A q cap p (by omega)
        obtain ⟨X, hXe⟩ : ∃ X, (if cap = p then A else Option.map (fun x => x.add (p * 6)) A) = X := ⟨_, rfl⟩
        simp only [hXe] at hX2 hrt
        have hX2 := Lib.hid hX2
        clear hXe
        have hdl : (ts.drop p).length = q - p := by have := hT.len; simp; omega
        clear hX hv hA
        go_wp2_with (at_builtin; refine wpList_app rfl _ _ rfl (w.heap.size + 1) v2 (0 + p + 1) _ rfl hv2 X (q - p) (cap - p) (ts.drop p) rfl hdl hX2.out (by omega) (by omega) ?_; intro v3 w3 hv3 hb3)
        obtain ⟨g', cap3, rfl, _, _⟩ := hv3.form (by omega)
        go_wp2
        go_ret
        refine ⟨_, _, _, ts.take p ++ t :: ts.drop p, rfl, ⟨by simpa using own_mono hv3 (show B0 ≤ w.heap.size + 1 by omega), ?_, fun h => absurd h (by omega)⟩, HI.out, by omega, hbw2.trans (hb3.mono (by omega))⟩
        have := hT.len
        simp; omega
      · go_wp2
        refine AtL.two (i := 4) (j := 6) (by kernel_rfl) _ _ rfl rfl ?_ ?_
        · go_wp2_with (at_builtin; refine wpList_app rfl _ _ rfl ws.heap.size _ 0 [] rfl (World.ownsRow_nil _ _ _ _) A p cap (ts.take p) rfl hlp (src_keep hA (Below.refl _ _)) (by omega) (Nat.le_refl _) ?_; intro v1 w1 hv1 hb1)
          refine AtL.one (i := 6) (by kernel_rfl) _ rfl ?_
          go_wp2
          have hv := (own_mono hv1 (show w.heap.size + 1 ≤ ws.heap.size by omega)).alloc (.cells #[.int .i64 t.kind, .int .i64 t.a, .int .i64 t.b, .int .i64 t.lo, .int .i64 t.hi, .int .i64 t.rate] 31)
          have hbW : Below ws.heap.size ws (w1.alloc (.cells #[.int .i64 t.kind, .int .i64 t.a, .int .i64 t.b, .int .i64 t.lo, .int .i64 t.hi, .int .i64 t.rate] 31)) := hb1.alloc hb1.size _
          have hX := one_new w1 t
          obtain ⟨W1, hW1⟩ : ∃ W1, w1.alloc (.cells #[.int .i64 t.kind, .int .i64 t.a, .int .i64 t.b, .int .i64 t.lo, .int .i64 t.hi, .int .i64 t.rate] 31) = W1 := ⟨_, rfl⟩
          rw [hW1] at hv hbW hX ⊢
          clear hW1
          have hsW := hbW.size
          refine AtL.one (i := 7) (by kernel_rfl) _ rfl ?_
          go_wp2_with (at_builtin; refine wpList_app rfl _ _ rfl (w.heap.size + 1) v1 (0 + p) ([] ++ ts.take p) rfl hv (some ⟨w1.heap.size, 0, none⟩) 1 1 [t] rfl rfl (.inr ⟨_, rfl, hX⟩) (by omega) (by omega) ?_; intro v2 w2 hv2 hb2)
          refine AtL.one (i := 8) (by kernel_rfl) _ rfl ?_
          go_wp2
          refine ⟨by kernel_rfl, ?_⟩
          have hbw2 : Below w.heap.size w w2 := hbw.trans ((hbW.mono (by omega)).trans (hb2.mono (by omega)))
          have hs2 := hb2.size
          have hT2 := hT.below hbw2
          have hX2 := tail_src hT2 (p := p) (by omega)
          have hrt := run_tail A q cap p (by omega)
          obtain ⟨X, hXe⟩ : ∃ X, (if cap = p then A else Option.map (fun x => x.add (p * 6)) A) = X := ⟨_, rfl⟩
          simp only [hXe] at hX2 hrt
          have hX2 := Lib.hid hX2
          clear hXe
          have hdl : (ts.drop p).length = q - p := by have := hT.len; simp; omega
          clear hX hv hA
          go_wp2_with (at_builtin; refine wpList_app rfl _ _ rfl (w.heap.size + 1) v2 (0 + p + 1) _ rfl hv2 X (q - p) (cap - p) (ts.drop p) rfl hdl hX2.out (by omega) (by omega) ?_; intro v3 w3 hv3 hb3)
          obtain ⟨g', cap3, rfl, _, _⟩ := hv3.form (by omega)
          go_wp2
          go_ret
          refine ⟨_, _, _, ts.take p ++ t :: ts.drop p, rfl, ⟨by simpa using own_mono hv3 (show B0 ≤ w.heap.size + 1 by omega), ?_, fun h => absurd h (by omega)⟩, HI.out, by omega, hbw2.trans (hb3.mono (by omega))⟩
          have := hT.len
          simp; omega
        · go_wp2
          have hb0 : Below ws.heap.size ws (ws.alloc (.cells #[.int .i64 t.kind, .int .i64 t.a, .int .i64 t.b, .int .i64 t.lo, .int .i64 t.hi, .int .i64 t.rate] 31)) := (Below.refl _ _).alloc (Nat.le_refl _) _
          have hX0 := one_new ws t
          have hsz0 : ws.heap.size < (ws.alloc (.cells #[.int .i64 t.kind, .int .i64 t.a, .int .i64 t.b, .int .i64 t.lo, .int .i64 t.hi, .int .i64 t.rate] 31)).heap.size := by simp
          obtain ⟨W0, hW0⟩ : ∃ W0, ws.alloc (.cells #[.int .i64 t.kind, .int .i64 t.a, .int .i64 t.b, .int .i64 t.lo, .int .i64 t.hi, .int .i64 t.rate] 31) = W0 := ⟨_, rfl⟩
          rw [hW0] at hb0 hX0 hsz0 ⊢
          clear hW0
          refine AtL.one (i := 4) (by kernel_rfl) _ rfl ?_
          go_wp2_with (at_builtin; refine wpList_app rfl _ _ rfl W0.heap.size _ 0 [] rfl (World.ownsRow_nil _ _ _ _) A p cap (ts.take p) rfl hlp (src_keep hA hb0) (by omega) (Nat.le_refl _) ?_; intro v1 w1 hv1 hb1)
          have hv := own_mono hv1 (show w.heap.size + 1 ≤ W0.heap.size by omega)
          have hbW : Below ws.heap.size ws w1 := hb0.trans (hb1.mono (by omega))
          have hX : ∀ j u, ([t].flatMap csW)[j]? = some u → w1.cell? ((⟨ws.heap.size, 0, none⟩ : Addr).add j) = some u := fun j u hj => by
            have h9 := hX0 j u hj
            rw [add_none] at h9 ⊢
            exact (hb1.cell (p := ⟨ws.heap.size, 0 + j, none⟩) hsz0).trans h9
          have hsW := hbW.size
          refine AtL.one (i := 7) (by kernel_rfl) _ rfl ?_
          go_wp2_with (at_builtin; refine wpList_app rfl _ _ rfl (w.heap.size + 1) v1 (0 + p) ([] ++ ts.take p) rfl hv (some ⟨ws.heap.size, 0, none⟩) 1 1 [t] rfl rfl (.inr ⟨_, rfl, hX⟩) (by omega) (by omega) ?_; intro v2 w2 hv2 hb2)
          refine AtL.one (i := 8) (by kernel_rfl) _ rfl ?_
          go_wp2
          refine ⟨by kernel_rfl, ?_⟩
          have hbw2 : Below w.heap.size w w2 := hbw.trans ((hbW.mono (by omega)).trans (hb2.mono (by omega)))
          have hs2 := hb2.size
          have hT2 := hT.below hbw2
          have hX2 := tail_src hT2 (p := p) (by omega)
          have hrt := run_tail A q cap p (by omega)
          obtain ⟨X, hXe⟩ : ∃ X, (if cap = p then A else Option.map (fun x => x.add (p * 6)) A) = X := ⟨_, rfl⟩
          simp only [hXe] at hX2 hrt
          have hX2 := Lib.hid hX2
          clear hXe
          have hdl : (ts.drop p).length = q - p := by have := hT.len; simp; omega
          clear hX hv hA
          go_wp2_with (at_builtin; refine wpList_app rfl _ _ rfl (w.heap.size + 1) v2 (0 + p + 1) _ rfl hv2 X (q - p) (cap - p) (ts.drop p) rfl hdl hX2.out (by omega) (by omega) ?_; intro v3 w3 hv3 hb3)
          obtain ⟨g', cap3, rfl, _, _⟩ := hv3.form (by omega)
          go_wp2
          go_ret
          refine ⟨_, _, _, ts.take p ++ t :: ts.drop p, rfl, ⟨by simpa using own_mono hv3 (show B0 ≤ w.heap.size + 1 by omega), ?_, fun h => absurd h (by omega)⟩, HI.out, by omega, hbw2.trans (hb3.mono (by omega))⟩
          have := hT.len
          simp; omega

end Go.Proofs.Ytijocgijnbcefaa
