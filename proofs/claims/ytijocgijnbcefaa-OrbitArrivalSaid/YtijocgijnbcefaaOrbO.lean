/-
  The reference's search for the earliest arrival: the walks.
-/
import Derived.Test.YtijocgijnbcefaaOrbE
import Derived.Test.YtijocgijnbcefaaOrbM
import Derived.Test.YtijocgijnbcefaaGrow
import Derived.Test.YtijocgijnbcefaaArrR
import Derived.Test.YtijocgijnbcefaaArrS
namespace Go.Proofs.Ytijocgijnbcefaa
open Go.ChangeShapes Go.WideShapes Go.ChangeAt Go.RowKit

set_option maxRecDepth 100000 in
set_option maxHeartbeats 1000000 in
theorem relax_any (g : Nat) (f : Nat → Int) (t : Win) (u v : Nat) (size : Int) (w : World) (hA : ArrI w g f) (hF : t.Formed) (hu : u < 21) (hv : v < 21) (hb : ∀ i, -1 ≤ f i ∧ f i ≤ 1000000000) (hs1 : 1 ≤ size) (hs2 : size ≤ 1000000) :
    Calls Try.prog 58 #[.slice (some ⟨g, 0, none⟩) 21 21, t.val, .int .i64 u, .int .i64 v, .int .i64 size] w fun e w' => e = .returned (.slice (some ⟨g, 0, none⟩) 21 21) ∧ ArrI w' g (relaxR size t u v f) ∧ Below g w w' := by
  have huI : (u : Int) < 21 := by omega
  have hvI : (v : Int) < 21 := by omega
  have hg := Arr.lt hA
  have cu := hA.at_ hu
  have hbu := hb u
  obtain ⟨x, hx⟩ : ∃ x, f u = x := ⟨_, rfl⟩
  rw [hx] at cu hbu
  have HX := Lib.hid hx
  have HB := Lib.hid hb
  have HF := Lib.hid hF
  clear hx hb hF
  unfold Win.val
  go_enter Try.func58, Try.ntmps58
  by_cases hneg : x < 0
  · have HR : Hid (relaxR size t u v f = f) := by unfold Hid relaxR; rw [HX.out, if_pos hneg]
    go_wp2
    go_ret
    exact ⟨rfl, by rw [HR.out]; exact hA.alloc _, (Below.refl _ _).alloc (by omega) _⟩
  · have bX := Blk.new w 31 #[.int .i64 t.kind, .int .i64 t.a, .int .i64 t.b, .int .i64 t.lo, .int .i64 t.hi, .int .i64 t.rate]
    have c0 := bX.cell 0; have c1 := bX.cell 1; have c2 := bX.cell 2; have c3 := bX.cell 3; have c4 := bX.cell 4; have c5 := bX.cell 5
    simp only [List.getElem?_toArray, List.getElem?_cons_zero, List.getElem?_cons_succ] at c0 c1 c2 c3 c4 c5
    have hA' := hA.alloc (.cells #[.int .i64 t.kind, .int .i64 t.a, .int .i64 t.b, .int .i64 t.lo, .int .i64 t.hi, .int .i64 t.rate] 31)
    have hb0 : Below g w (w.alloc (.cells #[.int .i64 t.kind, .int .i64 t.a, .int .i64 t.b, .int .i64 t.lo, .int .i64 t.hi, .int .i64 t.rate] 31)) := (Below.refl _ _).alloc (by omega) _
    have cu' := ArrI.at_ hA' hu
    rw [HX.out] at cu'
    have hsz : w.heap.size < (w.alloc (.cells #[.int .i64 t.kind, .int .i64 t.a, .int .i64 t.b, .int .i64 t.lo, .int .i64 t.hi, .int .i64 t.rate] 31)).heap.size := by simp
    go_wp2
    obtain ⟨W, hW⟩ : ∃ W, w.alloc (.cells #[.int .i64 t.kind, .int .i64 t.a, .int .i64 t.b, .int .i64 t.lo, .int .i64 t.hi, .int .i64 t.rate] 31) = W := ⟨_, rfl⟩
    rw [hW] at c0 c1 c2 c3 c4 c5 hA' hb0 cu' hsz ⊢
    clear hW bX cu
    have c0 := Gr.cell (H := W.heap.size) c0 (by dsimp only; omega)
    have c1 := Gr.cell (H := W.heap.size) c1 (by dsimp only; omega)
    have c2 := Gr.cell (H := W.heap.size) c2 (by dsimp only; omega)
    have c3 := Gr.cell (H := W.heap.size) c3 (by dsimp only; omega)
    have c4 := Gr.cell (H := W.heap.size) c4 (by dsimp only; omega)
    have c5 := Gr.cell (H := W.heap.size) c5 (by dsimp only; omega)
    have cu := Gr.cell (H := W.heap.size) cu' (by dsimp only; omega)
    clear cu'
    refine wp_region_gr W.heap.size (by kernel_rfl) (by kernel_rfl) ?_
    repeat (go_big_quiet_step ((go_at_call 51; exact Calls.gr_of (Nat.le_refl _) (hop_any t _ _ _ _ _ HF.out (by omega) (by omega) hs1 hs2))))
    refine wpQuiet_nil ?_
    rintro w1 ⟨gg, hgg⟩
    have hb1 : Below W.heap.size W w1 := by rw [hgg]; exact Gr.below
    have hA1 := Arr.below hA' hb1 (by omega)
    have hbw := hb0.trans (hb1.mono (by omega))
    clear c0 c1 c2 c3 c4 c5 cu hgg hb1 hA' hb0 hA
    have cv := ArrI.at_ hA1 hv
    have fv := Arr.free hA1 v
    obtain ⟨y, hy⟩ : ∃ y, f v = y := ⟨_, rfl⟩
    rw [hy] at cv
    have HR : Hid (relaxR size t u v f = if (t.hop u v x size).2 = true ∧ (y < 0 ∨ (t.hop u v x size).1 < y) then upd f v (t.hop u v x size).1 else f) := by
      unfold Hid relaxR; rw [HX.out, if_neg (by omega), hy]
    obtain ⟨z, hz⟩ : ∃ z, (t.hop u v x size).1 = z := ⟨_, rfl⟩
    obtain ⟨o, ho⟩ : ∃ o, (t.hop u v x size).2 = o := ⟨_, rfl⟩
    rw [hz, ho] at HR ⊢
    clear hz ho hy
    cases o with
    | false =>
      have HR' : Hid (relaxR size t u v f = f) := by rw [Hid, HR.out, if_neg (by simp)]
      clear HR
      go_wp2
      go_ret
      exact ⟨rfl, by rw [HR'.out]; exact hA1, hbw⟩
    | true =>
      by_cases hc : y < 0 ∨ z < y
      · have hA2 : ArrI (w1.setCell ⟨g, v, none⟩ (.int .i64 z)) g (relaxR size t u v f) := by rw [HR.out, if_pos ⟨rfl, hc⟩]; exact ArrI.set hA1 hv z
        have HA2 := Lib.hid hA2
        have hb3 := hbw.setCell (p := ⟨g, v, none⟩) (Nat.le_refl _) (.int .i64 z)
        clear hA1 HR hA2 hbw
        by_cases hy0 : y < 0
        · clear hc
          go_wp2
          go_ret
          exact ⟨rfl, HA2.out, hb3⟩
        · have hzy : z < y := by omega
          clear hc
          go_wp2
          go_ret
          exact ⟨rfl, HA2.out, hb3⟩
      · have HR' : Hid (relaxR size t u v f = f) := by rw [Hid, HR.out, if_neg (fun h => hc h.2)]
        have hy0 : ¬ y < 0 := fun h => hc (.inl h)
        have hzy : ¬ z < y := fun h => hc (.inr h)
        clear HR hc
        go_wp2
        go_ret
        exact ⟨rfl, by rw [HR'.out]; exact hA1, hbw⟩

theorem roundsR_bd {ts : List Win} {c : Nat} {k size : Int} {e : Nat → Int} (he : Earl ts c k size e) (hF : ∀ t ∈ ts, t.Formed) (hs : 1 ≤ size) (hk1 : k ≤ 1000000000) (n : Nat) : 0 ≤ e n → e n ≤ 1000000000 := by
  intro h
  by_cases hn : n = c
  · subst hn; rw [he.start]; exact hk1
  · obtain ⟨m, t, ht, hm, hop⟩ := he.held n hn h
    have := (hop.gt (hF t ht) hs).2.2.2
    omega

theorem mk21 (w : World) : (Instr.makeSlice 27 (.int .i64 21) (.int .i64 21)).run Try.prog w = .ok (.slice (some ⟨w.heap.size, 0, none⟩) 21 21) (w.alloc (.cells Z21 3)) := by
  obtain ⟨i0, hi, hz0, hz1, hz2⟩ := info_parts infoI
  have := run_make (P := Try.prog) w 27 3 i0 (.int .i64 0) (by kernel_rfl) hi hz0 .i64 .i64 21 21 (by omega) (by omega) (by rw [hz2]; decide) (by decide)
  rw [hz1] at this
  exact this.trans (by kernel_rfl)

/-- entries of any state of the search -/
def Bd (out : Nat → Int) : Prop := ∀ i, -1 ≤ out i ∧ out i ≤ 1000000000
theorem relaxR_bd {t : Win} {u v : Nat} {size : Int} {out : Nat → Int} (ht : t.Formed) (hs : 1 ≤ size) (h : Bd out) : Bd (relaxR size t u v out) := by
  intro i
  unfold relaxR
  by_cases h1 : out u < 0
  · rw [if_pos h1]; exact h i
  · rw [if_neg h1]
    by_cases h2 : (t.hop u v (out u) size).2 = true ∧ (out v < 0 ∨ (t.hop u v (out u) size).1 < out v)
    · rw [if_pos h2]
      by_cases hi : i = v
      · subst hi
        rw [upd_same]
        have hop := (hop_Hop ht).1 h2.1
        have := hop.gt ht hs
        have := h u
        omega
      · rw [upd_ne _ _ hi]; exact h i
    · rw [if_neg h2]; exact h i
theorem winR_bd {t : Win} {size : Int} {out : Nat → Int} (ht : t.Formed) (hs : 1 ≤ size) (h : Bd out) : Bd (winR size out t) := by
  unfold winR; split
  · exact h
  · exact relaxR_bd ht hs (relaxR_bd ht hs h)
theorem foldR_bd {ts : List Win} {size : Int} {out : Nat → Int} (hF : ∀ t ∈ ts, t.Formed) (hs : 1 ≤ size) (h : Bd out) : Bd (ts.foldl (winR size) out) := by
  induction ts generalizing out with
  | nil => exact h
  | cons a l ih => exact ih (fun t ht => hF t (by simp [ht])) (winR_bd (hF a (by simp)) hs h)
theorem roundsR_bds {ts : List Win} {size : Int} {out : Nat → Int} (hF : ∀ t ∈ ts, t.Formed) (hs : 1 ≤ size) (h : Bd out) (i : Nat) : Bd (roundsR ts size i out) := by
  induction i with
  | zero => exact h
  | succ i ih => exact foldR_bd hF hs ih
theorem startR_bd {c : Nat} {k : Int} (hk0 : 0 ≤ k) (hk1 : k ≤ 1000000000) : Bd (startR c k) := fun i => by
  show -1 ≤ upd (fun _ => (-1 : Int)) c k i ∧ upd (fun _ => (-1 : Int)) c k i ≤ 1000000000
  by_cases hi : i = c
  · subst hi; rw [upd_same]; omega
  · rw [upd_ne _ _ hi]; omega
theorem Win.ends_nat {t : Win} (ht : t.Formed) : t.ends.1 = (t.ends.1.toNat : Int) ∧ t.ends.2.1 = (t.ends.2.1.toNat : Int) ∧ (t.ends.2.2 = true → t.ends.1.toNat < 21 ∧ t.ends.2.1.toNat < 21) := by
  unfold Win.Formed at ht; unfold Win.ends
  by_cases h1 : t.kind = 1
  · simp [h1]; omega
  · simp [h1]; omega

set_option maxRecDepth 100000 in
set_option maxHeartbeats 2000000 in
theorem earliest_any (B : Nat) (A : Option Addr) (n cap : Nat) (ts : List Win) (c : Nat) (k size : Int) (w : World) (h : Sl csW 6 w B A n cap ts) (hB : B ≤ w.heap.size) (hF : ∀ t ∈ ts, t.Formed)
    (hc : c < 12) (hk0 : 0 ≤ k) (hk1 : k ≤ 1000000000) (hs1 : 1 ≤ size) (hs2 : size ≤ 1000000) :
    Calls Try.prog 49 #[.slice A n cap, .int .i64 c, .int .i64 k, .int .i64 size] w fun e w' => ∃ g f, e = .returned (.slice (some ⟨g, 0, none⟩) 21 21) ∧ ArrI w' g f ∧ Earl ts c k size f ∧ Bd f ∧ w.heap.size ≤ g ∧ Below w.heap.size w w' := by
  have hn := h.ncap
  have hcm := h.cmax
  have hcI : (c : Int) < 12 := by omega
  have hres : ∃ e, Earl ts c k size e ∧ roundsR ts size 12 (startR c k) = e := by
    obtain ⟨e, he⟩ := Earl.exists ts c k size hF (by omega) hk0 hs1
    exact ⟨e, he, roundsR_eq he hF hk0 hs1⟩
  have hbd : ∀ i, Bd (roundsR ts size i (startR c k)) := roundsR_bds hF hs1 (startR_bd hk0 hk1)
  have HBD := Lib.hid hbd
  clear hbd
  have hmk : ∀ w : World, (Instr.makeSlice 27 (.int .i64 21) (.int .i64 21)).run Try.prog w = .ok (.slice (some ⟨w.heap.size, 0, none⟩) 21 21) (w.alloc (.cells Z21 3)) := fun w => mk21 w
  go_enter Try.func49, Try.ntmps49
  go_wp2
  go_loopw [10] (fun i wr => ∃ q : Nat, q ≤ 21 ∧ i = .int .i64 q ∧ ArrI wr w.heap.size (fun j => if j < q then -1 else 0) ∧ Below w.heap.size w wr) (fun i _ => 21 - (intOf i).toNat)
  case atStart => exact ⟨0, by omega, rfl, Arr.congr (arrI_zero w 3) (fun _ _ => rfl), (Below.refl _ _).alloc (Nat.le_refl _) _⟩
  case round =>
    obtain ⟨q, hq, rfl, hA, hbw⟩ := hrel
    by_cases hlt : q < 21
    · have hqI : (q : Int) < 21 := by omega
      have ca := hA.at_ hlt
      have fa := Arr.free hA q
      have hA2 : ArrI (wr.setCell ⟨w.heap.size, q, none⟩ (.int .i64 (-1))) w.heap.size (fun j => if j < q + 1 then -1 else 0) :=
        Arr.congr (hA.set hlt (-1)) (fun i _ => by unfold upd; simp; split <;> split <;> (try split) <;> first | rfl | omega)
      have hb2 := hbw.setCell (p := ⟨w.heap.size, q, none⟩) (Nat.le_refl _) (.int .i64 (-1))
      clear hA hbw
      go_wp2
      go_roundw
      case rel => exact ⟨q + 1, by omega, by go_num, hA2, hb2⟩
      case measure => simp [intOf]; omega
    · obtain rfl : q = 21 := by omega
      have ca := hA.at_ (i := c) (by omega)
      have fa := Arr.free hA c
      have hA2 : ArrI (wr.setCell ⟨w.heap.size, c, none⟩ (.int .i64 k)) w.heap.size (roundsR ts size 0 (startR c k)) :=
        Arr.congr (hA.set (i := c) (by omega) k) (fun i hi => by show Value.int .i64 (startR c k i) = _; unfold startR upd; simp [hi])
      have hb2 := hbw.setCell (p := ⟨w.heap.size, c, none⟩) (Nat.le_refl _) (.int .i64 k)
      clear hA hbw
      go_wp2
      obtain ⟨ws, hws⟩ : ∃ ws, wr.setCell ⟨w.heap.size, c, none⟩ (.int .i64 k) = ws := ⟨_, rfl⟩
      rw [hws] at hA2 hb2 ⊢
      clear hws ca fa
      go_loopw [9, 11, 12, 13, 14, 15] (fun o i _ _ _ _ wr => ∃ q : Nat, q ≤ 12 ∧ o = .slice (some ⟨w.heap.size, 0, none⟩) 21 21 ∧ i = .int .i64 q ∧ ArrI wr w.heap.size (roundsR ts size q (startR c k)) ∧ Below w.heap.size w wr) (fun _ i _ _ _ _ _ => 12 - (intOf i).toNat)
      case atStart => exact ⟨0, by omega, rfl, rfl, hA2, hb2⟩
      case round =>
        clear hA2 hb2
        obtain ⟨q, hq, rfl, rfl, hA, hbw⟩ := hrel
        by_cases hlt : q < 12
        · have hqI : (q : Int) < 12 := by omega
          have hb0 := HBD.out q
          have HE : Hid (roundsR ts size (q + 1) (startR c k) = ts.foldl (winR size) (roundsR ts size q (startR c k))) := rfl
          obtain ⟨F, hF0⟩ : ∃ F, roundsR ts size q (startR c k) = F := ⟨_, rfl⟩
          rw [hF0] at hb0 hA HE
          clear hF0
          have HB0 := Lib.hid hb0
          clear hb0
          go_wp2
          go_loopw [9, 12, 13, 14, 15] (fun o i _ _ _ wr => ∃ p : Nat, p ≤ n ∧ o = .slice (some ⟨w.heap.size, 0, none⟩) 21 21 ∧ i = .int .i64 p ∧ ArrI wr w.heap.size ((ts.take p).foldl (winR size) F) ∧ Below w.heap.size w wr) (fun _ i _ _ _ _ => n - (intOf i).toNat)
          case atStart => exact ⟨0, by omega, rfl, rfl, hA, hbw⟩
          case round =>
            clear hA hbw
            obtain ⟨p, hp, rfl, rfl, hA, hbw⟩ := hrel
            by_cases hlt2 : p < n
            · obtain ⟨b, o, t, rfl, hb, ht, hW⟩ := h.win hlt2
              have hFt := hF t (List.mem_of_getElem? ht)
              have HS : Hid ((ts.take (p + 1)).foldl (winR size) F = winR size ((ts.take p).foldl (winR size) F) t) := by
                rw [Hid, take_snoc ht, List.foldl_append]; rfl
              have hbS := foldR_bd (size := size) (fun x hx => hF x (List.mem_of_mem_take hx)) hs1 HB0.out (ts := ts.take p)
              generalize (ts.take p).foldl (winR size) F = S at *
              have HBS := Lib.hid hbS
              have HFT := Lib.hid hFt
              have hEn := Win.ends_nat hFt
              obtain ⟨u, hu⟩ : ∃ u, t.ends.1.toNat = u := ⟨_, rfl⟩
              obtain ⟨v, hv⟩ : ∃ v, t.ends.2.1.toNat = v := ⟨_, rfl⟩
              obtain ⟨L, hL⟩ : ∃ L, t.ends.2.2 = L := ⟨_, rfl⟩
              have HW : Hid (winR size S t = if L = false then S else relaxR size t v u (relaxR size t u v S)) := by rw [Hid, winR, hu, hv, hL]
              rw [hu, hv, hL] at hEn
              clear hbS hFt ht hu hv
              obtain ⟨c0, c1, c2, c3, c4, c5⟩ := hW wr (hbw.mono hB)
              go_wp2_with fail
              refine (ends_any t _ HFT.out).mono ?_
              rintro e w1 ⟨rfl, hb1⟩
              rw [hEn.1, hEn.2.1, hL]
              clear c0 c1 c2 c3 c4 c5
              have hA1 := Arr.below hA hb1 (Arr.lt hA)
              have hbw1 := hbw.trans (hb1.mono hbw.size)
              clear hA hbw hb1
              cases L with
              | false =>
                have hA2 : ArrI w1 w.heap.size ((ts.take (p + 1)).foldl (winR size) F) := by rw [HS.out, HW.out]; exact hA1
                have HH : Hid (ArrI w1 w.heap.size ((ts.take (p + 1)).foldl (winR size) F) ∧ Below w.heap.size w w1) := ⟨hA2, hbw1⟩
                clear hA1 HW HS hA2 hbw1
                go_wp2
                go_roundw
                case rel => first | exact ⟨p + 1, by omega, rfl, by go_num, HH.out.1, HH.out.2⟩ | ((repeat apply Exists.intro); exact ⟨⟨p + 1, by omega, rfl, by go_num, HH.out.1, HH.out.2⟩, rfl⟩) | exact ⟨_, _, _, _, _, ⟨p + 1, by omega, rfl, by go_num, HH.out.1, HH.out.2⟩, rfl, rfl, rfl, rfl, rfl⟩
                case measure => simp [intOf]; omega
              | true =>
                obtain ⟨hu21, hv21⟩ := hEn.2.2 rfl
                obtain ⟨c0, c1, c2, c3, c4, c5⟩ := hW w1 (hbw1.mono hB)
                clear hEn
                go_wp2_with fail
                refine (relax_any w.heap.size S t u v size _ hA1 HFT.out hu21 hv21 HBS.out hs1 hs2).mono ?_
                rintro e w2 ⟨rfl, hA2, hb2⟩
                clear c0 c1 c2 c3 c4 c5
                have hbw2 := hbw1.trans hb2
                obtain ⟨c0, c1, c2, c3, c4, c5⟩ := hW w2 (hbw2.mono hB)
                go_wp2_with fail
                refine (relax_any w.heap.size _ t v u size _ hA2 HFT.out hv21 hu21 (relaxR_bd HFT.out hs1 HBS.out) hs1 hs2).mono ?_
                rintro e w3 ⟨rfl, hA3, hb3⟩
                clear c0 c1 c2 c3 c4 c5
                have hbw3 := hbw2.trans hb3
                have hA4 : ArrI w3 w.heap.size ((ts.take (p + 1)).foldl (winR size) F) := by rw [HS.out, HW.out, if_neg (by simp)]; exact hA3
                have HH : Hid (ArrI w3 w.heap.size ((ts.take (p + 1)).foldl (winR size) F) ∧ Below w.heap.size w w3) := ⟨hA4, hbw3⟩
                clear hA1 hA2 hA3 hA4 HW HS hb2 hb3 hbw1 hbw2 hbw3
                go_wp2
                go_roundw
                case rel => first | exact ⟨p + 1, by omega, rfl, by go_num, HH.out.1, HH.out.2⟩ | ((repeat apply Exists.intro); exact ⟨⟨p + 1, by omega, rfl, by go_num, HH.out.1, HH.out.2⟩, rfl⟩) | exact ⟨_, _, _, _, _, ⟨p + 1, by omega, rfl, by go_num, HH.out.1, HH.out.2⟩, rfl, rfl, rfl, rfl, rfl⟩
                case measure => simp [intOf]; omega
            · obtain rfl : p = n := by omega
              have hfin : ArrI wr w.heap.size (roundsR ts size (q + 1) (startR c k)) := by
                rw [HE.out]
                rw [List.take_of_length_le (by have := h.len; omega)] at hA
                exact hA
              clear hA
              go_wp2
              go_roundw
              case rel => exact ⟨q + 1, by omega, rfl, by go_num, hfin, hbw⟩
              case measure => simp [intOf]; omega
        · obtain rfl : q = 12 := by omega
          go_wp2
          go_ret
          obtain ⟨e, he, hee⟩ := hres
          exact ⟨w.heap.size, _, rfl, hA, by rw [hee]; exact he, HBD.out 12, Nat.le_refl _, hbw⟩

end Go.Proofs.Ytijocgijnbcefaa
