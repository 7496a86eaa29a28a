/-
  orbit.Arrival: the walk.
-/
import Derived.Test.YtijocgijnbcefaaArrS
namespace Go.Proofs.Ytijocgijnbcefaa
open Go.ChangeShapes Go.WideShapes Go.ChangeAt Go.RowKit

/-- the three arrays -/
structure Three (w : World) (g : Nat) (s : DS) : Prop where
  a : ArrI w g s.tk
  f : ArrI w (g + 1) s.fr
  d : ArrB w (g + 1 + 1) s.dn
theorem Three.below {w w' : World} {g B : Nat} {s : DS} (h : Three w g s) (hb : Below B w w') (hB : g + 1 + 1 < B) : Three w' g s := ⟨Arr.below h.a hb (by omega), Arr.below h.f hb (by omega), Arr.below h.d hb hB⟩
theorem Three.drewN {w : World} {g : Nat} {s : DS} (h : Three w g s) (k : Nat) : Three (w.drewN k) g s := ⟨Arr.drewN h.a k, Arr.drewN h.f k, Arr.drewN h.d k⟩
theorem Three.turn {w : World} {g v m : Nat} {s : DS} {x : Int} (h : Three w g s) (hv : v < 21) : Three ((w.setCell ⟨g, v, none⟩ (.int .i64 x)).setCell ⟨g + 1, v, none⟩ (.int .i64 m)) g { tk := upd s.tk v x, fr := upd s.fr v m, dn := s.dn } :=
  ⟨Arr.far (ArrI.set h.a hv x) (by simp) _, ArrI.set (Arr.far h.f (by simp) _) hv m, Arr.far (Arr.far h.d (by dsimp only; omega) _) (by dsimp only; omega) _⟩
theorem Three.lt {w : World} {g : Nat} {s : DS} (h : Three w g s) : g + 1 + 1 < w.heap.size := Arr.lt h.d

def F21 : Array Value := #[.bool false, .bool false, .bool false, .bool false, .bool false, .bool false, .bool false, .bool false, .bool false, .bool false, .bool false, .bool false, .bool false, .bool false, .bool false, .bool false, .bool false, .bool false, .bool false, .bool false, .bool false]
theorem three_zero (w : World) : Three (((w.alloc (.cells Z21 64)).alloc (.cells Z21 64)).alloc (.cells F21 65)) w.heap.size ⟨fun j => if j < 0 then -1 else 0, fun j => if j < 0 then -1 else 0, fun _ => false⟩ := by
  refine ⟨Arr.congr (((arrI_zero w 64).alloc _).alloc _) (fun _ _ => rfl), ?_, ?_⟩
  · have := (arrI_zero (w.alloc (.cells Z21 64)) 64).alloc (.cells F21 65)
    rw [World.size_alloc] at this
    exact Arr.congr this (fun _ _ => rfl)
  · have := arrB_zero ((w.alloc (.cells Z21 64)).alloc (.cells Z21 64)) 65
    rw [World.size_alloc, World.size_alloc] at this
    exact this

theorem win_bds {t : Win} (ht : t.Formed) : 0 ≤ t.lo ∧ t.lo ≤ 1000000 ∧ 0 ≤ t.hi ∧ t.hi ≤ 1000000 ∧ t.rate ≤ 1000 := by unfold Win.Formed at ht; omega
def relaxV (m : Nat) (s : DS) (t : Win) (v : Nat) (x : Int) (y z : Int) (d : Bool) : DS :=
  if t.hi < x ∨ d = true then s else if y = -1 ∨ x < y ∨ (x = y ∧ (m : Int) < z) then { tk := upd s.tk v x, fr := upd s.fr v m, dn := s.dn } else s
theorem relaxD_go {size : Int} {m v : Nat} {s : DS} {t : Win} (h : t.other (m : Int) = ((v : Int), true)) : relaxD size m s t = relaxV m s t v (hopEnd s size m t) (s.tk v) (s.fr v) (s.dn v) := by
  unfold relaxD relaxV
  rw [h]
  simp

set_option maxRecDepth 100000 in
set_option maxHeartbeats 4000000 in
theorem arrival_any (B : Nat) (A : Option Addr) (n cap : Nat) (ts : List Win) (c st : Nat) (k size : Int) (w : World) (h : Sl csW 6 w B A n cap ts) (hB : B ≤ w.heap.size) (hF : ∀ t ∈ ts, t.Formed)
    (hc : c < 12) (hst : st < 9) (hk0 : 0 ≤ k) (hk1 : k ≤ 1000000000) (hs1 : 1 ≤ size) (hs2 : size ≤ 1000000) :
    Calls Try.prog 24 #[.slice A n cap, .int .i64 c, .int .i64 st, .int .i64 k, .int .i64 size] w (ArrRes ts c k size st w) := by
  have hn := h.ncap
  have hcm := h.cmax
  have hcI : (c : Int) < 12 := by omega
  have hstI : (st : Int) < 9 := by omega
  obtain ⟨i0, hi, hz0, hz1, hz2⟩ := info_parts infoI
  go_enter Try.func24, Try.ntmps24
  go_wp2
  go_loopw [16, 27] (fun _ i wr => ∃ q : Nat, q ≤ 21 ∧ i = .int .i64 q ∧ Three wr w.heap.size ⟨fun j => if j < q then -1 else 0, fun j => if j < q then -1 else 0, fun _ => false⟩ ∧ Below w.heap.size w wr) (fun _ i _ => 21 - (intOf i).toNat)
  case atStart => exact ⟨0, by omega, rfl, three_zero w, (((Below.refl _ _).alloc (Nat.le_refl _) _).alloc (by simp) _).alloc (by simp; omega) _⟩
  case round =>
    obtain ⟨q, hq, rfl, h3, hbw⟩ := hrel
    by_cases hlt : q < 21
    · have hqI : (q : Int) < 21 := by omega
      have ca := h3.a.at_ hlt
      have cf := h3.f.at_ hlt
      have fa := Arr.free h3.a q
      have ff := Arr.free h3.f q
      simp only [Nat.lt_irrefl, if_false] at ca cf
      have h3' : Three ((wr.setCell ⟨w.heap.size, q, none⟩ (.int .i64 (-1))).setCell ⟨w.heap.size + 1, q, none⟩ (.int .i64 (-1))) w.heap.size ⟨fun j => if j < q + 1 then -1 else 0, fun j => if j < q + 1 then -1 else 0, fun _ => false⟩ :=
        ⟨Arr.congr (Arr.far (h3.a.set hlt (-1)) (by simp) _) (fun i _ => by unfold upd; simp; split <;> split <;> (try split) <;> first | rfl | omega),
         Arr.congr (ArrI.set (Arr.far h3.f (by simp) _) hlt (-1)) (fun i _ => by unfold upd; simp; split <;> split <;> (try split) <;> first | rfl | omega),
         Arr.far (Arr.far h3.d (by dsimp only; omega) _) (by dsimp only; omega) _⟩
      have hb' := (hbw.setCell (p := ⟨w.heap.size, q, none⟩) (Nat.le_refl _) (.int .i64 (-1))).setCell (p := ⟨w.heap.size + 1, q, none⟩) (by simp) (.int .i64 (-1))
      clear h3 hbw
      go_wp2
      go_roundw
      case rel => exact ⟨q + 1, by omega, by go_num, h3', hb'⟩
      case measure => simp [intOf]; omega
    · obtain rfl : q = 21 := by omega
      have ca := h3.a.at_ (i := c) (by omega)
      have fa := Arr.free h3.a c
      have h4 : Three (wr.setCell ⟨w.heap.size, c, none⟩ (.int .i64 k)) w.heap.size (startD c k) :=
        ⟨Arr.congr (h3.a.set (i := c) (by omega) k) (fun i hi => by unfold startD upd; simp [hi]), Arr.congr (Arr.far h3.f (by simp) _) (fun i hi => by unfold startD; simp [hi]), Arr.far h3.d (by dsimp only; omega) _⟩
      have hb4 := hbw.setCell (p := ⟨w.heap.size, c, none⟩) (Nat.le_refl _) (.int .i64 k)
      clear h3 hbw
      go_wp2
      go_loopg [17] (undone (startD c k).dn) (fun gk _ wr => ∃ s : DS, Hid (undone s.dn = gk) ∧ Hid (s = startD c k ∨ DAll ts c k size s) ∧ Three wr w.heap.size s ∧ Below w.heap.size w wr)
      case atStart => exact ⟨startD c k, rfl, .inl rfl, h4, hb4⟩
      case round =>
        clear ca fa h4 hb4
        obtain ⟨s, Hgk, Hs, h3, hbw⟩ := hrel
        have hHi : ∀ i, -1 ≤ s.tk i ∧ s.tk i ≤ 1000000000 := fun i => by
          rcases Hs.out with e | hD
          · rw [e]; show -1 ≤ upd (fun _ => (-1 : Int)) c k i ∧ upd (fun _ => (-1 : Int)) c k i ≤ 1000000000
            by_cases hic : i = c
            · subst hic; rw [upd_same]; omega
            · rw [upd_ne _ _ hic]; omega
          · exact hD.hi hF hs1 hk1 hk0 i
        have HHi := Lib.hid hHi
        clear hHi
        go_wp2
        obtain ⟨wo, rfl⟩ : ∃ wo : World, wo = wr := ⟨_, rfl⟩
        have hlo := h3.lt
        go_loopw [17, 18, 38] (fun now _ i wr => ∃ (q : Nat) (N : Int), q ≤ 21 ∧ i = .int .i64 q ∧ now = .int .i64 N ∧ Hid (N = pickN s q) ∧ Below wo.heap.size wo wr) (fun _ _ i _ => 21 - (intOf i).toNat)
        case atStart => exact ⟨0, -1, by omega, rfl, rfl, rfl, Below.refl _ _⟩
        case round =>
          obtain ⟨q, N, hq, rfl, rfl, HN, hbr⟩ := hrel
          by_cases hlt : q < 21
          · have hqI : (q : Int) < 21 := by omega
            have h3r := h3.below hbr hlo
            have ca := h3r.a.at_ hlt
            have cd := h3r.d.at_ hlt
            obtain ⟨x, hx⟩ : ∃ x, s.tk q = x := ⟨_, rfl⟩
            obtain ⟨d, hd⟩ : ∃ d, s.dn q = d := ⟨_, rfl⟩
            rw [hx] at ca
            rw [hd] at cd
            have HX := Lib.hid hx
            have HD := Lib.hid hd
            clear hx hd
            by_cases hx1 : x = -1
            · subst hx1
              have HP : Hid (N = pickN s (q + 1)) := by rw [Hid, pickN, if_neg (fun hh => hh.1 HX.out)]; exact HN.out
              clear h3r
              go_wp2
              go_quiet (fail)
              go_wp2
              go_roundw
              case rel => exact ⟨q + 1, N, by omega, by go_num, rfl, HP, below_drewN hbr _⟩
              case measure => simp [intOf]; omega
            · have hxb : (x != -1) = true := by simpa using hx1
              cases d with
              | true =>
                have HP : Hid (N = pickN s (q + 1)) := by rw [Hid, pickN, if_neg (fun hh => by have := hh.2.1; rw [HD.out] at this; cases this)]; exact HN.out
                clear h3r
                go_wp2
                go_quiet (fail)
                go_wp2
                go_roundw
                case rel => exact ⟨q + 1, N, by omega, by go_num, rfl, HP, below_drewN hbr _⟩
                case measure => simp [intOf]; omega
              | false =>
                rcases pickN_spec s q with ⟨e1, _⟩ | ⟨m, e1, e2, _⟩
                · have hN : N = -1 := HN.out.trans e1
                  subst hN
                  have HP : Hid ((q : Int) = pickN s (q + 1)) := by rw [Hid, pickN, if_pos ⟨by rw [HX.out]; exact hx1, HD.out, .inl e1⟩]
                  clear h3r e1 hx1
                  go_wp2
                  go_quiet (fail)
                  go_wp2
                  go_roundw
                  case rel => exact ⟨q + 1, q, by omega, by go_num, rfl, HP, below_drewN hbr _⟩
                  case measure => simp [intOf]; omega
                · have hN : N = m := HN.out.trans e1
                  subst hN
                  have cm := h3r.a.at_ (i := m) (by omega)
                  obtain ⟨y, hy⟩ : ∃ y, s.tk m = y := ⟨_, rfl⟩
                  rw [hy] at cm
                  have HY := Lib.hid hy
                  have HE := Lib.hid e1
                  clear hy e1 h3r hx1
                  have hmI : (m : Int) < 21 := by omega
                  have hm1 : ((m : Int) == -1) = false := by simp
                  by_cases hxy : x < y
                  · have HP : Hid ((q : Int) = pickN s (q + 1)) := by
                      rw [Hid, pickN, if_pos ⟨by rw [HX.out]; simpa using hxb, HD.out, .inr (by rw [HE.out, HX.out]; simpa [HY.out] using hxy)⟩]
                    go_wp2
                    go_quiet (fail)
                    go_wp2
                    go_roundw
                    case rel => exact ⟨q + 1, q, by omega, by go_num, rfl, HP, below_drewN hbr _⟩
                    case measure => simp [intOf]; omega
                  · have HP : Hid ((m : Int) = pickN s (q + 1)) := by
                      rw [Hid, pickN, if_neg (fun hh => by
                        rcases hh.2.2 with h1 | h1
                        · rw [HE.out] at h1; omega
                        · rw [HE.out, HX.out] at h1; simp [HY.out] at h1; omega)]
                      exact HE.out.symm
                    go_wp2
                    go_quiet (fail)
                    go_wp2
                    go_roundw
                    case rel => exact ⟨q + 1, m, by omega, by go_num, rfl, HP, below_drewN hbr _⟩
                    case measure => simp [intOf]; omega
          · obtain rfl : q = 21 := by omega
            have hbw' := hbw.trans (hbr.mono hbw.size)
            have h3' := h3.below hbr hlo
            clear hbr h3 hbw hlo
            obtain ⟨wq, rfl⟩ : ∃ wq : World, wq = wr := ⟨_, rfl⟩
            rcases pickN_spec s 21 with ⟨e1, e2⟩ | ⟨m, e1, e2, e3, e4, e5⟩
            · have hN : N = -1 := HN.out.trans e1
              subst hN
              have hD : DAll ts c k size s := by
                rcases Hs.out with e | hD
                · exfalso
                  rcases e2 c (by omega) with h1 | h1
                  · rw [e] at h1; change upd (fun _ => (-1 : Int)) c k c = -1 at h1; rw [upd_same] at h1; omega
                  · rw [e] at h1; cases h1
                · exact hD
              have hE := hD.earl e2
              have hP := hD.pred e2
              have hhi := HHi.out
              clear HHi Hs Hgk HN
              have cE := h3'.a.at_ (i := 12 + st) (by omega)
              by_cases hx : s.tk (12 + st) = -1
              · rw [hx] at cE
                have HF : ArrRes ts c k size st w (.returned (.tuple #[.int .i64 0, .slice none 0 0, .bool false])) wq := ⟨0, [], false, none, 0, ⟨s.tk, hE, .inl ⟨hx, rfl, rfl, rfl⟩⟩, rfl, Sl.nil_, hbw'⟩
                have HFF := Lib.hid HF
                clear HF hx hE hP hhi e1 e2 hD
                go_wp2
                go_ret3
                exact HFF.out
              · have hx0 : 0 ≤ s.tk (12 + st) := by rcases hE.low (12 + st) with h1 | h1 <;> omega
                obtain ⟨lN, hlN⟩ : ∃ l, Way ts size s.tk c (12 + st) l := hE.way hF hs1 (fun n => (s.fr n).toNat) (fun n hn hp => by
                  obtain ⟨m, h1, h2⟩ := hP n hn hp
                  show LeastPred ts size s.tk (s.fr n).toNat n
                  rw [h1]; exact h2) _ hx0
                have hw0 : wq.heap.size = wq.heap.size := rfl
                have hown0 := World.ownsRow_lit (e := 3) (size := 1) (base := wq.heap.size) wq #[.int .i64 (12 + (st : Int))] 1 (Nat.le_refl _) (by decide) rfl
                obtain ⟨X, hX⟩ : ∃ X, s.tk (12 + st) = X := ⟨_, rfl⟩
                rw [hX] at cE
                have hXb := hhi (12 + st)
                rw [hX] at hXb hx hx0
                have HXb := Lib.hid hXb
                have HE := Lib.hid hE
                have HP := Lib.hid hP
                have Hhi := Lib.hid hhi
                have HX := Lib.hid hX
                have HL := Lib.hid hlN
                have HD := Lib.hid hD
                clear hE hP hhi e1 e2 hD hX hlN hXb
                have hxb : (X == -1) = false := by simpa using hx
                have h3w := h3'.below ((Below.refl wq.heap.size wq).alloc (Nat.le_refl _) (.cells #[.int .i64 (12 + (st : Int))] 3)) h3'.lt
                go_wp2
                go_loopw [25, 26] (fun sl i wr => ∃ (v : Nat) (rest : List Nat) (g cap : Nat), i = .int .i64 v ∧ sl = .slice (some ⟨g, 0, none⟩) (rest.length + 1) cap ∧ wr.ownsRow wq.heap.size 3 1 (.slice (some ⟨g, 0, none⟩) (rest.length + 1) cap) (rest.length + 1) (((v :: rest).reverse).map (fun q : Nat => Value.int .i64 q)) ∧ Hid (v < 21 ∧ 0 ≤ s.tk v ∧ (∀ l, Way ts size s.tk c v l → Way ts size s.tk c (12 + st) (l ++ rest)) ∧ (rest.length : Int) + s.tk v ≤ 1000000000) ∧ Below wq.heap.size wq wr) (fun _ i _ => (s.tk (intOf i).toNat).toNat)
                case atStart => exact ⟨12 + st, [], wq.heap.size, 1, by congr 1, rfl, by simpa using hown0, ⟨by omega, by rw [HX.out]; exact hx0, fun l hl => by simpa using hl, by have := HXb.out; rw [HX.out]; simp; omega⟩, (Below.refl _ _).alloc (Nat.le_refl _) _⟩
                case round =>
                  obtain ⟨v, rest, g, cap', rfl, rfl, hown, HV, hbv⟩ := hrel
                  by_cases hvc : v = c
                  · subst hvc
                    have hrl : rest.length ≤ 1000000000 := by have := HV.out.2.2.2; have := HV.out.2.1; omega
                    obtain ⟨hA, hcap, hcap2⟩ := own_arr hown (by omega)
                    have hW : Way ts size s.tk v (12 + st) (v :: rest) := by simpa using HV.out.2.2.1 [v] .start
                    have HW := Lib.hid hW
                    have hwq := hbv.size
                    have h3lt := h3'.lt
                    have hgB := (hown.lt g rfl)
                    clear hW hown
                    go_wp2_with fail
                    refine (reverse_any g (rest.length + 1) cap' _ wr hA hcap hcap2 (by omega)).mono ?_
                    rintro e w1 ⟨rfl, hA1, hgr⟩
                    have hb1 : Below wq.heap.size wq w1 := hbv.grown hgr hwq (fun k hk => by cases hk; exact hgB.1)
                    have cE1 := (hb1.cell (p := ⟨w.heap.size, 12 + st, none⟩) (by dsimp only; omega)).trans cE
                    have hR : ArrRes ts v k size st w (.returned (.tuple #[.int .i64 X, .slice (some ⟨g, 0, none⟩) (rest.length + 1) cap', .bool true])) w1 := by
                      refine ⟨X, (v :: rest).map (fun q : Nat => (q : Int)), true, some ⟨g, 0, none⟩, cap', ⟨s.tk, HE.out, .inr ⟨by rw [HX.out]; exact hx0, HX.out.symm, rfl, v :: rest, HW.out, rfl⟩⟩, by simp, ?_, hbw'.trans (hb1.mono hbw'.size)⟩
                      simpa using rev_sl hA1 hcap hcap2 (by simp)
                    have HRR := Lib.hid hR
                    clear hR hA1 hA
                    go_wp2
                    go_ret3
                    exact HRR.out
                  · have hvcI : ((v : Int) != (c : Int)) = true := by simp; omega
                    obtain ⟨m, hm, hlp⟩ := HP.out v hvc HV.out.2.1
                    have cf := (h3'.below hbv h3'.lt).f.at_ (i := v) HV.out.1
                    rw [hm] at cf
                    have hv21 : (v : Int) < 21 := by have := HV.out.1; omega
                    have hwq := hbv.size
                    have h3lt := h3'.lt
                    have hop := hlp.hop
                    obtain ⟨t, ht, hop⟩ := hop
                    have hgt := hop.gt (hF t ht) hs1
                    have HV' : Hid (m < 21 ∧ 0 ≤ s.tk m ∧ (∀ l, Way ts size s.tk c m l → Way ts size s.tk c (12 + st) (l ++ (v :: rest))) ∧ ((v :: rest).length : Int) + s.tk m ≤ 1000000000) := by
                      refine ⟨by omega, hlp.pos, fun l hl => ?_, ?_⟩
                      · have := HV.out.2.2.1 _ (Way.step m v l hvc hlp hl)
                        simpa using this
                      · have := HV.out.2.2.2; simp; omega
                    have Hlt : Hid (s.tk m < s.tk v ∧ 0 ≤ s.tk m) := ⟨hgt.1, hlp.pos⟩
                    have hr1 : rest.length ≤ 1000000000 := by have := HV.out.2.2.2; have := HV.out.2.1; omega
                    clear hop hgt hlp hm
                    go_wp2_with (at_builtin; refine wpList_append_own _ rfl _ _ 27 rfl wq.heap.size 3 i0 (.int .i64 0) 1 8 (by kernel_rfl) hi hz0 hz1 hz2 rfl (by decide) _ _ _ rfl (hown.alloc _) ⟨wr.heap.size, 0, none⟩ 1 1 [.int .i64 m] rfl rfl (cell_one_new _ _ _) ?c2 ?c3 ?c4 ?c5 ?_)
                    case c2 => simp [Value.oneCell']
                    case c3 => unfold maxLen; omega
                    case c4 => omega
                    case c5 => simp; omega
                    intro v' w1 hown' hgrow hnil
                    obtain ⟨g', cap2, rfl, hg1, hg2⟩ := hown'.form (by omega)
                    have hb1 : Below wq.heap.size wq w1 := Below.grown (hbv.alloc (by omega) (.cells #[.int .i64 m] 3)) hgrow (by simp; omega) (fun k hk => (hown.alloc (.cells #[.int .i64 m] 3)).lt k hk |>.1)
                    have hown2 : w1.ownsRow wq.heap.size 3 1 (.slice (some ⟨g', 0, none⟩) ((v :: rest).length + 1) cap2) ((v :: rest).length + 1) (((m :: v :: rest).reverse).map (fun q : Nat => Value.int .i64 q)) := by
                      simpa using hown'
                    clear hown' hgrow hnil hown
                    go_wp2
                    go_roundw
                    case rel => exact ⟨m, v :: rest, g', cap2, rfl, rfl, hown2, HV', hb1⟩
                    case measure => have := Hlt.out; simp [intOf]; omega
            · have hN : N = m := HN.out.trans e1
              subst hN
              have hM : DInv ts c k size (fun u _ => u ≠ m) (markD s m) ∧ (markD s m).dn m = true ∧ ∀ u, (markD s m).dn u = true → (markD s m).tk u ≤ (markD s m).tk m := by
                rcases Hs.out with e | hD
                · rw [e] at e3
                  obtain rfl := startD_pick e3
                  rw [e]; exact startD_mark ts _ k size (by omega) hk0
                · exact hD.mark hk0 e3 e4 (fun n hn hd => by
                    rcases Nat.lt_or_ge n 21 with h1 | h1
                    · exact e5 n h1 hn hd
                    · exact absurd (hD.out n h1) hn)
              have hR := roundD_all hF hs1 hk0 hM.1 hM.2.2
              have hU := undone_lt e2 e4
              have HM := Lib.hid hM
              have HR := Lib.hid hR
              have HU := Lib.hid hU
              clear hM hR hU e1 e3 e4 e5 HN HHi Hs
              have hmI : (m : Int) < 21 := by omega
              have hm1 : ((m : Int) == -1) = false := by simp
              have cD := h3'.d.at_ e2
              have fD := Arr.free h3'.d m
              have h4 : Three (wq.setCell ⟨w.heap.size + 1 + 1, m, none⟩ (.bool true)) w.heap.size (markD s m) :=
                ⟨Arr.far h3'.a (by dsimp only; omega) _, Arr.far h3'.f (by dsimp only; omega) _, ArrB.set h3'.d e2 true⟩
              have hb4 := hbw'.setCell (p := ⟨w.heap.size + 1 + 1, m, none⟩) (by dsimp only; omega) (.bool true)
              clear h3' hbw'
              go_wp2
              obtain ⟨ws, hws⟩ : ∃ ws, wq.setCell ⟨w.heap.size + 1 + 1, m, none⟩ (.bool true) = ws := ⟨_, rfl⟩
              rw [hws] at h4 hb4 ⊢
              clear hws cD fD
              go_loopw [20, 21, 22, 23, 72] (fun _ _ _ _ i wr => ∃ q : Nat, q ≤ n ∧ i = .int .i64 q ∧ Three wr w.heap.size ((ts.take q).foldl (relaxD size m) (markD s m)) ∧ Below w.heap.size w wr) (fun _ _ _ _ i _ => n - (intOf i).toNat)
              case atStart => exact ⟨0, by omega, rfl, h4, hb4⟩
              case round =>
                clear h4 hb4
                obtain ⟨q, hq, rfl, h3, hbw⟩ := hrel
                by_cases hlt : q < n
                · obtain ⟨b, o, t, rfl, hb, ht, hW⟩ := h.win hlt
                  have hFt := hF t (List.mem_of_getElem? ht)
                  have HS : Hid ((ts.take (q + 1)).foldl (relaxD size m) (markD s m) = relaxD size m ((ts.take q).foldl (relaxD size m) (markD s m)) t) := by
                    rw [Hid, take_snoc ht, List.foldl_append]; rfl
                  have hpre := HM.out.1.upto_ hF hs1 hk0 HM.out.2.1 HM.out.2.2 (ts.take q) (fun _ hx => List.mem_of_mem_take hx)
                  generalize (ts.take q).foldl (relaxD size m) (markD s m) = S at *
                  obtain ⟨p1, p2, p3⟩ := hpre
                  have hSm : 0 ≤ S.tk m ∧ S.tk m ≤ 1000000000 := ⟨p1.pos m (by rw [p2]; exact HM.out.2.1), (p1.hi hF hs1 hk1 hk0 m).2⟩
                  have hhi := p1.hi hF hs1 hk1 hk0
                  have hdm : S.dn m = true := by rw [p2]; exact HM.out.2.1
                  have HO := other_nat (u := m) hFt
                  have Hbd := win_bds hFt
                  have HFT := Lib.hid hFt
                  have Hhi := Lib.hid hhi
                  clear p1 p2 p3 ht hhi
                  obtain ⟨c0, c1, c2, c3, c4, c5⟩ := hW wr (hbw.mono hB)
                  have hwsz := hbw.size
                  have h3lt := h3.lt
                  go_wp2_with fail
                  refine (other_any t m _ HFT.out).mono ?_
                  rintro e w1 ⟨rfl, hb⟩
                  clear c0 c1 c2 c3 c4 c5 hW
                  have hb1 : Below wr.heap.size wr w1 := ((Below.refl _ _).alloc (Nat.le_refl _) _).trans (hb.mono (by simp))
                  obtain ⟨hcc, hff⟩ := bcell hb
                  simp only [World.size_alloc] at hcc hff
                  have c3 : w1.cell? ⟨wr.heap.size, 3, none⟩ = some (.int .i64 t.lo) := by rw [hcc _ _ (by omega)]; simp
                  have c4 : w1.cell? ⟨wr.heap.size, 4, none⟩ = some (.int .i64 t.hi) := by rw [hcc _ _ (by omega)]; simp
                  have c5 : w1.cell? ⟨wr.heap.size, 5, none⟩ = some (.int .i64 t.rate) := by rw [hcc _ _ (by omega)]; simp
                  have hG : wr.heap.size < w1.heap.size := by have := hb.size; simp at this; omega
                  clear hcc hff hb
                  have h31 := h3.below hb1 h3lt
                  have hbw1 := hbw.trans (hb1.mono hwsz)
                  clear h3 hbw hb1
                  by_cases hok : (t.other m).2 = false
                  · have HT : Three w1 w.heap.size ((ts.take (q + 1)).foldl (relaxD size m) (markD s m)) := by rw [HS.out, relaxD, if_pos hok]; exact h31
                    rw [hok]
                    generalize (t.other m).1 = vv
                    clear h31 HO
                    go_wp2
                    go_roundw
                    case rel => (repeat apply Exists.intro); exact ⟨⟨q + 1, by omega, by go_num, HT, hbw1⟩, rfl⟩
                    case measure => simp [intOf]; omega
                  · have ho := HO hok
                    obtain ⟨v, hv⟩ : ∃ v, (t.other (m : Int)).1.toNat = v := ⟨_, rfl⟩
                    rw [hv] at ho
                    obtain ⟨hr1, hm12, hv21, hmv⟩ := other_link HFT.out ho
                    have HR1 := relaxD_go (s := S) (size := size) ho
                    rw [ho]
                    clear HO hv hok
                    have hvI : (v : Int) < 21 := by omega
                    obtain ⟨x, hx⟩ : ∃ x, hopEnd S size m t = x := ⟨_, rfl⟩
                    rw [hx] at HR1
                    have HX : Hid (max (S.tk m) t.lo + (size + t.rate - 1) / t.rate = x) := by rw [Hid, ← hx, hopEnd, ceil_eq hr1]
                    have Hcb := ceil_bd (a := size) (b := t.rate) (by omega) (by omega)
                    rw [← ceil_eq hr1] at Hcb
                    clear hx
                    have cm := h31.a.at_ e2
                    have cv := h31.a.at_ hv21
                    have cfv := h31.f.at_ hv21
                    have cdv := h31.d.at_ hv21
                    obtain ⟨T, hT⟩ : ∃ T, S.tk m = T := ⟨_, rfl⟩
                    obtain ⟨y, hy⟩ : ∃ T, S.tk v = T := ⟨_, rfl⟩
                    obtain ⟨z, hz⟩ : ∃ T, S.fr v = T := ⟨_, rfl⟩
                    obtain ⟨d, hd⟩ : ∃ T, S.dn v = T := ⟨_, rfl⟩
                    rw [hT] at cm HX hSm
                    rw [hy] at cv HR1
                    rw [hz] at cfv HR1
                    rw [hd] at cdv HR1
                    obtain ⟨D, hD⟩ : ∃ D, (size + t.rate - 1) / t.rate = D := ⟨_, rfl⟩
                    rw [hD] at Hcb HX
                    have HR2 := Lib.hid HR1
                    clear HR1 hT hy hz hd
                    have g0 := Gr.cell (H := w1.heap.size) cm (by dsimp only; omega)
                    have g3 := Gr.cell (H := w1.heap.size) c3 (by dsimp only; omega)
                    have g5 := Gr.cell (H := w1.heap.size) c5 (by dsimp only; omega)
                    clear c3 c5 cm
                    go_wp2
                    refine wp_region_gr w1.heap.size (by kernel_rfl) (by kernel_rfl) ?_
                    repeat (go_big_quiet_step (fail))
                    refine wpQuiet_nil ?_
                    rintro w2 ⟨gg, hgg⟩
                    have hb2 : Below w1.heap.size w1 w2 := by rw [hgg]; exact Gr.below
                    have h32 := h31.below hb2 (by have := hbw1.size; omega)
                    have hbw2 := hbw1.trans (hb2.mono hbw1.size)
                    have c4 := (hb2.cell (p := ⟨wr.heap.size, 4, none⟩) (by dsimp only; omega)).trans c4
                    have cv := (hb2.cell (p := ⟨w.heap.size, v, none⟩) (by dsimp only; omega)).trans cv
                    have cfv := (hb2.cell (p := ⟨w.heap.size + 1, v, none⟩) (by dsimp only; omega)).trans cfv
                    have cdv := (hb2.cell (p := ⟨w.heap.size + 1 + 1, v, none⟩) (by dsimp only; omega)).trans cdv
                    clear hgg g0 g3 g5 hb2 h31 hbw1
                    obtain ⟨MX, hMX⟩ : ∃ MX, (if T < t.lo then t.lo else T) = MX := ⟨_, rfl⟩
                    have hxe : MX + D = x := by
                      rw [← HX.out, ← hMX]; split <;> omega
                    rw [hMX, hxe]
                    clear hxe HX hD hMX
                    have same : relaxV m S t v x y z d = S → Hid (Three w2 w.heap.size ((ts.take (q + 1)).foldl (relaxD size m) (markD s m))) := fun e => by
                      rw [Hid, HS.out, HR2.out, e]; exact h32
                    have fv := Arr.free h32.a v
                    have ffv := Arr.free h32.f v
                    have diff : relaxV m S t v x y z d = { tk := upd S.tk v x, fr := upd S.fr v m, dn := S.dn } → Hid (Three ((w2.setCell ⟨w.heap.size, v, none⟩ (.int .i64 x)).setCell ⟨w.heap.size + 1, v, none⟩ (.int .i64 m)) w.heap.size ((ts.take (q + 1)).foldl (relaxD size m) (markD s m))) := fun e => by
                      rw [Hid, HS.out, HR2.out, e]; exact h32.turn hv21
                    by_cases k1 : t.hi < x
                    · have HT := same (by unfold relaxV; rw [if_pos (.inl k1)])
                      clear same diff h32
                      go_wp2
                      go_roundw
                      case rel => first | exact ⟨q + 1, by omega, by go_num, HT.out, hbw2⟩ | ((repeat apply Exists.intro); exact ⟨⟨q + 1, by omega, by go_num, HT.out, hbw2⟩, rfl⟩) | exact ⟨_, _, _, _, _, ⟨q + 1, by omega, by go_num, HT.out, hbw2⟩, rfl, rfl, rfl, rfl, rfl⟩ | exact ⟨_, _, _, _, _, ⟨q + 1, by omega, by go_num, HT.out⟩, rfl, rfl, rfl, rfl, rfl⟩
                      case measure => simp [intOf]; omega
                    · cases d with
                      | true =>
                        have HT := same (by unfold relaxV; rw [if_pos (.inr rfl)])
                        clear same diff h32
                        go_wp2
                        go_roundw
                        case rel => first | exact ⟨q + 1, by omega, by go_num, HT.out, hbw2⟩ | ((repeat apply Exists.intro); exact ⟨⟨q + 1, by omega, by go_num, HT.out, hbw2⟩, rfl⟩) | exact ⟨_, _, _, _, _, ⟨q + 1, by omega, by go_num, HT.out, hbw2⟩, rfl, rfl, rfl, rfl, rfl⟩ | exact ⟨_, _, _, _, _, ⟨q + 1, by omega, by go_num, HT.out⟩, rfl, rfl, rfl, rfl, rfl⟩
                        case measure => simp [intOf]; omega
                      | false =>
                        have hno : ¬ (t.hi < x ∨ false = true) := by simp; omega
                        by_cases k2 : y = -1
                        · subst k2
                          have HT := diff (by unfold relaxV; rw [if_neg hno, if_pos (.inl rfl)])
                          clear same diff h32
                          go_wp2
                          go_roundw
                          case rel => first | exact ⟨q + 1, by omega, by go_num, HT.out, ((hbw2.setCell (p := ⟨w.heap.size, v, none⟩) (Nat.le_refl _) _).setCell (p := ⟨w.heap.size + 1, v, none⟩) (by dsimp only; omega) _)⟩ | ((repeat apply Exists.intro); exact ⟨⟨q + 1, by omega, by go_num, HT.out, ((hbw2.setCell (p := ⟨w.heap.size, v, none⟩) (Nat.le_refl _) _).setCell (p := ⟨w.heap.size + 1, v, none⟩) (by dsimp only; omega) _)⟩, rfl⟩) | exact ⟨_, _, _, _, _, ⟨q + 1, by omega, by go_num, HT.out, ((hbw2.setCell (p := ⟨w.heap.size, v, none⟩) (Nat.le_refl _) _).setCell (p := ⟨w.heap.size + 1, v, none⟩) (by dsimp only; omega) _)⟩, rfl, rfl, rfl, rfl, rfl⟩
                          case measure => simp [intOf]; omega
                        · have k2b : (y == -1) = false := by simpa using k2
                          by_cases k3 : x < y
                          · have HT := diff (by unfold relaxV; rw [if_neg hno, if_pos (.inr (.inl k3))])
                            clear same diff h32
                            go_wp2
                            go_roundw
                            case rel => first | exact ⟨q + 1, by omega, by go_num, HT.out, ((hbw2.setCell (p := ⟨w.heap.size, v, none⟩) (Nat.le_refl _) _).setCell (p := ⟨w.heap.size + 1, v, none⟩) (by dsimp only; omega) _)⟩ | ((repeat apply Exists.intro); exact ⟨⟨q + 1, by omega, by go_num, HT.out, ((hbw2.setCell (p := ⟨w.heap.size, v, none⟩) (Nat.le_refl _) _).setCell (p := ⟨w.heap.size + 1, v, none⟩) (by dsimp only; omega) _)⟩, rfl⟩) | exact ⟨_, _, _, _, _, ⟨q + 1, by omega, by go_num, HT.out, ((hbw2.setCell (p := ⟨w.heap.size, v, none⟩) (Nat.le_refl _) _).setCell (p := ⟨w.heap.size + 1, v, none⟩) (by dsimp only; omega) _)⟩, rfl, rfl, rfl, rfl, rfl⟩
                            case measure => simp [intOf]; omega
                          · by_cases k4 : x = y
                            · subst k4
                              by_cases k5 : (m : Int) < z
                              · have HT := diff (by unfold relaxV; rw [if_neg hno, if_pos (.inr (.inr ⟨rfl, k5⟩))])
                                clear same diff h32
                                go_wp2
                                go_roundw
                                case rel => first | exact ⟨q + 1, by omega, by go_num, HT.out, ((hbw2.setCell (p := ⟨w.heap.size, v, none⟩) (Nat.le_refl _) _).setCell (p := ⟨w.heap.size + 1, v, none⟩) (by dsimp only; omega) _)⟩ | ((repeat apply Exists.intro); exact ⟨⟨q + 1, by omega, by go_num, HT.out, ((hbw2.setCell (p := ⟨w.heap.size, v, none⟩) (Nat.le_refl _) _).setCell (p := ⟨w.heap.size + 1, v, none⟩) (by dsimp only; omega) _)⟩, rfl⟩) | exact ⟨_, _, _, _, _, ⟨q + 1, by omega, by go_num, HT.out, ((hbw2.setCell (p := ⟨w.heap.size, v, none⟩) (Nat.le_refl _) _).setCell (p := ⟨w.heap.size + 1, v, none⟩) (by dsimp only; omega) _)⟩, rfl, rfl, rfl, rfl, rfl⟩
                                case measure => simp [intOf]; omega
                              · have HT := same (by unfold relaxV; rw [if_neg hno, if_neg]; rintro (h1 | h1 | h1); exact k2 h1; exact k3 h1; exact k5 h1.2)
                                clear same diff h32
                                go_wp2
                                go_roundw
                                case rel => first | exact ⟨q + 1, by omega, by go_num, HT.out, hbw2⟩ | ((repeat apply Exists.intro); exact ⟨⟨q + 1, by omega, by go_num, HT.out, hbw2⟩, rfl⟩) | exact ⟨_, _, _, _, _, ⟨q + 1, by omega, by go_num, HT.out, hbw2⟩, rfl, rfl, rfl, rfl, rfl⟩ | exact ⟨_, _, _, _, _, ⟨q + 1, by omega, by go_num, HT.out⟩, rfl, rfl, rfl, rfl, rfl⟩
                                case measure => simp [intOf]; omega
                            · have k4b : (x == y) = false := by simpa using k4
                              have HT := same (by unfold relaxV; rw [if_neg hno, if_neg]; rintro (h1 | h1 | h1); exact k2 h1; exact k3 h1; exact k4 h1.1)
                              clear same diff h32
                              go_wp2
                              go_roundw
                              case rel => first | exact ⟨q + 1, by omega, by go_num, HT.out, hbw2⟩ | ((repeat apply Exists.intro); exact ⟨⟨q + 1, by omega, by go_num, HT.out, hbw2⟩, rfl⟩) | exact ⟨_, _, _, _, _, ⟨q + 1, by omega, by go_num, HT.out, hbw2⟩, rfl, rfl, rfl, rfl, rfl⟩ | exact ⟨_, _, _, _, _, ⟨q + 1, by omega, by go_num, HT.out⟩, rfl, rfl, rfl, rfl, rfl⟩
                              case measure => simp [intOf]; omega
                · obtain rfl : q = n := by omega
                  have hfin : (ts.take q).foldl (relaxD size m) (markD s m) = roundD ts size s m := by
                    rw [List.take_of_length_le (by have := h.len; omega)]; rfl
                  rw [hfin] at h3
                  have HDN : Hid (undone (roundD ts size s m).dn < gk) := by
                    rw [Hid, HR.out.2, ← Hgk.out]; exact HU.out
                  go_wp2
                  go_roundg (undone (roundD ts size s m).dn)
                  case rel => exact ⟨roundD ts size s m, rfl, .inr HR.out.1, h3, hbw⟩
                  case measure => exact HDN.out

end Go.Proofs.Ytijocgijnbcefaa
