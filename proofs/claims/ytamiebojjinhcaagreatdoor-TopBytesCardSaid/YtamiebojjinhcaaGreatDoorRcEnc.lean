/-
  record.Encode: the walk.
-/
import Derived.Test.YtamiebojjinhcaaGreatDoorRcCheck
import Derived.Test.YtamiebojjinhcaaGreatDoorOwn
import Derived.Test.YtamiebojjinhcaaGreatDoorViTake
import Derived.Deep.RegionHeld3
import Derived.Deep.DrawnRows
set_option linter.unusedVariables false
namespace Go.Proofs.YtamiebojjinhcaaGreatDoor
open Go.RowKit

structure HS (w1 : World) (q : Nat) (u v : Value) (t : TypeId) (w' : World) : Prop where
  keeps : Keeps w1 w'
  blk : w'.heap[q]? = some (.cells #[u, v] t (0, 0))
theorem HS.cells {w1 w' : World} {q : Nat} {u v : Value} {t : TypeId} (h : HS w1 q u v t w') : w'.cell? ⟨q, 0, none⟩ = some u ∧ w'.cell? ⟨q, 1, none⟩ = some v := by
  constructor <;> (unfold World.cell?; rw [h.blk]; rfl)
theorem HS.step {w1 w' w'' : World} {q : Nat} {u v : Value} {t : TypeId} (h : HS w1 q u v t w') (k : Keeps w' w'') : HS w1 q u v t w'' :=
  ⟨h.keeps.trans k, (k.block (Array.getElem?_eq_some_iff.1 h.blk).1).trans h.blk⟩
theorem HS.wrote {w1 w' w'' : World} {q b : Nat} {u v : Value} {t : TypeId} (h : HS w1 q u v t w') (k : Wrote b w' w'') (hb : w1.heap.size ≤ b) (hq : q ≠ b) (ht : t ≠ 5) : HS w1 q u v t w'' :=
  ⟨k.keeps h.keeps hb, k.block h.blk hq ht⟩
theorem hall_take {hs : List (List UInt8 × List UInt8)} {j : Nat} {x : List UInt8 × List UInt8} (hx : hs[j]? = some x) : Rec.hall (hs.take j) ++ (Vi.text x.1 ++ Vi.text x.2) = Rec.hall (hs.take (j + 1)) := by
  rw [List.take_add_one, hx]; simp [Rec.hall, Rec.hbytes]
theorem take3_len {A T F : List UInt8} {j : Nat} (hA : A.length ≤ 10) (hT : T.length ≤ 10) (hF : F.length ≤ 10) : (([A, T, F].take j).flatten).length ≤ 30 := by
  match j with
  | 0 => simp
  | 1 => simp; omega
  | 2 => simp; omega
  | j + 3 => simp; omega

set_option maxRecDepth 4000 in
set_option maxHeartbeats 12000000 in
theorem rc_encode (r : Rec) (hv : Value) (w : World) (hh : PairsAt w hv r.hdrs) :
    Calls Tryz.prog 51 #[recV r hv] w fun e w' => e = retS r.enc ∧ Keeps w w' := by
  have HCK := Lib.hid (fun w hh => rc_check r hv w hh)
  cases hok : r.ok
  · have HE := Lib.hid (show r.enc = ([], 1) by unfold Rec.enc; rw [hok]; rfl)
    have hck : r.check = 1 := by unfold Rec.check; rw [hok]; rfl
    rw [hck] at HCK
    clear hok hck
    simp only [recV] at HCK ⊢
    go_enter Tryz.func51, Tryz.ntmps51
    go_wp2_with fail
    refine (HCK.out _ (hh.keeps ((Keeps.refl _).alloc _))).mono ?_
    rintro e w1 ⟨rfl, hk1⟩
    go_wp2_with fail
    go_ret2
    exact ⟨by rw [HE.out]; rfl, ((Keeps.refl _).alloc _).trans hk1⟩
  · have hck : r.check = 0 := by unfold Rec.check; rw [hok]; rfl
    have HE := Lib.hid (show r.enc = (r.bytes, 0) by unfold Rec.enc; rw [hok]; rfl)
    rw [hck] at HCK
    clear hck
    obtain ⟨a, t, b, k, g, v, hs⟩ := r
    obtain ⟨h0, h1, h2, h3, h4, h5, h6, h7⟩ := Rec.ok123 (show _ = true by unfold Rec.ok at hok; simp only [Bool.and_eq_true] at hok ⊢; exact hok.1)
    have HHO := Lib.hid (show ∀ (j : Nat) (x : List UInt8 × List UInt8), hs[j]? = some x → x.1.length ≤ 1000 ∧ x.2.length ≤ 1000 by
      intro j x hx
      have hall : hs.all Rec.hok = true := by unfold Rec.ok at hok; simp only [Bool.and_eq_true] at hok; exact hok.2
      have := Rec.hok_of (a := x.1) (b := x.2) (List.all_eq_true.1 hall x (List.mem_of_getElem? hx))
      exact ⟨this.2.1, this.2.2⟩)
    clear hok
    simp only [recV] at HCK ⊢
    obtain ⟨fl, hfl⟩ : ∃ fl, (Rec.mk a t b k g v hs).flags = fl := ⟨_, rfl⟩
    have hf3 := (Rec.mk a t b k g v hs).flags_bd
    obtain ⟨A, hA⟩ : ∃ A, Vi.put a = A := ⟨_, rfl⟩
    obtain ⟨T, hT⟩ : ∃ A, Vi.put t = A := ⟨_, rfl⟩
    obtain ⟨F, hF⟩ : ∃ A, Vi.put fl = A := ⟨_, rfl⟩
    obtain ⟨K, hK⟩ : ∃ A, Vi.text k = A := ⟨_, rfl⟩
    obtain ⟨V, hV⟩ : ∃ A, Vi.text v = A := ⟨_, rfl⟩
    obtain ⟨n, hn⟩ : ∃ n, hs.length = n := ⟨_, rfl⟩
    obtain ⟨N, hN⟩ : ∃ A, Vi.put (n : Int) = A := ⟨_, rfl⟩
    have HE := Lib.hid (show (Rec.mk a t b k g v hs).enc = (A ++ (T ++ (F ++ (K ++ (V ++ (N ++ Rec.hall hs))))), 0) by rw [HE.out]; unfold Rec.bytes; rw [hfl, hA, hT, hF, hK, hV, hn, hN])
    obtain ⟨ns, hns⟩ : ∃ ns, [a, t, fl] = ns := ⟨_, rfl⟩
    have HNS := Lib.hid hns
    rw [hfl] at hf3
    have hKl : K.length ≤ 1010 := by rw [← hK]; exact Vi.text_le h4
    have hVl : V.length ≤ 1010 := by rw [← hV]; exact Vi.text_le h5
    have hNl : N.length ≤ 10 := by rw [← hN]; exact Vi.put_length _
    have hAl := Lib.hid (show A.length ≤ 10 by rw [← hA]; exact Vi.put_length _)
    have hTl := Lib.hid (show T.length ≤ 10 by rw [← hT]; exact Vi.put_length _)
    have hFl := Lib.hid (show F.length ≤ 10 by rw [← hF]; exact Vi.put_length _)
    have PK := Lib.hid hK
    have PV := Lib.hid hV
    have PN := Lib.hid (fun w => put_at (n : Int) N (by omega) (by omega) hN w)
    have PI := Lib.hid (show ∀ (j : Nat) (x : Int) (w : World), ns[j]? = some x → ∃ X, Calls Tryz.prog 50 #[.int .i64 x] w (fun e w' => e = .returned (.string (str X)) ∧ Keeps w w') ∧ X.length ≤ 10 ∧ ([A, T, F].take j).flatten ++ X = ([A, T, F].take (j + 1)).flatten by
      intro j x w hj
      rw [← hns] at hj
      match j, hj with
      | 0, hj => simp at hj; subst hj; exact ⟨A, put_at _ A (by omega) (by omega) hA w, hAl.out, by simp⟩
      | 1, hj => simp at hj; subst hj; exact ⟨T, put_at _ T (by omega) (by omega) hT w, hTl.out, by simp⟩
      | 2, hj => simp at hj; subst hj; exact ⟨F, put_at _ F (by omega) (by omega) hF w, hFl.out, by simp⟩
      | j + 3, hj => simp at hj)
    have hap := str_append
    have hsz := str_size
    have ho1 : bits BinOp.or IntKind.i64 0 1 = 1 := by decide
    have ho2 : bits BinOp.or IntKind.i64 0 2 = 2 := by decide
    have hnl : ns.length = 3 := by rw [← hns]; rfl
    clear hns h0 h1 h2 h3 hf3 hA hT hF hK hV hN
    obtain ⟨ad, cap, rfl, had, hc⟩ := hh
    have HAD := Lib.hid had
    clear had
    rw [hn] at h6 HCK ⊢
    have HHC := Lib.hid hc
    have HHN := Lib.hid hn
    clear hn hc
    rcases h7 with ⟨rfl, -, rfl⟩ | ⟨rfl, rfl, -⟩ | ⟨rfl, rfl⟩
    all_goals
      simp only [Rec.flags, if_true, Bool.false_eq_true, if_false] at hfl
      first | rw [show (1 : Int) + 0 = 1 from rfl] at hfl | rw [show (0 : Int) + 2 = 2 from rfl] at hfl | rw [show (0 : Int) + 0 = 0 from rfl] at hfl
      subst hfl
      go_enter Tryz.func51, Tryz.ntmps51
      go_wp2_with fail
      refine (HCK.out _ ((show PairsAt w _ hs from ⟨ad, cap, by rw [HHN.out], HAD.out, HHC.out⟩).keeps ((Keeps.refl _).alloc _))).mono ?_
      rintro e w1 ⟨rfl, hk1⟩
      have hb0 := hk1.cell (cell_new w _ 56 0 _ rfl)
      have hb1 := hk1.cell (cell_new w _ 56 1 _ rfl)
      have hb2 := hk1.cell (cell_new w _ 56 2 _ rfl)
      have hb3 := hk1.cell (cell_new w _ 56 3 _ rfl)
      have hb4 := hk1.cell (cell_new w _ 56 4 _ rfl)
      have hb5 := hk1.cell (cell_new w _ 56 5 _ rfl)
      have hb6 := hk1.cell (cell_new w _ 56 6 _ rfl)
      have hlt1 : w.heap.size < w1.heap.size := by have := hk1.size; simp at this; omega
      have hne1 : ¬ w.heap.size = w1.heap.size := by omega
      have hkw := ((Keeps.refl w).alloc _).trans hk1
      go_wp2_with fail
      go_loopw [31] (fun i wr => ∃ j : Nat, j ≤ 3 ∧ i = .int .i64 j ∧ Bld wr w1.heap.size (([A, T, F].take j).flatten) ∧ Keeps w1 wr ∧ wr.heap[w1.heap.size + 1]? = some (.cells (ns.map (Value.int .i64)).toArray 3 (0, 0))) (fun i _ => 3 - (intOf i).toNat)
      case atStart => exact ⟨0, by omega, rfl, (Bld.new w1).keeps ((Keeps.refl _).alloc _), ((Keeps.refl _).alloc _).alloc _, by rw [← HNS.out]; exact heap_alloc_new2 _ _ _⟩
      case round =>
        obtain ⟨j, hj, rfl, hbl, hkr, hib⟩ := hrel
        by_cases hlt : j < 3
        · obtain ⟨x, hx⟩ : ∃ x, ns[j]? = some x := ⟨_, List.getElem?_eq_getElem (by rw [hnl]; exact hlt)⟩
          have hcx : wr.cell? ⟨w1.heap.size + 1, j, none⟩ = some (.int .i64 x) := cell_ints hib hx
          obtain ⟨X, hX, hXl, hXj⟩ := PI.out j x wr hx
          go_wp2_with fail
          refine hX.mono ?_
          rintro e w2 ⟨rfl, hk2⟩
          go_wp2_with fail
          refine (bld_write _ _ _ X (hbl.keeps hk2) (by have := take3_len (j := j) hAl.out hTl.out hFl.out; omega)).mono ?_
          rintro e w3 ⟨rfl, hbl3, hw3⟩
          rw [hXj] at hbl3
          have hib3 := hw3.block ((hk2.block (Array.getElem?_eq_some_iff.1 hib).1).trans hib) (by omega) (by decide)
          have hkr3 := hw3.keeps (hkr.trans hk2) (Nat.le_refl _)
          go_wp2_with fail
          exact ⟨⟨j + 1, by omega, by go_num, hbl3, hkr3, hib3⟩, by simp [intOf]; omega⟩
        · obtain rfl : j = 3 := by omega
          have hbl : Bld wr w1.heap.size (A ++ (T ++ F)) := by simpa using hbl
          have hbd := hbl.keeps (Keeps.refl wr).drew
          have hs1 : ¬ 9223372036854775807 < K.length + V.length := by omega
          have hs2 : ¬ 9223372036854775807 < K.length + V.length + N.length := by omega
          have hlen0 := Lib.hid (show (A ++ (T ++ F)).length + (K ++ (V ++ N)).length ≤ 140737488355328 by have := hAl.out; have := hTl.out; have := hFl.out; simp; omega)
          go_wp2_with fail
          go_region_held3 (fun w' => Keeps w1 w' ∧ w'.cell? ⟨w.heap.size, 3, none⟩ = some (.string (str k)) ∧ w'.cell? ⟨w.heap.size, 5, none⟩ = some (.string (str v)) ∧ w'.cell? ⟨w.heap.size, 6, none⟩ = some (.slice ad n cap)) ((first | exact ⟨hkr.drew, hkr.drew.cell hb3, hkr.drew.cell hb5, hkr.drew.cell hb6⟩ | (refine (fun hq => ⟨hq, Keeps.cell hq hb3, Keeps.cell hq hb5, Keeps.cell hq hb6⟩) ?_; first | exact Keeps.trans (And.left ‹Keeps w1 _ ∧ _›) (by assumption) | exact Wrote.keeps (by assumption) (And.left ‹Keeps w1 _ ∧ _›) (Nat.le_refl _)))) ((first | (go_at_call 69; refine (text_len _ (by assumption) _).mono ?_; rintro e w' ⟨rfl, hkn⟩; (first | rw [PK.out] | rw [PV.out]); have hbn := Bld.keeps (by assumption) hkn) | (go_at_call 50; refine (PN.out _).mono ?_; rintro e w' ⟨rfl, hkn⟩; have hbn := Bld.keeps (by assumption) hkn) | (go_at_call 76; refine (bld_write _ _ _ (K ++ (V ++ N)) (by assumption) hlen0.out).mono ?_; rintro e w' ⟨rfl, hbn, hwn⟩)))
          have hS := (‹Keeps w1 _ ∧ _›).1
          have hB := ‹Bld _ _ (A ++ (T ++ F) ++ (K ++ (V ++ N)))›
          obtain ⟨L0, hL0⟩ : ∃ L, A ++ (T ++ F) ++ (K ++ (V ++ N)) = L := ⟨_, rfl⟩
          have hL0l : L0.length ≤ 3000 := by rw [← hL0]; have := hAl.out; have := hTl.out; have := hFl.out; simp; omega
          rw [hL0] at hB
          have HL0l := Lib.hid hL0l
          have HL0 := Lib.hid (show A ++ (T ++ (F ++ (K ++ (V ++ (N ++ Rec.hall hs))))) = L0 ++ Rec.hall hs by rw [← hL0]; simp)
          clear hL0l hL0 hlen0 hs1 hs2 hb0 hb1 hb2 hb3 hb4 hb5 hbd hbl hib
          go_wp2_with fail
          go_loopw [55] (fun i wr => ∃ (j : Nat) (L : List UInt8), j ≤ n ∧ i = .int .i64 j ∧ Bld wr w1.heap.size L ∧ L = L0 ++ Rec.hall (hs.take j) ∧ L.length ≤ 3000 + 2020 * j ∧ Keeps w1 wr) (fun i _ => n - (intOf i).toNat)
          case atStart => exact ⟨0, L0, by omega, rfl, hB, by simp [Rec.hall], by have := HL0l.out; omega, hS⟩
          case round =>
            obtain ⟨j, L, hj, rfl, hbl, hL, hLl, hkr⟩ := hrel
            have HL := Lib.hid hL
            have HLl := Lib.hid hLl
            clear hL hLl
            by_cases hlt : j < n
            · obtain ⟨x, hx⟩ : ∃ x, hs[j]? = some x := ⟨_, List.getElem?_eq_getElem (by rw [HHN.out]; exact hlt)⟩
              obtain ⟨G, o, rfl, hc⟩ := HHC.out (by intro e; rw [e] at hx; simp at hx)
              have hc0 := (hkw.trans hkr).cell (hc j x hx).1
              have hc1 := (hkw.trans hkr).cell (hc j x hx).2
              obtain ⟨y0, y1⟩ := HHO.out j x hx
              have hjn := Lib.hid (hall_take hx)
              obtain ⟨x0, x1⟩ := x
              simp only at hc0 hc1 y0 y1 hjn
              obtain ⟨X0, hX0⟩ : ∃ A, Vi.text x0 = A := ⟨_, rfl⟩
              obtain ⟨X1, hX1⟩ : ∃ A, Vi.text x1 = A := ⟨_, rfl⟩
              have hX0l : X0.length ≤ 1010 := by rw [← hX0]; exact Vi.text_le y0
              have hX1l : X1.length ≤ 1010 := by rw [← hX1]; exact Vi.text_le y1
              have PX0 := Lib.hid hX0
              have PX1 := Lib.hid hX1
              rw [hX0, hX1] at hjn
              have hlen := Lib.hid (show L.length + (X0 ++ X1).length ≤ 140737488355328 by have := HLl.out; simp; omega)
              have hLn := Lib.hid (show (L ++ (X0 ++ X1)).length ≤ 3000 + 2020 * (j + 1) by have := HLl.out; simp; omega)
              have hLe := Lib.hid (show L ++ (X0 ++ X1) = L0 ++ Rec.hall (hs.take (j + 1)) by rw [HL.out, ← hjn.out]; simp)
              have hs1 : ¬ 9223372036854775807 < X0.length + X1.length := by omega
              have hlt2 : w1.heap.size < wr.heap.size := hbl.lt
              have hS0 : HS w1 wr.heap.size (.string (str x0)) (.string (str x1)) 81 ((wr.alloc (.cells #[.string (str x0), .string (str x1)] 81)).drew) := ⟨(hkr.alloc _).drew, heap_alloc_new wr _⟩
              have hbd := hbl.keeps ((Keeps.refl wr).alloc (.cells #[.string (str x0), .string (str x1)] 81)).drew
              clear hx hc hX0 hX1 hX0l hX1l
              go_wp2_with fail
              go_region_held3 (fun w' => HS w1 wr.heap.size (.string (str x0)) (.string (str x1)) 81 w' ∧ w'.cell? ⟨wr.heap.size, 0, none⟩ = some (.string (str x0)) ∧ w'.cell? ⟨wr.heap.size, 1, none⟩ = some (.string (str x1))) ((refine (fun hq => ⟨hq, HS.cells hq⟩) ?_; first | exact hS0 | exact HS.step (And.left ‹HS _ _ _ _ _ _ ∧ _›) (by assumption) | exact HS.wrote (And.left ‹HS _ _ _ _ _ _ ∧ _›) (by assumption) (Nat.le_refl _) (Nat.ne_of_gt hlt2) (by decide))) ((first | (go_at_call 69; refine (text_len _ (by assumption) _).mono ?_; rintro e w' ⟨rfl, hkn⟩; (first | rw [PX0.out] | rw [PX1.out]); have hbn := Bld.keeps (by assumption) hkn) | (go_at_call 76; refine (bld_write _ _ _ (X0 ++ X1) (by assumption) hlen.out).mono ?_; rintro e w' ⟨rfl, hbn, hwn⟩)))
              have hS2 := (‹HS _ _ _ _ _ _ ∧ _›).1.keeps
              have hB2 := ‹Bld _ _ (L ++ (X0 ++ X1))›
              go_wp2_with fail
              exact ⟨⟨j + 1, _, by omega, by go_num, hB2, hLe.out, hLn.out, hS2⟩, by simp [intOf]; omega⟩
            · obtain rfl : j = n := by omega
              have hfin := Lib.hid (show L = A ++ (T ++ (F ++ (K ++ (V ++ (N ++ Rec.hall hs))))) by rw [HL0.out, HL.out, List.take_of_length_le (by rw [HHN.out]; omega)])
              go_wp2_with fail
              refine (bld_string _ _ _ hbl).mono ?_
              rintro e w5 ⟨rfl, hw5⟩
              go_wp2_with fail
              go_ret2
              exact ⟨by rw [HE.out, hfin.out]; rfl, hkw.trans (hw5.keeps hkr (Nat.le_refl _))⟩
end Go.Proofs.YtamiebojjinhcaaGreatDoor
