/-
  The walks of the laws on words, 1.
-/
import Derived.Test.YtfcfibagkenjdaaDoorTkRefH
set_option linter.unusedVariables false
namespace Go.Proofs.YtfcfibagkenjdaaDoor
open Go.RowKit

theorem words_size (l : List UInt8) : (Tk.words l).length ≤ l.length + 1 := Tk.words_count l.length l [] (Nat.le_refl _)

set_option maxRecDepth 4000 in
set_option maxHeartbeats 800000 in
theorem folds_true (s : ByteArray) (hs : s.size ≤ 140737488351232) (w : World) (hT : U8 w) :
    Calls Tryd.prog 3 #[.string s] w fun e w' => e = .returned (.bool true) ∧ Keeps w w' := by
  have hst := str_toList
  have h1 := Lib.hid (fun w => tk_fold s (by omega) w)
  have h2 := Lib.hid (fun w => ref_fold s (by omega) w)
  obtain ⟨F, hF⟩ : ∃ F, Tk.fold s.data.toList = F := ⟨_, rfl⟩
  rw [hF] at h1 h2
  clear hs hF
  have hb : (F == F) = true := beq_self_eq_true F
  go_enter Tryd.func3, Tryd.ntmps3
  go_wp2_with fail
  refine (h1.out _).mono ?_
  rintro e w1 ⟨rfl, hk1⟩
  go_wp2_with fail
  refine (h2.out _).mono ?_
  rintro e w2 ⟨rfl, hk2⟩
  go_wp2_with fail
  refine (tk_live _ (hT.keeps (hk1.trans hk2))).mono ?_
  rintro e w3 ⟨rfl, hk3⟩
  go_wp2_with fail
  go_ret
  exact ⟨rfl, (hk1.trans hk2).trans hk3⟩

set_option maxRecDepth 4000 in
set_option maxHeartbeats 800000 in
theorem words_true (s : ByteArray) (hs : s.size ≤ 1048576) (w : World) (hT : U8 w) :
    Calls Tryd.prog 4 #[.string s] w fun e w' => e = .returned (.bool true) ∧ Keeps w w' := by
  have hn : (Tk.words s.data.toList).length ≤ 2 ^ 40 := by have := words_size s.data.toList; simp at this; omega
  have h1 := Lib.hid (fun w hT => tk_words s (by omega) hn w hT)
  have h2 := Lib.hid (fun w hT => ref_words s (by omega) hn w hT)
  obtain ⟨L, hL⟩ : ∃ L, Tk.words s.data.toList = L := ⟨_, rfl⟩
  rw [hL] at h1 h2 hn
  have HN := Lib.hid hn
  clear hs hL hn
  go_enter Tryd.func4, Tryd.ntmps4
  go_wp2_with fail
  refine (h1.out _ hT).mono ?_
  rintro e w1 ⟨v1, rfl, ho1, hk1⟩
  have hs1 := Lib.hid (Strs.of_own ho1)
  clear ho1
  go_wp2_with fail
  refine (h2.out _ (hT.keeps hk1)).mono ?_
  rintro e w2 ⟨v2, rfl, ho2, hk2⟩
  have hs2 := Lib.hid (Strs.of_own ho2)
  clear ho2
  go_wp2_with fail
  refine (ref_same _ _ L L (by have := HN.out; omega) _ (hs1.out.keeps hk2) hs2.out).mono ?_
  rintro e w3 ⟨rfl, hk3⟩
  rw [show decide (L = L) = true by simp]
  have hk := (hk1.trans hk2).trans hk3
  go_wp2_with fail
  refine (tk_live _ (hT.keeps hk)).mono ?_
  rintro e w4 ⟨rfl, hk4⟩
  go_wp2_with fail
  go_ret
  exact ⟨rfl, hk.trans hk4⟩

set_option maxRecDepth 4000 in
set_option maxHeartbeats 800000 in
theorem has_true (s : ByteArray) (hs : s.size ≤ 1048576) (t : ByteArray) (ht : t.size ≤ 140737488351232) (w : World) (hT : U8 w) :
    Calls Tryd.prog 5 #[.string s, .string t] w fun e w' => e = .returned (.bool true) ∧ Keeps w w' := by
  have hn : (Tk.words s.data.toList).length ≤ 2 ^ 40 := by have := words_size s.data.toList; simp at this; omega
  have h1 := Lib.hid (fun w hT => tk_has s (by omega) t (by omega) w hT)
  have h2 := Lib.hid (fun w hT => ref_has s (by omega) hn t (by omega) w hT)
  obtain ⟨b, hb⟩ : ∃ b, decide (Tk.fold t.data.toList ∈ Tk.words s.data.toList) = b := ⟨_, rfl⟩
  rw [hb] at h1 h2
  clear hs hb hn ht
  have hbb : (b == b) = true := beq_self_eq_true b
  go_enter Tryd.func5, Tryd.ntmps5
  go_wp2_with fail
  refine (h1.out _ hT).mono ?_
  rintro e w1 ⟨rfl, hk1⟩
  go_wp2_with fail
  refine (h2.out _ (hT.keeps hk1)).mono ?_
  rintro e w2 ⟨rfl, hk2⟩
  have hk := hk1.trans hk2
  go_wp2_with fail
  refine (tk_live _ (hT.keeps hk)).mono ?_
  rintro e w3 ⟨rfl, hk3⟩
  go_wp2_with fail
  go_ret
  exact ⟨rfl, hk.trans hk3⟩
end Go.Proofs.YtfcfibagkenjdaaDoor
