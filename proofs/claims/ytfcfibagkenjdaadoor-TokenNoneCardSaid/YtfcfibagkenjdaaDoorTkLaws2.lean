/-
  The walks of the laws on words, 2.
-/
import Derived.Test.YtfcfibagkenjdaaDoorTkLaws
set_option linter.unusedVariables false
namespace Go.Proofs.YtfcfibagkenjdaaDoor
open Go.RowKit

/-- no letter up to a place -/
def NoneTo (F : List UInt8) (k : Nat) : Prop := ∀ j, j < k → ∀ b, F[j]? = some b → b.toNat < 128 ∧ Tk.asc b.toNat = false
theorem NoneTo.more {F : List UInt8} {k : Nat} (h : NoneTo F k) {b : UInt8} (hb : F[k]? = some b) (h1 : b.toNat < 128) (h2 : Tk.asc b.toNat = false) : NoneTo F (k + 1) := by
  intro j hj c hc
  by_cases hjk : j = k
  · subst hjk; rw [hb] at hc; cases hc; exact ⟨h1, h2⟩
  · exact h j (by omega) c hc

set_option maxRecDepth 4000 in
set_option maxHeartbeats 1600000 in
theorem none_true (s : ByteArray) (hs : s.size ≤ 140737488351232) (w : World) (hT : U8 w) :
    Calls Tryd.prog 8 #[.string s] w fun e w' => e = .returned (.bool true) ∧ Keeps w w' := by
  have hst := str_toList
  have hss := str_size
  have hlen := Tk.fold_length s.data.toList
  have hff := Tk.fold_fold s.data.toList
  have hfw := Tk.words_fold s.data.toList
  have hup : ∀ b ∈ Tk.fold s.data.toList, ¬ (65 ≤ b.toNat ∧ b.toNat ≤ 90) := by
    intro b hb
    obtain ⟨c, _, rfl⟩ := List.mem_map.1 hb
    rw [Tk.up_nat]; split <;> omega
  have h1 := Lib.hid (fun w => tk_fold s (by omega) w)
  have hW := Lib.hid (fun hn w hT => tk_words s (by omega) hn w hT)
  rw [← hfw] at hW
  have hl2 : s.data.toList.length = s.size := by simp
  rw [hl2] at hlen
  obtain ⟨F, hF⟩ : ∃ F, Tk.fold s.data.toList = F := ⟨_, rfl⟩
  rw [hF] at h1 hW hlen hff hup
  obtain ⟨n, hn⟩ : ∃ n, s.size = n := ⟨_, rfl⟩
  rw [hn] at hlen hs
  have h2 := fun w => tk_fold (str F) (by rw [str_size]; omega) w
  rw [str_list, hff] at h2
  have h2 := Lib.hid h2
  have HL := Lib.hid hlen
  have HU := Lib.hid hup
  have HS := Lib.hid hs
  have hbb : (F == F) = true := beq_self_eq_true F
  have hnn : ((n : Int) == (n : Int)) = true := by simp
  have hdl : ((F.length : Int) == (n : Int)) = true := by rw [hlen]; simp
  clear hs hF hfw hl2 hff hup
  go_enter Tryd.func8, Tryd.ntmps8
  go_wp2_with fail
  refine (h1.out _).mono ?_
  rintro e w1 ⟨rfl, hk1⟩
  go_wp2_with fail
  refine (h2.out _).mono ?_
  rintro e w2 ⟨rfl, hk2⟩
  have hk := hk1.trans hk2
  have hT2 := hT.keeps hk
  go_wp2_with fail
  go_loop [4] (fun i => ∃ k : Nat, k ≤ n ∧ i = .int .i64 k ∧ NoneTo F k) (fun i => n - (intOf i).toNat)
  case atStart => exact ⟨0, by omega, rfl, fun j hj => by omega⟩
  case round =>
    obtain ⟨k, hkn, rfl, hno⟩ := hrel
    have HNO := Lib.hid hno
    have hS := HS.out
    have hL := HL.out
    clear hno
    by_cases hlt : k < n
    · have hkF : k < F.length := by omega
      have hkS : k < (str F).size := by rw [str_size]; exact hkF
      have hFk : F[k]? = some F[k] := List.getElem?_eq_getElem hkF
      have hget : (str F)[k]'hkS = F[k] := by
        rfl
      have hu := HU.out F[k] (List.getElem_mem hkF)
      have hu2 := UInt8.toNat_lt F[k]
      obtain ⟨b, hb⟩ : ∃ b, F[k] = b := ⟨_, rfl⟩
      rw [hb] at hFk hget hu hu2
      obtain ⟨c, hc⟩ : ∃ c, b.toNat = c := ⟨_, rfl⟩
      rw [hc] at hu hu2
      have hnext := fun h1 h2 => HNO.out.more hFk (by rw [hc]; exact h1) (by rw [hc]; exact h2)
      have HX := Lib.hid hnext
      clear hnext hb hFk
      have hcase : (decide ((97 : Int) ≤ (c : Int)) = true ∧ decide ((c : Int) ≤ 122) = true) ∨ (decide ((97 : Int) ≤ (c : Int)) = true ∧ decide ((c : Int) ≤ 122) = false ∧ decide ((48 : Int) ≤ (c : Int)) = true ∧ decide ((c : Int) ≤ 57) = false ∧ ((c : Int) == 95) = false ∧ decide ((127 : Int) < (c : Int)) = true) ∨ (decide ((97 : Int) ≤ (c : Int)) = true ∧ decide ((c : Int) ≤ 122) = false ∧ decide ((48 : Int) ≤ (c : Int)) = true ∧ decide ((c : Int) ≤ 57) = false ∧ ((c : Int) == 95) = false ∧ decide ((127 : Int) < (c : Int)) = false ∧ c < 128 ∧ Tk.asc c = false) ∨ (decide ((97 : Int) ≤ (c : Int)) = false ∧ decide ((48 : Int) ≤ (c : Int)) = true ∧ decide ((c : Int) ≤ 57) = true) ∨ (decide ((97 : Int) ≤ (c : Int)) = false ∧ decide ((48 : Int) ≤ (c : Int)) = true ∧ decide ((c : Int) ≤ 57) = false ∧ ((c : Int) == 95) = true) ∨ (decide ((97 : Int) ≤ (c : Int)) = false ∧ decide ((48 : Int) ≤ (c : Int)) = true ∧ decide ((c : Int) ≤ 57) = false ∧ ((c : Int) == 95) = false ∧ decide ((127 : Int) < (c : Int)) = false ∧ c < 128 ∧ Tk.asc c = false) ∨ (decide ((97 : Int) ≤ (c : Int)) = false ∧ decide ((48 : Int) ≤ (c : Int)) = false ∧ ((c : Int) == 95) = false ∧ decide ((127 : Int) < (c : Int)) = false ∧ c < 128 ∧ Tk.asc c = false)  := by
        unfold Tk.asc
        simp
        omega
      clear hu hu2
      rcases hcase with ⟨e0, e1⟩ | ⟨e0, e1, e2, e3, e4, e5⟩ | ⟨e0, e1, e2, e3, e4, e5, x1, x2⟩ | ⟨e0, e1, e2⟩ | ⟨e0, e1, e2, e3⟩ | ⟨e0, e1, e2, e3, e4, x1, x2⟩ | ⟨e0, e1, e2, e3, x1, x2⟩
      · go_wp2_with fail
        refine (tk_live _ hT2).mono ?_
        rintro e w3 ⟨rfl, hk3⟩
        go_wp2_with fail
        go_ret
        exact ⟨rfl, hk.trans hk3⟩
      · go_wp2_with fail
        refine (tk_live _ hT2).mono ?_
        rintro e w3 ⟨rfl, hk3⟩
        go_wp2_with fail
        go_ret
        exact ⟨rfl, hk.trans hk3⟩
      · have HX2 := Lib.hid (HX.out x1 x2)
        clear x1 x2
        go_wp2_with fail
        exact ⟨⟨k + 1, by omega, by go_num, HX2.out⟩, by simp [intOf]; omega⟩
      · go_wp2_with fail
        refine (tk_live _ hT2).mono ?_
        rintro e w3 ⟨rfl, hk3⟩
        go_wp2_with fail
        go_ret
        exact ⟨rfl, hk.trans hk3⟩
      · go_wp2_with fail
        refine (tk_live _ hT2).mono ?_
        rintro e w3 ⟨rfl, hk3⟩
        go_wp2_with fail
        go_ret
        exact ⟨rfl, hk.trans hk3⟩
      · have HX2 := Lib.hid (HX.out x1 x2)
        clear x1 x2
        go_wp2_with fail
        exact ⟨⟨k + 1, by omega, by go_num, HX2.out⟩, by simp [intOf]; omega⟩
      · have HX2 := Lib.hid (HX.out x1 x2)
        clear x1 x2
        go_wp2_with fail
        exact ⟨⟨k + 1, by omega, by go_num, HX2.out⟩, by simp [intOf]; omega⟩
    · obtain rfl : k = n := by omega
      have hz : Tk.words F = [] := Tk.words_none F (fun b hb => by
        obtain ⟨j, hj⟩ := List.getElem?_of_mem hb
        exact HNO.out j (by have := (List.getElem?_eq_some_iff.1 hj).1; omega) b hj)
      have hw := hW.out (by rw [hz]; simp) w2 hT2
      rw [hz] at hw
      have HW := Lib.hid hw
      clear hz hw
      go_wp2_with fail
      refine HW.out.mono ?_
      rintro e w3 ⟨v, rfl, ho, hk3⟩
      obtain ⟨ad, cap, rfl, _⟩ := Strs.of_own ho
      clear ho
      go_wp2_with fail
      refine (tk_live _ (hT2.keeps hk3)).mono ?_
      rintro e w4 ⟨rfl, hk4⟩
      go_wp2_with fail
      go_ret
      exact ⟨rfl, (hk.trans hk3).trans hk4⟩
end Go.Proofs.YtfcfibagkenjdaaDoor
