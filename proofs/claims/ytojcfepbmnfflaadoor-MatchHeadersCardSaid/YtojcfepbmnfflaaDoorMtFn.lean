/-
  strings.HasPrefix, slices.IndexFunc, slices.ContainsFunc: the walks.
-/
import Derived.Test.YtojcfepbmnfflaaDoorMtPl
import Derived.Laws.EntriesVeiled
set_option linter.unusedVariables false
namespace Go.Proofs.YtojcfepbmnfflaaDoor
open Go.RowKit

theorem str_beq (a b : List UInt8) : ((str a).toList == (str b).toList) = (a == b) := by rw [str_toList, str_toList]
set_option maxRecDepth 4000 in
theorem has_prefix1 (k v : List UInt8) (w : World) : Calls Tryd.prog 42 #[.string (str k), .string (str v)] w fun e w' => e = .returned (.bool (Mt.pre k v)) ∧ w' = w := by
  have hsz := str_size
  have hst := str_toList
  have hex : (str k).extract 0 v.length = str (k.take v.length) := by
    rw [← str_of ((str k).extract 0 v.length), Lib.extract_data, str_list]; simp
  have hP := Lib.hid (show Mt.pre k v = (decide (v.length ≤ k.length) && (k.take v.length == v)) from rfl)
  by_cases h : v.length ≤ k.length
  · have hd : decide ((v.length : Int) ≤ (k.length : Int)) = true := by simpa using h
    have hd' : decide (v.length ≤ k.length) = true := by simpa using h
    have hP := Lib.hid (show Mt.pre k v = (k.take v.length == v) by rw [hP.out, hd', Bool.true_and])
    go_enter Tryd.func42, Tryd.ntmps42
    go_wp2_with fail
    go_ret
    exact ⟨by rw [hP.out]; rfl, rfl⟩
  · have hd : decide ((v.length : Int) ≤ (k.length : Int)) = false := by simpa using h
    have hd' : decide (v.length ≤ k.length) = false := by simpa using h
    have hP := Lib.hid (show Mt.pre k v = false by rw [hP.out, hd', Bool.false_and])
    clear h
    go_enter Tryd.func42, Tryd.ntmps42
    go_wp2_with fail
    go_ret
    exact ⟨by rw [hP.out]; rfl, rfl⟩
theorem has_prefix (k v : List UInt8) (w : World) : Calls Tryd.prog 35 #[.string (str k), .string (str v)] w fun e w' => e = .returned (.bool (Mt.pre k v)) ∧ w' = w := by
  go_enter Tryd.func35, Tryd.ntmps35
  go_wp2_with fail
  refine (has_prefix1 k v _).mono ?_
  rintro e w1 ⟨rfl, rfl⟩
  go_wp2_with fail
  go_ret
  exact ⟨rfl, rfl⟩

set_option maxRecDepth 4000 in
set_option maxHeartbeats 1600000 in
theorem index_pass (c : Value) (p : Tree → Bool) (ks : List Tree) (kv : Value) (w : World) (hk : KAt w kv ks)
    (hf : ∀ x ∈ ks, ∀ kx w', Keeps w w' → KAt w' kx x.kids → Calls Tryd.prog 31 #[treeV x kx, c] w' fun e w'' => e = .returned (.bool (p x)) ∧ Keeps w' w'') :
    Calls Tryd.prog 41 #[kv, .func (.func 31) #[] #[c]] w fun e w' => (∃ i : Int, e = .returned (.int .i64 i) ∧ decide (0 ≤ i) = ks.any p) ∧ Keeps w w' := by
  obtain ⟨n, hn⟩ : ∃ n, ks.length = n := ⟨_, rfl⟩
  have HNN := Lib.hid hn
  cases hk with
  | mk ad cap l kvs gg o hll h0 ha hcs hk =>
  have HA := Lib.hid ha
  have HC := Lib.hid hcs
  have HK := Lib.hid hk
  have HF := Lib.hid hf
  rw [hn] at hll ⊢
  clear ha hcs hk hn h0 hf
  go_enter Tryd.func41, Tryd.ntmps41
  go_wp2_with fail
  go_loopw [8] (fun i wr => ∃ j : Nat, j ≤ n ∧ i = .int .i64 j ∧ (ks.take j).any p = false ∧ Keeps w wr) (fun i _ => n - (intOf i).toNat)
  case atStart => exact ⟨0, by omega, rfl, by simp, Keeps.refl _⟩
  case round =>
    obtain ⟨j, hj, rfl, hall, hkr⟩ := hrel
    have HALL := Lib.hid hall
    clear hall
    by_cases hlt : j < n
    · obtain ⟨x, hx⟩ : ∃ x, ks[j]? = some x := ⟨_, List.getElem?_eq_getElem (by rw [HNN.out]; exact hlt)⟩
      obtain rfl := HA.out (by intro e; rw [e] at hx; simp at hx)
      obtain ⟨c0, c1, c2, c3⟩ := HC.out j x hx
      have c0 := hkr.cell c0
      have c1 := hkr.cell c1
      have c2 := hkr.cell c2
      have c3 := hkr.cell c3
      have hkx := HK.out j x hx
      obtain ⟨ad', cap', he'⟩ := hkx.form
      rw [he'] at c3 hkx
      have HKX := Lib.hid hkx
      have HX := Lib.hid hx
      clear he' hkx hx
      go_wp2_with fail
      refine (HF.out x (List.mem_of_getElem? HX.out) _ _ hkr (HKX.out.keeps hkr)).mono ?_
      rintro e w2 ⟨rfl, hk2⟩
      cases hax : p x
      · have HAX := Lib.hid hax
        go_wp2_with fail
        exact ⟨⟨j + 1, by omega, by go_num, by rw [List.take_add_one, HX.out, Option.toList, List.any_append, HALL.out]; simp [HAX.out], hkr.trans hk2⟩, by simp [intOf]; omega⟩
      · have hfin := Lib.hid (show ks.any p = true by rw [List.any_eq_true]; exact ⟨x, List.mem_of_getElem? HX.out, hax⟩)
        go_wp2_with fail
        go_ret
        exact ⟨⟨(j : Int), rfl, by rw [hfin.out]; simp⟩, hkr.trans hk2⟩
    · obtain rfl : j = n := by omega
      have hfin := Lib.hid (show ks.any p = false by have := HALL.out; rwa [List.take_of_length_le (by rw [HNN.out]; omega)] at this)
      go_wp2_with fail
      go_ret
      exact ⟨⟨-1, rfl, by rw [hfin.out]; rfl⟩, hkr⟩
theorem contains_pass (c : Value) (p : Tree → Bool) (ks : List Tree) (kv : Value) (w : World) (hk : KAt w kv ks)
    (hf : ∀ x ∈ ks, ∀ kx w', Keeps w w' → KAt w' kx x.kids → Calls Tryd.prog 31 #[treeV x kx, c] w' fun e w'' => e = .returned (.bool (p x)) ∧ Keeps w' w'') :
    Calls Tryd.prog 33 #[kv, .func (.func 31) #[] #[c]] w fun e w' => e = .returned (.bool (ks.any p)) ∧ Keeps w w' := by
  have HI := index_pass c p ks kv w hk hf
  obtain ⟨b, hb⟩ : ∃ b, ks.any p = b := ⟨_, rfl⟩
  rw [hb] at HI ⊢
  have HI := Lib.hid HI
  obtain ⟨ad, cap, rfl⟩ := hk.form
  clear hk hf hb
  go_enter Tryd.func33, Tryd.ntmps33
  go_wp2_with fail
  refine HI.out.mono ?_
  rintro e w1 ⟨⟨i, rfl, hi⟩, hk1⟩
  go_wp2_with fail
  go_ret
  exact ⟨rfl, hk1⟩
set_option maxRecDepth 4000 in
set_option maxHeartbeats 1600000 in
theorem index_fail (c : Value) (p : Tree → Bool) (ks : List Tree) (kv : Value) (w : World) (hk : KAt w kv ks)
    (hf : ∀ x ∈ ks, ∀ kx w', Keeps w w' → KAt w' kx x.kids → Calls Tryd.prog 32 #[treeV x kx, c] w' fun e w'' => e = .returned (.bool (p x)) ∧ Keeps w' w'') :
    Calls Tryd.prog 41 #[kv, .func (.func 32) #[] #[c]] w fun e w' => (∃ i : Int, e = .returned (.int .i64 i) ∧ decide (0 ≤ i) = ks.any p) ∧ Keeps w w' := by
  obtain ⟨n, hn⟩ : ∃ n, ks.length = n := ⟨_, rfl⟩
  have HNN := Lib.hid hn
  cases hk with
  | mk ad cap l kvs gg o hll h0 ha hcs hk =>
  have HA := Lib.hid ha
  have HC := Lib.hid hcs
  have HK := Lib.hid hk
  have HF := Lib.hid hf
  rw [hn] at hll ⊢
  clear ha hcs hk hn h0 hf
  go_enter Tryd.func41, Tryd.ntmps41
  go_wp2_with fail
  go_loopw [8] (fun i wr => ∃ j : Nat, j ≤ n ∧ i = .int .i64 j ∧ (ks.take j).any p = false ∧ Keeps w wr) (fun i _ => n - (intOf i).toNat)
  case atStart => exact ⟨0, by omega, rfl, by simp, Keeps.refl _⟩
  case round =>
    obtain ⟨j, hj, rfl, hall, hkr⟩ := hrel
    have HALL := Lib.hid hall
    clear hall
    by_cases hlt : j < n
    · obtain ⟨x, hx⟩ : ∃ x, ks[j]? = some x := ⟨_, List.getElem?_eq_getElem (by rw [HNN.out]; exact hlt)⟩
      obtain rfl := HA.out (by intro e; rw [e] at hx; simp at hx)
      obtain ⟨c0, c1, c2, c3⟩ := HC.out j x hx
      have c0 := hkr.cell c0
      have c1 := hkr.cell c1
      have c2 := hkr.cell c2
      have c3 := hkr.cell c3
      have hkx := HK.out j x hx
      obtain ⟨ad', cap', he'⟩ := hkx.form
      rw [he'] at c3 hkx
      have HKX := Lib.hid hkx
      have HX := Lib.hid hx
      clear he' hkx hx
      go_wp2_with fail
      refine (HF.out x (List.mem_of_getElem? HX.out) _ _ hkr (HKX.out.keeps hkr)).mono ?_
      rintro e w2 ⟨rfl, hk2⟩
      cases hax : p x
      · have HAX := Lib.hid hax
        go_wp2_with fail
        exact ⟨⟨j + 1, by omega, by go_num, by rw [List.take_add_one, HX.out, Option.toList, List.any_append, HALL.out]; simp [HAX.out], hkr.trans hk2⟩, by simp [intOf]; omega⟩
      · have hfin := Lib.hid (show ks.any p = true by rw [List.any_eq_true]; exact ⟨x, List.mem_of_getElem? HX.out, hax⟩)
        go_wp2_with fail
        go_ret
        exact ⟨⟨(j : Int), rfl, by rw [hfin.out]; simp⟩, hkr.trans hk2⟩
    · obtain rfl : j = n := by omega
      have hfin := Lib.hid (show ks.any p = false by have := HALL.out; rwa [List.take_of_length_le (by rw [HNN.out]; omega)] at this)
      go_wp2_with fail
      go_ret
      exact ⟨⟨-1, rfl, by rw [hfin.out]; rfl⟩, hkr⟩
theorem contains_fail (c : Value) (p : Tree → Bool) (ks : List Tree) (kv : Value) (w : World) (hk : KAt w kv ks)
    (hf : ∀ x ∈ ks, ∀ kx w', Keeps w w' → KAt w' kx x.kids → Calls Tryd.prog 32 #[treeV x kx, c] w' fun e w'' => e = .returned (.bool (p x)) ∧ Keeps w' w'') :
    Calls Tryd.prog 33 #[kv, .func (.func 32) #[] #[c]] w fun e w' => e = .returned (.bool (ks.any p)) ∧ Keeps w w' := by
  have HI := index_fail c p ks kv w hk hf
  obtain ⟨b, hb⟩ : ∃ b, ks.any p = b := ⟨_, rfl⟩
  rw [hb] at HI ⊢
  have HI := Lib.hid HI
  obtain ⟨ad, cap, rfl⟩ := hk.form
  clear hk hf hb
  go_enter Tryd.func33, Tryd.ntmps33
  go_wp2_with fail
  refine HI.out.mono ?_
  rintro e w1 ⟨⟨i, rfl, hi⟩, hk1⟩
  go_wp2_with fail
  go_ret
  exact ⟨rfl, hk1⟩
end Go.Proofs.YtojcfepbmnfflaaDoor
