/-
  The document's Has: the walk.
-/
import Derived.Test.YtojcfepbmnfflaaDoorTkStr
set_option linter.unusedVariables false
namespace Go.Proofs.YtojcfepbmnfflaaDoor
open Go.RowKit

theorem strs_new (w : World) (t : TypeId) (l : List (List UInt8)) (c : Nat) : Strs (w.alloc (.cells (l.map sv).toArray t)) (.slice (some ⟨w.heap.size, 0, none⟩) l.length c) l :=
  ⟨_, _, rfl, fun _ => ⟨_, rfl, fun j x hj => by
    have h : (w.alloc (.cells (l.map sv).toArray t)).heap[w.heap.size]? = some (.cells (l.map sv).toArray t (0, 0)) := World.alloc_heap_new w _
    unfold World.cell?
    rw [h]
    show (l.map sv).toArray[j]? = _
    simp [hj]⟩⟩

set_option maxRecDepth 4000 in
set_option maxHeartbeats 800000 in
theorem ref_has (s : ByteArray) (hs : s.size ≤ 2 ^ 62) (hN : (Tk.words s.data.toList).length ≤ 2 ^ 40) (t : ByteArray) (ht : t.size ≤ 2 ^ 62) (w : World) (hT : U8 w) :
    Calls Tryd.prog 38 #[.string s, .string t] w fun e W' => e = .returned (.bool (decide (Tk.fold t.data.toList ∈ Tk.words s.data.toList))) ∧ Keeps w W' := by
  have hst := str_toList
  have hw := Lib.hid (ref_words s hs hN w hT)
  have hf := Lib.hid (fun w => ref_fold t ht w)
  obtain ⟨F, hF⟩ : ∃ F, Tk.fold t.data.toList = F := ⟨_, rfl⟩
  obtain ⟨L, hL⟩ : ∃ L, Tk.words s.data.toList = L := ⟨_, rfl⟩
  rw [hF] at hf ⊢
  rw [hL] at hw hN ⊢
  have HN := Lib.hid hN
  clear hF hL hN hs ht
  go_enter Tryd.func38, Tryd.ntmps38
  go_wp2_with fail
  refine hw.out.mono ?_
  rintro e w1 ⟨v, rfl, hown, hk1⟩
  obtain ⟨ad, cap, rfl, hcs⟩ := Strs.of_own hown
  clear hown hw
  have HCS := Lib.hid hcs
  clear hcs
  obtain ⟨n, hn⟩ : ∃ n, L.length = n := ⟨_, rfl⟩
  rw [hn] at HN ⊢
  have HLN := Lib.hid hn
  clear hn
  go_wp2_with fail
  refine (hf.out _).mono ?_
  rintro e w2 ⟨rfl, hk2⟩
  go_wp2_with fail
  go_loop [7] (fun i => ∃ k : Nat, k ≤ n ∧ i = .int .i64 k ∧ ∀ j x, j < k → L[j]? = some x → x ≠ F) (fun i => n - (intOf i).toNat)
  case atStart => exact ⟨0, by omega, rfl, fun j x hj => by omega⟩
  case round =>
    obtain ⟨k, hk, rfl, hno⟩ := hrel
    have HNO := Lib.hid hno
    have hNN := HN.out
    clear hno
    by_cases hlt : k < n
    · obtain ⟨x, hx⟩ : ∃ x, L[k]? = some x := ⟨_, List.getElem?_eq_getElem (by rw [HLN.out]; exact hlt)⟩
      obtain ⟨g, rfl, hc⟩ := HCS.out (by intro e; rw [e] at hx; simp at hx)
      have hcell := hk2.cell (hc k x hx)
      unfold sv at hcell
      have HX := Lib.hid hx
      clear hc hx
      by_cases hxf : x = F
      · have hb : (x == F) = true := by simp [hxf]
        have hm := Lib.hid (show decide (F ∈ L) = true by rw [← hxf]; exact decide_eq_true (List.mem_of_getElem? HX.out))
        clear hxf
        go_wp2_with fail
        go_ret
        exact ⟨by rw [hm.out]; rfl, hk1.trans hk2⟩
      · have hb : (x == F) = false := by simp [hxf]
        have HXF := Lib.hid hxf
        clear hxf
        go_wp2_with fail
        exact ⟨⟨k + 1, by omega, by go_num, fun j y hj hy => by
          by_cases hjk : j = k
          · subst hjk; rw [HX.out] at hy; cases hy; exact HXF.out
          · exact HNO.out j y (by omega) hy⟩, by simp [intOf]; omega⟩
    · obtain rfl : k = n := by omega
      have hm := Lib.hid (show decide (F ∈ L) = false by
        apply decide_eq_false; intro hmem
        obtain ⟨j, hj⟩ := List.getElem?_of_mem hmem
        exact HNO.out j F (by have := (List.getElem?_eq_some_iff.1 hj).1; have := HLN.out; omega) hj rfl)
      go_wp2_with fail
      go_ret
      exact ⟨by rw [hm.out]; rfl, hk1.trans hk2⟩
end Go.Proofs.YtojcfepbmnfflaaDoor
