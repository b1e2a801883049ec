/-
  The operations that make or change blocks.
  The operations that make or change blocks: one theorem.
-/
import Derived.Test.YtamiebojjinhcaaGreatDoorSxS
import Derived.Laws.MakeOwn
import Derived.Laws.IdiomStrings
import Derived.Laws.CopyRow
import Derived.Room.Entries
import Derived.Great.BuildSlice
set_option linter.unusedVariables false
set_option linter.unusedSimpArgs false
namespace Go.Proofs.YtamiebojjinhcaaGreatDoor.Sx
variable {B : World}
variable {P : Program} {ρ : Rho} {σ : SW} {w : World}

/-- What an operation leaves. -/
def Left (ρ : Rho) (r : SV) (n : Next) : Prop := (n = .skip ∧ r = undefS) ∨ ∃ u, n = .value u ∧ VR ρ r u

theorem VR.oneCell {v : SV} {u : Value} (h : VR ρ v u) (h1 : v.one = true) : u.oneCell' = true := by
  cases h <;> first | rfl | (simp [SV.one] at h1)
theorem VRs.oneCell : ∀ {vs : List SV} {us : List Value}, VRs ρ vs us → allOne vs = true → ∀ u ∈ us, u.oneCell' = true
  | [], us, h, _ => by cases h; simp
  | v :: vs, us, h, h1 => by
    cases h with
    | cons a b =>
      simp only [allOne, Bool.and_eq_true] at h1
      intro u hu
      rcases List.mem_cons.1 hu with rfl | hu
      · exact a.oneCell h1.1
      · exact b.oneCell h1.2 u hu

theorem run_storeS (g o e : Nat) (fr : Nat × Nat) : ∀ (vs : List Value) (i : Nat) (cur : Array Value) (w : World), w.heap[g]? = some (.cells cur e fr) → o + i + vs.length ≤ cur.size → (∀ q, q < cur.size → ¬ (fr.1 ≤ q ∧ q < fr.2)) → (∀ v ∈ vs, v.oneCell' = true) →
    (storeCells ⟨g, o, none⟩ vs i).run P w = .ok () (w.setRow g (cur.toList.take (o + i) ++ vs ++ cur.toList.drop (o + i + vs.length)).toArray)
  | [], i, cur, w, hg, _, _, _ => by
    simp only [storeCells, List.append_nil, List.length_nil, Nat.add_zero, List.take_append_drop, Array.toArray_toList]
    rw [setRow_self w g cur e fr hg]
    rfl
  | v :: rest, i, cur, w, hg, hl, hf, h1 => by
    have hi : o + i < cur.size := by simp at hl; omega
    have hcell : w.cell? ⟨g, o + i, none⟩ = some cur[o + i] := by simp [World.cell?, hg, hi]
    have hfro : w.frozen? ⟨g, o + i, none⟩ = false := by
      have := hf (o + i) hi
      simp only [World.frozen?, hg]
      simpa using this
    have hst : (store ((⟨g, o, none⟩ : Addr).add i) v).run P w = .ok () (w.setRow g (cur.setIfInBounds (o + i) v)) := by
      rw [addr_add, run_store P w _ v _ (h1 v (by simp)), hcell]
      simp [hfro, setCell_eq_setRow w g (o + i) cur e fr v hg]
    have ih := run_storeS g o e fr rest (i + 1) (cur.setIfInBounds (o + i) v) (w.setRow g (cur.setIfInBounds (o + i) v)) (setRow_heap w g cur _ e fr hg) (by simp at hl ⊢; omega) (by simpa using hf) (fun x hx => h1 x (by simp [hx]))
    simp only [storeCells, Sem.run_bind, hst, Result.andThen_ok, ih, setRow_setRow]
    congr 3
    have e' := list_seg_step cur.toList (o + i) v rest (by simp at hl ⊢; omega)
    simpa [Array.toList_setIfInBounds, Nat.add_assoc] using e'
theorem setRow_size (w : World) (g : Nat) (cs : Array Value) : (w.setRow g cs).heap.size = w.heap.size := by simp [World.setRow]

/-- A new row of cells. -/
theorem OR.row {w' : World} (hw : WR B ρ σ w) {e : Nat} {x : Bool} {cs : List SV} {ds : Array Value} {fr : Nat × Nat} (hh : w'.heap = w.heap.push (.cells ds e fr)) (hv : VRs ρ cs (ds.toList.take cs.length)) (hle : cs.length ≤ ds.size) (hx : x = false → cs.length = ds.size)
    (hf : ∀ q, q < ds.size → ¬ (fr.1 ≤ q ∧ q < fr.2)) : OR (ρ.put σ.n (w.heap.size, ds.size)) w' σ.n (.cells e x cs) :=
  ⟨w.heap.size, ds.size, ds, fr, Rho.put_at _ _ _, by rw [hh]; simp, rfl, hle, hx, hv.mono (Rho.put_le hw _), hf⟩
theorem VRs.full {cs : List SV} {ds : Array Value} (h : VRs ρ cs ds.toList) : VRs ρ cs (ds.toList.take cs.length) := by
  rw [h.length, List.take_length]; exact h
/-- A new row, whole. -/
theorem WR.row (hw : WR B ρ σ w) {w' : World} {e : Nat} {cs : List SV} {ds : Array Value} (hh : w'.heap = w.heap.push (.cells ds e)) (hv : VRs ρ cs ds.toList) (x : Bool) (hq : Quiet w w' := by exact ⟨rfl, rfl, rfl⟩) : WR B (ρ.put σ.n (w.heap.size, ds.size)) (σ.app (.new (.cells e x cs))) w' := by
  have hl := hv.length
  refine hw.new _ (.cells ds e) ds.size hh (OR.row hw hh hv.full (by simpa using Nat.le_of_eq hl) (fun _ => by simpa using hl) ?_) hq
  intro q _ h
  simp at h
theorem repeatL_length (z : List SV) : ∀ n, (repeatL z n).length = n * z.length
  | 0 => by simp [repeatL]
  | n + 1 => by simp [repeatL, repeatL_length z n, Nat.succ_mul, Nat.add_comm]
theorem repeatL_get (z : List SV) : ∀ (n j : Nat), j < n * z.length → (repeatL z n)[j]? = z[j % z.length]?
  | 0, j, h => by simp at h
  | n + 1, j, h => by
    rw [Nat.succ_mul] at h
    simp only [repeatL]
    by_cases hj : j < z.length
    · rw [List.getElem?_append_left hj, Nat.mod_eq_of_lt hj]
    · rw [List.getElem?_append_right (by omega), repeatL_get z n (j - z.length) (by omega)]
      congr 1
      rw [← Nat.mod_eq_sub_mod (by omega)]
theorem VRs.made {z : List SV} {y : Array Value} (h : VRs ρ z y.toList) {n k : Nat} (hn : k = n * z.length) : VRs ρ (Sx.repeatL z n) (madeCells y k).toList := by
  subst hn
  refine VRs.of_get (by simp [repeatL_length, madeCells]) fun i s v hs hv => ?_
  have hl := h.length
  simp at hl
  have hi : i < n * z.length := by
    have := (List.getElem?_eq_some_iff.1 hs).1
    rwa [repeatL_length] at this
  rw [repeatL_get z n i hi] at hs
  obtain ⟨u, hu, hr⟩ := h.get hs
  have hpos : 0 < z.length := by
    rcases Nat.eq_zero_or_pos z.length with h0 | h0
    · rw [h0] at hi; simp at hi
    · exact h0
  have hlt : i % y.size < y.size := by rw [← hl]; exact Nat.mod_lt _ hpos
  have hv' : v = y[i % y.size]! := by
    simp only [madeCells, Array.toList_map, Array.toList_range, List.getElem?_map] at hv
    rw [List.getElem?_eq_getElem (by simpa using hi)] at hv
    simp at hv
    exact hv.symm
  have hu' : y[i % y.size]? = some u := by rw [← hl]; simpa using hu
  rw [hv', getElem!_pos y _ hlt]
  rw [Array.getElem?_eq_getElem hlt] at hu'
  injection hu' with hu'
  rw [hu']
  exact hr

theorem growBy_le (m : Nat) : ∀ (r c : Nat), Builtin.growBy m r c + 768 ≤ 2 ^ r * (c + 768)
  | 0, c => by simp [Builtin.growBy]
  | r + 1, c => by
    simp only [Builtin.growBy]
    split
    · have : 1 ≤ 2 ^ (r + 1) := Nat.one_le_two_pow
      calc c + 768 = 1 * (c + 768) := by omega
        _ ≤ 2 ^ (r + 1) * (c + 768) := Nat.mul_le_mul_right _ this
    · have := growBy_le m r (c + (c + 768) / 4)
      have h2 : 2 ^ (r + 1) = 2 ^ r * 2 := Nat.pow_succ ..
      rw [h2, Nat.mul_assoc]
      refine Nat.le_trans this (Nat.mul_le_mul_left _ ?_)
      omega
theorem nextcap_le {m c : Nat} (h : c < m) (hm : m ≤ small) : Builtin.nextslicecap m c ≤ 20000000 := by
  simp only [small] at hm
  unfold Builtin.nextslicecap
  split
  · omega
  · split
    · omega
    · have := growBy_le m 4 c
      omega

theorem tailS_spec {h : H} {s : Nat} {x : SV} {m : Nat} {new : List SV} (ht : tailS h s x = some (m, new)) {u : Value} (hu : VR ρ x u) (ho : ∀ i o, h.get i = some o → OR ρ w i o) {w' : World} (hw' : w'.heap = w.heap) :
    (Builtin.lenOf u).run P w' = .ok m w' ∧ ∃ ds, (Builtin.firstCells s m u).run P w' = .ok ds w' ∧ VRs ρ new ds.toList ∧ new.length = m * s := by
  unfold tailS at ht
  split at ht
  · split at ht
    · rename_i l hs
      subst hs
      injection ht with ht; injection ht with e1 e2; subst e1; subst e2
      generalize hx : SV.str l = y at hu
      cases hu <;> cases hx
      rename_i b
      refine ⟨by simp [Builtin.lenOf], _, by simp [Builtin.firstCells]; rfl, ?_, by simp⟩
      have hex : (b.extract 0 (b.data.toList.map UInt8.toNat).length).data.toList = b.data.toList := by
        rw [extract_toList, List.length_map, List.drop_zero, Nat.sub_zero, List.take_length]
      rw [Array.toList_map]
      first | rw [hex] | skip
      generalize b.data.toList = l
      induction l with
      | nil => exact .nil
      | cons x l ih => exact .cons (.int _ _) ih
    · cases ht
  · injection ht with ht; injection ht with e1 e2; subst e1; subst e2
    cases hu
    exact ⟨by simp [Builtin.lenOf], #[], by simp [Builtin.firstCells], .nil, by simp⟩
  · rename_i b o n c
    split at ht
    · rename_i e' x' cs hg
      split at ht
      · rename_i l hp
        injection ht with ht; injection ht with e1 e2; subst e1; subst e2
        obtain ⟨g, N, ds, fr, h1, h2, h3, h4, h5, h6, h7⟩ := ho _ _ hg
        obtain ⟨e1, k1⟩ := part_spec hp
        have hle := part_le hp
        have h2' : w'.heap[g]? = some (.cells ds e' fr) := by rw [hw']; exact h2
        have hrun : (loadCells ⟨g, o, none⟩ (n * s)).run P w' = .ok ((ds.toList.drop o).take (n * s)).toArray w' := run_loadCellsS h2' (by omega)
        have hrel : VRs ρ l ((ds.toList.drop o).take (n * s)) := by rw [e1]; exact h6.sub o _ hle
        have hlen : l.length = n * s := k1
        cases hu with
        | slk _ _ _ eb =>
          rw [h1] at eb; injection eb with eb; injection eb with e2 e3; subst e2
          exact ⟨by simp [Builtin.lenOf], _, by simp only [Builtin.firstCells]; exact hrun, hrel, hlen⟩
        | slu _ _ _ _ eb _ _ =>
          rw [h1] at eb; injection eb with eb; injection eb with e2 e3; subst e2
          exact ⟨by simp [Builtin.lenOf], _, by simp only [Builtin.firstCells]; exact hrun, hrel, hlen⟩
      · cases ht
    · cases ht
  · cases ht
theorem headS_spec {h : H} {s : Nat} {a : Option (Nat × Nat)} {l c : Nat} {old : List SV} (hh : headS h s a l = some old) {u : Value} (hu : VR ρ (.sl a l (.known c)) u) (ho : ∀ i o, h.get i = some o → OR ρ w i o) {w' : World} (hw' : w'.heap = w.heap) :
    ∃ ds, (Builtin.firstCells s l u).run P w' = .ok ds w' ∧ VRs ρ old ds.toList ∧ old.length = l * s := by
  cases l with
  | zero =>
    simp [headS] at hh
    subst hh
    cases hu with
    | nsl => exact ⟨#[], by simp [Builtin.firstCells], .nil, by simp⟩
    | slk _ _ _ eb => exact ⟨#[], by simp [Builtin.firstCells, loadCells, loadCellsFrom], .nil, by simp⟩
  | succ l =>
    cases a with
    | none => simp [headS] at hh
    | some p =>
      obtain ⟨b, o⟩ := p
      simp only [headS] at hh
      split at hh
      · rename_i e' x' cs hg
        obtain ⟨g, N, ds, fr, h1, h2, h3, h4, h5, h6, h7⟩ := ho _ _ hg
        obtain ⟨e1, k1⟩ := part_spec hh
        have hle : (l + 1) * s = 0 ∨ o + (l + 1) * s ≤ cs.length := part_le hh
        cases hu with
        | slk _ _ _ eb =>
          rw [h1] at eb; injection eb with eb; injection eb with e2 e3; subst e2
          have h2' : w'.heap[g]? = some (.cells ds e' fr) := by rw [hw']; exact h2
          refine ⟨((ds.toList.drop o).take ((l + 1) * s)).toArray, ?_, ?_, k1⟩
          · simp only [Builtin.firstCells]; exact run_loadCellsS h2' (by omega)
          · rw [e1]; exact h6.sub o _ hle
      · cases hh

section append
variable {t t' ty e : Nat} {i : TypeInfo} {z : Value}
theorem plainTail (ht' : tailT (P.underlying t') = true) : (∃ e', P.underlying t' = some (.slice e')) ∨ P.underlying t' = some .string := by
  cases hd : P.underlying t' with
  | none => rw [hd] at ht'; cases ht'
  | some d => rw [hd] at ht'; cases d <;> first | exact .inl ⟨_, rfl⟩ | exact .inr rfl | cases ht'
theorem run_append_fit0 (ht : P.underlying t = some (.slice e)) (ht' : (∃ e', P.underlying t' = some (.slice e')) ∨ P.underlying t' = some .string) (hi : P.info? e = some i) (sLen sCap : Nat) (x : Value) (m : Nat) (hm : (Builtin.lenOf x).run P w = .ok m w)
    (hle : sLen + m ≤ sCap) {ds : Array Value} (hn : (Builtin.firstCells i.size m x).run P w = .ok ds w) :
    (Builtin.append_ #[t, t'] ty #[.slice none sLen sCap, x]).run P w = .ok (.slice none (sLen + m) sCap) w := by
  rcases ht' with ⟨e', hd⟩ | hd <;> simp [Builtin.append_, run_underlying ht, run_underlying hd, sizeOf, typeInfo, hi, hm, hle, hn]
theorem run_append_fit1 (ht : P.underlying t = some (.slice e)) (ht' : (∃ e', P.underlying t' = some (.slice e')) ∨ P.underlying t' = some .string) (hi : P.info? e = some i) (a : Addr) (sLen sCap : Nat) (x : Value) (m : Nat) (hm : (Builtin.lenOf x).run P w = .ok m w)
    (hle : sLen + m ≤ sCap) {ds : Array Value} (hn : (Builtin.firstCells i.size m x).run P w = .ok ds w) {w' : World} (hst : (storeCells (a.add (sLen * i.size)) ds.toList).run P w = .ok () w') :
    (Builtin.append_ #[t, t'] ty #[.slice (some a) sLen sCap, x]).run P w = .ok (.slice (some a) (sLen + m) sCap) w' := by
  rcases ht' with ⟨e', hd⟩ | hd <;> simp [Builtin.append_, run_underlying ht, run_underlying hd, sizeOf, typeInfo, hi, hm, hle, hn, hst]
theorem run_append_new (ht : P.underlying t = some (.slice e)) (ht' : (∃ e', P.underlying t' = some (.slice e')) ∨ P.underlying t' = some .string) (hi : P.info? e = some i) (hz : i.zero = some z) (base : Option Addr) (sLen sCap : Nat) (x : Value) (m : Nat) (hm : (Builtin.lenOf x).run P w = .ok m w)
    (hgt : sCap < sLen + m) (hs : sLen + m ≤ small) (hb : i.bytes ≤ small) {od ds : Array Value} (ho : (Builtin.firstCells i.size sLen (.slice base sLen sCap)).run P w.drew = .ok od w.drew) (hn : (Builtin.firstCells i.size m x).run P w.drew = .ok ds w.drew) :
    (Builtin.append_ #[t, t'] ty #[.slice base sLen sCap, x]).run P w = .ok (.slice (some ⟨w.heap.size, 0, none⟩) (sLen + m) (grownCap w (sLen + m) sCap e))
      (w.drew.alloc (.cells (od ++ ds ++ Builtin.zeroCells z.cells (grownCap w (sLen + m) sCap e - (sLen + m))) e)) := by
  have h1 : ¬ (sLen + m ≤ sCap) := by omega
  have hnc := nextcap_le hgt hs
  simp only [small] at hs hb
  have h2 : ¬ (9223372036854775807 < ((sLen : Int) + (m : Int))) := by omega
  have h3 : ¬ (281474976710656 < Builtin.nextslicecap (sLen + m) sCap * i.bytes) := by
    have : Builtin.nextslicecap (sLen + m) sCap * i.bytes ≤ 20000000 * 1000000 := Nat.mul_le_mul hnc hb
    omega
  rcases ht' with ⟨e', hd⟩ | hd <;>
    simp [Builtin.append_, run_underlying ht, run_underlying hd, sizeOf, typeInfo, zeroValue, hi, hz, hm, h1, h2, h3, Question.forced, hn, ho, newRow, grownCap]
end append
/-- The row that an append makes. -/
theorem grown_size {z : Array Value} {od ds : Array Value} {l m sz cap : Nat} (h1 : od.size = l * sz) (h2 : ds.size = m * sz) (hz : z.size = sz) (hc : l + m ≤ cap) : (od ++ ds ++ Builtin.zeroCells z (cap - (l + m))).size = cap * sz := by
  simp only [Array.size_append, h1, h2, Builtin.zeroCells, Array.size_map, Array.size_range, hz]
  rw [← Nat.add_mul, ← Nat.add_mul]
  congr 1
  omega
theorem VRs.foremost {cs : List SV} {ds : List Value} (h : VRs ρ cs ds) (xs : List Value) : VRs ρ cs ((ds ++ xs).take cs.length) := by
  rw [h.length, List.take_left' rfl]
  exact h
theorem WR.grownRow (hw : WR B ρ σ w) {e sz l m cap : Nat} {old new : List SV} {od ds z : Array Value} (ho : VRs ρ old od.toList) (hn : VRs ρ new ds.toList) (hol : old.length = l * sz) (hnl : new.length = m * sz) (hz : z.size = sz) (hc : l + m ≤ cap) {w' : World}
    (hh : w'.heap = w.heap.push (.cells (od ++ ds ++ Builtin.zeroCells z (cap - (l + m))) e)) (hq : Quiet w w' := by exact ⟨rfl, rfl, rfl⟩) :
    WR B (ρ.put σ.n (w.heap.size, cap * sz)) (σ.app (.new (.cells e true (old ++ new)))) w' := by
  have h1 : od.size = l * sz := by rw [← hol, ho.length]; simp
  have h2 : ds.size = m * sz := by rw [← hnl, hn.length]; simp
  have hsz := grown_size h1 h2 hz hc
  rw [← hsz]
  refine hw.new _ (.cells (od ++ ds ++ Builtin.zeroCells z (cap - (l + m))) e) _ hh (OR.row hw hh ?_ ?_ (fun h => by cases h) (fun q _ h => by simp at h)) hq
  · have := (ho.append hn).foremost (Builtin.zeroCells z (cap - (l + m))).toList
    simpa using this
  · rw [hsz, List.length_append, hol, hnl, ← Nat.add_mul]
    exact Nat.mul_le_mul_right _ hc
/-- **AN APPEND.** -/
theorem appendS_spec (hw : WR B ρ σ w) {ts : Array TypeId} {ty : Nat} {s x r : SV} {d : Delta} (h : appendS P σ.n ts.toList σ.h s x = some (r, d)) {u v : Value} (hu : VR ρ s u) (hv : VR ρ x v) :
    ∃ ρ' w' z, ρ.le ρ' ∧ (Builtin.append_ ts ty #[u, v]).run P w = .ok z w' ∧ VR ρ' r z ∧ WR B ρ' (σ.app d) w' := by
  unfold appendS at h
  split at h
  · rename_i t t' a l c hts
    have hts' : ts = #[t, t'] := Array.ext' (by simpa using hts)
    subst hts'
    split at h
    · rename_i e ht
      split at h
      · rename_i sz i zs hsz hi hzs
        split at h
        · rename_i hcond
          obtain ⟨hc1, hc2, hc3⟩ := hcond
          have ht' := plainTail hc1
          obtain ⟨i', hi', hsz'⟩ := sizeS_info hsz
          obtain ⟨i'', zv, hi'', hzv, hzz⟩ := zeroS_info hzs
          have e1 : i' = i := by rw [hi] at hi'; injection hi' with h; exact h.symm
          have e2 : i'' = i := by rw [hi] at hi''; injection hi'' with h; exact h.symm
          subst e1; subst e2
          subst hsz'
          have hzl : zv.cells.size = i''.size := by
            have := (VR.cells (VR.ofVal (ρ := ρ) hzz)).length
            rw [hc2] at this
            simpa using this.symm
          split at h
          · rename_i m new htl
            split at h
            · rename_i hsm
              obtain ⟨hm, ds, hds, hnew, hnl⟩ := tailS_spec (P := P) htl hv hw.obj (w' := w) rfl
              obtain ⟨_, ds2, hds2, hnew2, _⟩ := tailS_spec (P := P) htl hv hw.obj (w' := w.drew) rfl
              unfold growS at h
              split at h
              · -- the room is known
                rename_i cc
                obtain ⟨b', k', rfl⟩ := hu.slice_form
                have hk : k' = cc := by cases hu <;> rfl
                subst hk
                split at h
                · rename_i hfit
                  split at h
                  · injection h with h; injection h with e1 e2; subst e1; subst e2
                    cases hu
                    exact ⟨ρ, w, _, .refl ρ, run_append_fit0 ht ht' hi _ _ _ m hm hfit hds, .nsl _ _, hw⟩
                  · cases h
                · rename_i hfit
                  split at h
                  · rename_i old hold
                    injection h with h; injection h with e1 e2; subst e1; subst e2
                    obtain ⟨od, hod, hor, hol⟩ := headS_spec (P := P) hold hu hw.obj (w' := w.drew) rfl
                    have hrun := run_append_new (ty := ty) ht ht' hi hzv b' l k' v m hm (by omega) hsm.1 hsm.2 hod hds2
                    have hge := grownCap_ge w (l + m) k' e
                    refine ⟨_, _, _, Rho.put_le hw (w.heap.size, grownCap w (l + m) k' e * i''.size), hrun, ?_, hw.grownRow hor hnew2 hol hnl hzl hge rfl⟩
                    exact .slu _ _ _ _ (Rho.put_at _ _ _) hge (by omega)
                  · cases h
              · -- it is not
                rename_i s' b
                split at h
                · rename_i hs'
                  subst hs'
                  split at h
                  · rename_i e' cs hg
                    split at h
                    · rename_i he
                      obtain ⟨he, hone⟩ := he
                      subst he
                      split at h
                      · rename_i old hold
                        injection h with h; injection h with e1 e2; subst e1; subst e2
                        obtain ⟨g, N, cur, fr, h1, h2, h3, h4, h5, h6, h7⟩ := hw.obj _ _ hg
                        obtain ⟨eo, ko⟩ := part_spec hold
                        have hle := part_le hold
                        have hor : VRs ρ old (cur.toList.take (l * i''.size)) := by
                          have := h6.sub 0 (l * i''.size) (by omega)
                          rw [eo]; simpa using this
                        generalize hsx : SV.sl (some (b, 0)) l (Cap.unk i''.size) = sx at hu
                        cases hu with
                        | slu o l' s' c eb hlc hN =>
                          injection hsx with q1 q2 q3
                          injection q1 with q1; injection q1 with q1 q1'
                          injection q3 with q3
                          subst q1; subst q1'; subst q2; subst q3
                          rw [h1] at eb; injection eb with eb; injection eb with q4 q5; subst q4; subst q5
                          by_cases hfit : l + m ≤ c
                          · -- in its place
                            have hdl : ds.toList.length = m * i''.size := by rw [← hnew.length, hnl]
                            have hroom : l * i''.size + m * i''.size ≤ cur.size := by
                              rw [h3, ← Nat.add_mul]
                              exact Nat.le_trans (Nat.mul_le_mul_right _ hfit) (by omega)
                            have hst := run_storeS (P := P) g (l * i''.size) e' fr ds.toList 0 cur w h2 (by simp at hdl ⊢; omega) (by rw [h3]; exact h7) (hnew.oneCell hone)
                            have hst' : (storeCells ((⟨g, 0, none⟩ : Addr).add (l * i''.size)) ds.toList).run P w = .ok () (w.setRow g (cur.toList.take (l * i''.size) ++ ds.toList ++ cur.toList.drop (l * i''.size + ds.toList.length)).toArray) := by
                              rw [addr_add, Nat.zero_add]
                              simpa using hst
                            have hrun := run_append_fit1 (ty := ty) ht ht' hi ⟨g, 0, none⟩ l c v m hm hfit hds hst'
                            refine ⟨_, _, _, Rho.put_le hw (g, N), hrun, .slu _ _ _ _ (Rho.put_at _ _ _) hfit hN, ?_⟩
                            refine hw.grown hg rfl h1 (setRow_size _ _ _) (fun k hk => setRow_other _ _ _ _ hk) ?_
                            refine ⟨g, N, _, fr, Rho.put_at _ _ _, setRow_heap _ _ _ _ _ _ h2, ?_, ?_, (fun h => by cases h), ?_, h7⟩
                            · simp at hdl
                              simp
                              omega
                            · rw [List.length_append, ko, hnl]; omega
                            · have := ((hor.append hnew).foremost (cur.toList.drop (l * i''.size + ds.toList.length))).mono (Rho.put_le hw (g, N))
                              simpa using this
                          · -- elsewhere
                            have hfo : (Builtin.firstCells i''.size l (.slice (some ⟨g, 0, none⟩) l c)).run P w.drew = .ok (cur.toList.take (l * i''.size)).toArray w.drew := by
                              simp only [Builtin.firstCells]
                              have := run_loadCellsS (P := P) (w := w.drew) (g := g) (o := 0) (n := l * i''.size) h2 (by omega)
                              simpa using this
                            have hrun := run_append_new (ty := ty) ht ht' hi hzv (some ⟨g, 0, none⟩) l c v m hm (by omega) hsm.1 hsm.2 hfo hds2
                            have hge := grownCap_ge w (l + m) c e'
                            have hK := hw.kill hg rfl h1 (w' := w) rfl (fun k _ => rfl)
                            have hG := hK.grownRow (w' := (w.drew.alloc (.cells ((cur.toList.take (l * i''.size)).toArray ++ ds2 ++ Builtin.zeroCells zv.cells (grownCap w (l + m) c e' - (l + m))) e'))) (cap := grownCap w (l + m) c e') (e := e') (toArray_VRs hor) hnew2 ko hnl hzl hge rfl
                            refine ⟨_, _, _, Rho.put_le hK (w.heap.size, grownCap w (l + m) c e' * i''.size), hrun, ?_, hG⟩
                            exact .slu _ _ _ _ (Rho.put_at _ _ _) hge (by omega)
                        | _ => cases hsx
                      · cases h
                    · cases h
                  · cases h
                · cases h
              · cases h
            · cases h
          · cases h
        · cases h
      · cases h
    · cases h
  · cases h
end Go.Proofs.YtamiebojjinhcaaGreatDoor.Sx

set_option linter.unusedSimpArgs false
namespace Go.Proofs.YtamiebojjinhcaaGreatDoor.Sx
variable {B : World}
variable {P : Program} {ρ : Rho} {σ : SW} {w : World}

theorem MRs.append {es es' : List (SV × SV × Nat)} {ds ds' : List MapEntry} (h : MRs ρ es ds) (k : MRs ρ es' ds') : MRs ρ (es ++ es') (ds ++ ds') := by
  induction h with
  | nil => exact k
  | cons a b c _ ih => exact .cons a b c ih
theorem MRs.eraseIdx {es : List (SV × SV × Nat)} {ds : List MapEntry} (h : MRs ρ es ds) : ∀ i, MRs ρ (es.eraseIdx i) (ds.eraseIdx i) := by
  induction h with
  | nil => intro i; simp; exact .nil
  | cons a b c m ih => intro i; cases i with
    | zero => simpa using m
    | succ i => simp; exact .cons a b c (ih i)
theorem eraseS_found {kd : Bool} {k : SV} : ∀ {es r : List (SV × SV × Nat)}, eraseS kd k es = some r → ∃ v, findS kd k es = some (some v)
  | [], r, h => by simp [eraseS] at h
  | (k', u, c) :: es, r, h => by
    unfold eraseS at h
    split at h
    · rename_i hk; exact ⟨u, by simp [findS, hk]⟩
    · rename_i hk
      split at h
      · rename_i es' he
        obtain ⟨v, hv⟩ := eraseS_found he
        exact ⟨v, by simp [findS, hk, hv]⟩
      · cases h
    · cases h
theorem set_size (hp : Array Obj) (g : Nat) (o : Obj) : (hp.setIfInBounds g o).size = hp.size := by simp
theorem set_other (hp : Array Obj) (g k : Nat) (o : Obj) (h : k ≠ g) : (hp.setIfInBounds g o)[k]? = hp[k]? := by
  rw [Array.getElem?_setIfInBounds_ne (Ne.symm h)]
theorem set_same (hp : Array Obj) (g : Nat) (o o' : Obj) (h : hp[g]? = some o') : (hp.setIfInBounds g o)[g]? = some o := by
  have := (Array.getElem?_eq_some_iff.1 h).1
  simp [this]

theorem bytesExact_spec : ∀ {vs : List SV} {l : List Nat} {us : List Value}, bytesExact vs = some l → VRs ρ vs us → ∃ bs : List UInt8, us = bs.map (fun x => Value.int .u8 (x.toNat : Nat)) ∧ l = bs.map UInt8.toNat
  | [], l, us, h, hv => by simp [bytesExact] at h; subst h; cases hv; exact ⟨[], rfl, rfl⟩
  | v :: vs, l, us, h, hv => by
    unfold bytesExact at h
    split at h
    · rename_i heq; cases heq
    · rename_i b cs heq
      injection heq with e1 e2; subst e1; subst e2
      split at h
      · rename_i hlt
        split at h
        · rename_i l' hl
          injection h with h; subst h
          cases hv with
          | cons a b' =>
            cases a
            obtain ⟨bs, e, e'⟩ := bytesExact_spec hl b'
            have hb : (UInt8.ofNat b).toNat = b := by simp; omega
            exact ⟨UInt8.ofNat b :: bs, by simp [e, Nat.mod_eq_of_lt hlt], by simp [e', Nat.mod_eq_of_lt hlt]⟩
        · cases h
      · cases h
    · cases h
/-- **WHAT MAKES OR CHANGES A BLOCK, SAID OF THE MODEL.** -/
theorem effS_spec (hw : WR B ρ σ w) {op : Op} {vs : List SV} {r : SV} {d : Delta} {a : Act} (h : effS P σ op vs = some (r, d)) (hv : VRs ρ vs (op.operands.toList.map a.eval))
    (dst : Option Tmp) (ty : TypeId) (pos : String) (after : Array Edge) (g : Option (Nat × Bool)) :
    ∃ ρ' w' n, ρ.le ρ' ∧ (execOp a.eval { dst, op, type := ty, pos, after, guard := g }).run P w = .ok n w' ∧ Left ρ' r n ∧ WR B ρ' (σ.app d) w' := by
  unfold effS at h
  split at h
  · -- alloc
    rename_i e
    split at h
    · rename_i z hz
      injection h with h; injection h with e1 e2; subst e1; subst e2
      obtain ⟨zv, h1, h2⟩ := zeroS_spec hz ρ w
      refine ⟨_, w.alloc (.cells zv.cells e), .value (.pointer (some ⟨w.heap.size, 0, none⟩)), Rho.put_le hw (w.heap.size, zv.cells.size), ?_, .inr ⟨_, rfl, .ptr _ (Rho.put_at _ _ _)⟩, hw.row rfl h2.cells false⟩
      simp [execOp, Instr.alloc, h1, newVar, newRow]
    · cases h
  · -- box
    rename_i e x v
    injection h with h; injection h with e1 e2; subst e1; subst e2
    obtain ⟨u, e', hu⟩ := VRs.one hv
    simp [Op.operands] at e'
    refine ⟨_, w.alloc (.cells u.cells e), .value (.pointer (some ⟨w.heap.size, 0, none⟩)), Rho.put_le hw (w.heap.size, u.cells.size), ?_, .inr ⟨_, rfl, .ptr _ (Rho.put_at _ _ _)⟩, hw.row rfl hu.cells false⟩
    simp [execOp, Instr.box, e', newVar, newRow]
  · -- buildSlice
    rename_i t len ps
    have hv' : VRs ρ vs (ps.toList.map fun p => a.eval p.2) := by simpa [Op.operands, List.map_map, Function.comp_def] using hv
    split at h
    · rename_i e ht
      split at h
      · rename_i n z hn hz
        split at h
        · rename_i hcond
          obtain ⟨hc1, hc2, hpos⟩ := hcond
          split at h
          · rename_i cs hf
            injection h with h; injection h with e1 e2; subst e1; subst e2
            obtain ⟨i, hi, rfl⟩ := sizeS_info hn
            obtain ⟨i', zv, hi', hzv, hzz⟩ := zeroS_info hz
            rw [hi] at hi'; injection hi' with hi'; subst hi'
            have hzr := VR.cells (VR.ofVal (ρ := ρ) hzz)
            have hmade := hzr.made (n := len) (k := len * i.size) (by rw [hc2])
            obtain ⟨ds, hd, hr⟩ := fillS_spec _ hv' hmade hf
            refine ⟨_, w.alloc (.cells ds e), .value (.slice (some ⟨w.heap.size, 0, none⟩) len len), Rho.put_le hw (w.heap.size, ds.size), ?_, .inr ⟨_, rfl, .slk _ _ _ (Rho.put_at _ _ _)⟩, hw.row rfl hr false⟩
            have hd' : Instr.fill (fun i_1 => some (i_1 * i.size, i.size)) (madeCells zv.cells (len * i.size)) (ps.map fun (i, x) => (i, a.eval x)).toList = some ds := by rw [mapFst]; exact hd
            rcases hpos with hpos | ⟨hl0, hp0⟩
            · have hrun := run_buildSlice (P := P) w t e len (ps.map fun (i, x) => (i, a.eval x)) ds i zv ht hi hzv (by omega) hpos (by unfold madeCells at hd'; exact hd')
              simp [execOp, hrun]
            · subst hl0
              have hps : ps = #[] := Array.eq_empty_of_size_eq_zero hp0
              subst hps
              have hds : ds = #[] := by
                have : madeCells zv.cells (0 * i.size) = #[] := by
                  apply Array.ext'
                  simp [madeCells]
                rw [this] at hd'
                simpa [Instr.fill] using hd'.symm
              subst hds
              simp [execOp, Instr.buildSlice, run_underlying ht, sizeOf, typeInfo, hi, Instr.fill, newRow]
              congr 2
              exact Array.ext' (by simp)
          · cases h
        · cases h
      · cases h
    · cases h
  · -- makeSlice
    rename_i t xl xc kl l kc c
    obtain ⟨u, v, e', hu, hx⟩ := VRs.two hv
    simp [Op.operands] at e'
    cases hu; cases hx
    split at h
    · rename_i e ht
      split at h
      · rename_i i z hi hz
        split at h
        · rename_i hcond
          obtain ⟨hc1, hc2, hc3, hc4⟩ := hcond
          injection h with h; injection h with e1 e2; subst e1; subst e2
          obtain ⟨i', zv, hi', hzv, hzz⟩ := zeroS_info hz
          rw [hi] at hi'; injection hi' with hi'; subst hi'
          have hzr := VR.cells (VR.ofVal (ρ := ρ) hzz)
          have hmade := hzr.made (n := c) (k := c * i.size) (by rw [hc4])
          have hbytes : (i.bytes : Int) * (Int.ofNat c) ≤ 281474976710656 := by
            have : i.bytes * c ≤ 10000 * 10000 := Nat.mul_le_mul hc3 hc2
            have h2 : ((i.bytes * c : Nat) : Int) ≤ 281474976710656 := by omega
            rwa [Int.natCast_mul] at h2
          have hrun := run_make (P := P) w t e i zv ht hi hzv kl kc (Int.ofNat l) (Int.ofNat c) (by simp) (by simpa using hc1) hbytes (by simp; omega)
          refine ⟨_, w.alloc (.cells (madeCells zv.cells (c * i.size)) e), .value (.slice (some ⟨w.heap.size, 0, none⟩) l c), Rho.put_le hw (w.heap.size, (madeCells zv.cells (c * i.size)).size), ?_, .inr ⟨_, rfl, .slk _ _ _ (Rho.put_at _ _ _)⟩, hw.row rfl hmade false⟩
          have hrun' : (Instr.makeSlice t (a.eval xl) (a.eval xc)).run P w = .ok (.slice (some ⟨w.heap.size, 0, none⟩) l c) (w.alloc (.cells (madeCells zv.cells (c * i.size)) e)) := by
            rw [e'.1, e'.2]; simpa using hrun
          simp [execOp, hrun']
        · cases h
      · cases h
    · cases h
  · -- makeMap
    injection h with h; injection h with e1 e2; subst e1; subst e2
    refine ⟨_, w.alloc (.map #[] 0), .value (.map (some w.heap.size)), Rho.put_le hw (w.heap.size, 0), ?_, .inr ⟨_, rfl, .map (Rho.put_at _ _ _)⟩, ?_⟩
    · simp [execOp, Instr.makeMap]
    · refine hw.new _ (.map #[] 0) 0 rfl ⟨_, _, #[], Rho.put_at _ _ _, by show (w.heap.push _)[w.heap.size]? = _; simp, .nil⟩
  · -- store
    rename_i t x y b o v
    obtain ⟨u, v', e', hu, hx⟩ := VRs.two hv
    simp [Op.operands] at e'
    cases hu with
    | ptr _ eb =>
      rename_i g' N
      split at h
      · rename_i n e xx cs hn hg
        split at h
        · rename_i hcond
          obtain ⟨hc1, hc2, hc3⟩ := hcond
          split at h
          · rename_i cs' hlay
            injection h with h; injection h with e1 e2; subst e1; subst e2
            obtain ⟨g1, N1, ds, fr, h1, h2, h3, h4, h5, h6, h7⟩ := hw.obj _ _ hg
            rw [h1] at eb; injection eb with eb; injection eb with e1 e2; subst e1; subst e2
            have hcr := hx.cells
            have hcl : v.cells.length = v'.cells.toList.length := hcr.length
            have hl := lay_spec' hlay (by omega)
            have hst := run_storeS (P := P) g1 o e fr v'.cells.toList 0 ds w h2 (by omega) (by rw [h3]; exact h7) (hcr.oneCell hc3)
            have hsz : ¬ (v'.cells.size ≠ n) := by simp at hcl; omega
            refine ⟨ρ, w.setRow g1 (ds.toList.take (o + 0) ++ v'.cells.toList ++ ds.toList.drop (o + 0 + v'.cells.toList.length)).toArray, .skip, .refl ρ, ?_, .inl ⟨rfl, rfl⟩, ?_⟩
            · have hsz' : v'.cells.size = n := by simpa using hsz
              simp [execOp, e', Instr.storeAt, Instr.sureAddr, storeVar, sizeS_spec hn, hsz', hst]
            · refine hw.upd hg rfl h1 (setRow_size _ _ _) (fun k hk => setRow_other _ _ _ _ hk) ?_
              have hlen : cs'.length = cs.length := by rw [hl]; simp; omega
              refine ⟨g1, N1, _, fr, h1, setRow_heap _ _ _ _ _ _ h2, ?_, by omega, fun h => by rw [hlen]; exact h5 h, ?_, h7⟩
              · simp at hcl; simp; omega
              · rw [hlen, hl]
                have := h6.laid hcr o
                rw [hcl] at *
                have hx2 : (ds.toList.take (o + 0) ++ v'.cells.toList ++ ds.toList.drop (o + 0 + v'.cells.toList.length)).toArray.toList.take cs.length = (ds.toList.take cs.length).take o ++ v'.cells.toList ++ (ds.toList.take cs.length).drop (o + v'.cells.toList.length) := by
                  simp only [Nat.add_zero]
                  rw [List.take_take, Nat.min_eq_left (by omega), List.append_assoc, List.take_append, List.take_of_length_le (by simp; omega), List.append_assoc]
                  congr 1
                  rw [List.take_append, List.take_of_length_le (by simp; omega)]
                  congr 1
                  rw [List.drop_take]
                  congr 1
                  simp; omega
                rw [hx2]
                exact this
          · cases h
        · cases h
      · cases h
  · -- convert
    rename_i s d x l
    obtain ⟨u, e', hu⟩ := VRs.one hv
    simp [Op.operands] at e'
    split at h
    · rename_i e hs hd
      split at h
      · rename_i he
        injection h with h; injection h with e1 e2; subst e1; subst e2
        generalize hx : SV.str l = y at hu
        cases hu <;> cases hx
        rename_i b
        have hrun := run_bytes_of_string (P := P) w s d e b hs hd he
        have hge := grownCap_ge w b.size 0 e
        generalize grownCap w b.size 0 e = cap at *
        have hlen : (b.data.toList.map UInt8.toNat).length = b.size := by simp
        have hsz : (bytesRow b cap).size = cap := by simp [bytesRow]; omega
        refine ⟨_, w.drew.alloc (.cells (bytesRow b cap) e ((bytesRow b cap).size, (bytesRow b cap).size + 1)), .value (.slice (some ⟨w.heap.size, 0, none⟩) b.size cap), Rho.put_le hw (w.heap.size, (bytesRow b cap).size), ?_, .inr ⟨_, rfl, ?_⟩, ?_⟩
        · simp only [execOp]
          rw [e']
          simp only [Sem.run_bind, hrun, Result.andThen_ok]
          rfl
        · rw [hlen]; exact .slu _ _ _ _ (Rho.put_at _ _ _) hge (by omega)
        · refine hw.new _ _ _ rfl (OR.row hw rfl ?_ ?_ (fun h => by cases h) ?_)
          · have : ∀ (q : List UInt8) (xs : List Value), VRs ρ ((q.map UInt8.toNat).map fun b => .int .u8 (.ofNat b)) ((q.map (fun b => Value.int .u8 b.toNat) ++ xs).take q.length) := by
              intro q xs
              induction q with
              | nil => exact .nil
              | cons y q ih => exact .cons (.int _ _) ih
            have h3 := this b.data.toList (List.replicate (cap - b.size) (.int .u8 0))
            simpa [bytesRow] using h3
          · rw [hsz]; simp; omega
          · intro q hq
            simp
            omega
      · cases h
    · cases h
  · -- mapUpdate
    rename_i t xm xk xv b k v
    obtain ⟨m, ku, vu, e', hm, hk, hvv⟩ := VRs.three hv
    simp [Op.operands] at e'
    cases hm with
    | map eb =>
      rename_i g1 N1
      split at h
      · rename_i kt et es c ht hg
        split at h
        · rename_i kd hkd
          split at h
          · rename_i hok
            split at h
            · rename_i hf
              injection h with h; injection h with e1 e2; subst e1; subst e2
              obtain ⟨g2, N2, ds, h1, h2, h3⟩ := hw.obj _ _ hg
              rw [h1] at eb; injection eb with eb; injection eb with q1 q2; subst q1; subst q2
              obtain ⟨r', h4, h5⟩ := findKey_spec (w := w) hkd hok hk h3 hf
              cases r' with
              | some p => exact h5.elim
              | none =>
                have hc := checkKey_spec (w := w) hkd hok hk false
                refine ⟨ρ, { w with heap := w.heap.setIfInBounds g2 (.map (ds.push { key := ku, val := vu, born := c }) (c + 1)) }, .skip, .refl ρ, ?_, .inl ⟨rfl, rfl⟩, ?_⟩
                · simp [execOp, e', Instr.mapUpdate, run_underlying ht, MapKept.run_getObj_map h2, hc, h4, MapKept.run_setObj_map _ h2]
                · refine hw.upd hg rfl h1 (set_size _ _ _) (fun k hk => set_other _ _ _ _ hk) ⟨g2, N2, _, h1, set_same _ _ _ _ h2, ?_⟩
                  rw [Array.toList_push]
                  exact h3.append (.cons hk hvv rfl .nil)
            · cases h
          · cases h
        · cases h
      · cases h
  · -- append
    rename_i args ts s x
    have hv' : VRs ρ [s, x] (args.toList.map a.eval) := by simpa [Op.operands, Call.operands] using hv
    obtain ⟨u, v, e', hu, hx⟩ := VRs.two hv'
    have e2 := args_of e'
    split at h
    · rename_i hts
      obtain ⟨ρ', w', z, h1, h2, h3, h4⟩ := appendS_spec (ty := ty) hw h hu hx
      refine ⟨ρ', w', .value z, h1, ?_, .inr ⟨z, rfl, h3⟩, h4⟩
      rw [run_builtin, e2]
      simp [builtin, h2]
    · cases h
  · -- a text of bytes
    rename_i args ts ad k n
    have hv' : VRs ρ [.ptr ad, .int k n] (args.toList.map a.eval) := by simpa [Op.operands, Call.operands] using hv
    obtain ⟨u, v, e', hu, hx⟩ := VRs.two hv'
    have e2 := args_of e'
    cases hx
    split at h
    · rename_i n
      split at h
      · rename_i b pt hpt
        split at h
        · rename_i ut e x cs hp hg
          split at h
          · rename_i hub hse
            split at h
            · rename_i hcond
              obtain ⟨q1, q2, q3, q4⟩ := hcond
              subst q1; subst q2
              split at h
              · rename_i vs hvs
                split at h
                · rename_i l hl
                  injection h with h; injection h with q5 q6; subst q5; subst q6
                  cases hu with
                  | ptr _ eb =>
                    obtain ⟨g2, N2, ds, fr, h1, h2, h3, h4, h5, h6, h7⟩ := hw.obj _ _ hg
                    rw [h1] at eb; injection eb with eb; injection eb with q7 q8; subst q7; subst q8
                    obtain ⟨ep, kp⟩ := part_spec hvs
                    have hle := part_le hvs
                    have hsub := h6.sub 0 (n + 1) (by omega)
                    rw [ep] at hl
                    obtain ⟨bs, en, el⟩ := bytesExact_spec hl hsub
                    have hnl : bs.length = n + 1 := by
                      have := congrArg List.length en
                      simp at this
                      omega
                    have hts : ts = #[pt, ts[1]] := by
                      apply Array.ext
                      · simp; omega
                      · intro j h1 h2
                        simp at h2
                        rcases j with _ | _ | j
                        · have : ts[0]? = some ts[0] := Array.getElem?_eq_getElem _
                          rw [hpt] at this; injection this with this
                          simpa using this.symm
                        · rfl
                        · omega
                    have hcells : P.cellsOf e = 1 := by
                      obtain ⟨ie, hie, hs1⟩ := sizeS_info hse
                      simp [Program.cellsOf, hie, hs1]
                    have hsh : w.shape? g2 = some (e, N2) := by simp [World.shape?, h2, h3]
                    have hrun := Lib.run_unsafeString_row (P := P) w pt ts[1] ty e hp hcells g2 N2 hsh bs (by intro h0; rw [h0] at hnl; simp at hnl) (by omega) (by omega) fun j x hj => by
                      rw [addr_add, Nat.zero_add, cell_at h2]
                      have h8 : ((ds.toList.drop 0).take (n + 1))[j]? = some (.int .u8 (x.toNat : Nat)) := by rw [en, List.getElem?_map, hj]; rfl
                      rw [List.getElem?_take] at h8
                      split at h8
                      · simpa using h8
                      · cases h8
                    refine ⟨ρ, w.freeze ⟨g2, 0, none⟩ bs.length, .value (.string ⟨bs.toArray⟩), .refl ρ, ?_, .inr ⟨_, rfl, VR.str' (by simp [el])⟩, ?_⟩
                    · rw [run_builtin, e2, hts]
                      have hn2 : Value.int IntKind.i64 (Int.ofNat (n + 1)) = .int .i64 (bs.length : Int) := by rw [hnl]; rfl
                      simp only [Nat.succ_eq_add_one, hn2]
                      simp only [builtin, Sem.run_bind, hrun, Result.andThen_ok]
                      rfl
                    · have hne : bs.length ≠ 0 := by omega
                      refine hw.kill hg rfl h1 ?_ (fun k hk => ?_) (by refine ⟨?_, ?_, ?_⟩ <;> simp [World.freeze, hne])
                      · simp [World.freeze, hne]
                      · simp [World.freeze, hne, Array.getElem?_modify, Ne.symm hk]
                · cases h
              · cases h
            · cases h
          · cases h
        · cases h
      · cases h
    · cases h
  · -- delete
    rename_i args ts b k
    have hv' : VRs ρ [.map (some b), k] (args.toList.map a.eval) := by simpa [Op.operands, Call.operands] using hv
    obtain ⟨u, ku, e', hu, hk⟩ := VRs.two hv'
    have e2 := args_of e'
    split at h
    · rename_i t hts
      cases hu with
      | map eb =>
        rename_i g1 N1
        split at h
        · rename_i kt et es c ht hg
          split at h
          · rename_i kd hkd
            split at h
            · rename_i hok
              split at h
              · rename_i es' hes
                injection h with h; injection h with q1 q2; subst q1; subst q2
                obtain ⟨g2, N2, ds, h1, h2, h3⟩ := hw.obj _ _ hg
                rw [h1] at eb; injection eb with eb; injection eb with q1 q2; subst q1; subst q2
                obtain ⟨v, hf⟩ := eraseS_found hes
                obtain ⟨r', h4, h5⟩ := findKey_spec (w := w) hkd hok hk h3 hf
                cases r' with
                | none => exact h5.elim
                | some p =>
                  obtain ⟨i, vu⟩ := p
                  obtain ⟨h6, h7, h8⟩ := h5
                  rw [hes] at h8; injection h8 with h8
                  have hc := checkKey_spec (w := w) hkd hok hk ds.isEmpty
                  refine ⟨ρ, { w with heap := w.heap.setIfInBounds g2 (.map (ds.eraseIdxIfInBounds i) c) }, .value (.tuple #[]), .refl ρ, ?_, .inr ⟨_, rfl, .tuple .nil⟩, ?_⟩
                  · rw [run_builtin, e2]
                    simp [builtin, Builtin.delete_, hts, run_underlying ht, MapKept.run_getObj_map h2, hc, h4, MapKept.run_setObj_map _ h2]
                  · refine hw.upd hg rfl h1 (set_size _ _ _) (fun k hk => set_other _ _ _ _ hk) ⟨g2, N2, _, h1, set_same _ _ _ _ h2, ?_⟩
                    rw [h8]
                    have hl := h3.length
                    have : (ds.eraseIdxIfInBounds i).toList = ds.toList.eraseIdx i := by
                      simp [Array.eraseIdxIfInBounds]
                      split
                      · simp
                      · rename_i hlt
                        simp at hl
                        omega
                    rw [this]
                    exact h3.eraseIdx i
              · cases h
            · cases h
          · cases h
        · cases h
    · cases h
  · cases h
end Go.Proofs.YtamiebojjinhcaaGreatDoor.Sx
