/-
  The walk's operations that read alone.
  Maps, texts' parts, and all operations that read alone.
-/
import Derived.Test.YtamiebojjinhcaaGreatDoorSxL
import Derived.Laws.FloatArith
set_option linter.unusedVariables false
set_option linter.unusedSimpArgs false
namespace Go.Proofs.YtamiebojjinhcaaGreatDoor.Sx
variable {P : Program} {ρ : Rho} {σ : SW} {w : World}

theorem run_equal_of {t : Nat} {x y : Value} {r : Bool} (h : ∀ d, (Op.equalIn (d + 1) t x y).run P w = .ok r w) : (Op.equal t x y).run P w = .ok r w := h 9999
theorem bin_eql {t : Nat} {x y : Value} {r : Bool} (h : (Op.equal t x y).run P w = .ok r w) (hi : ∀ k n, x ≠ .int k n ∨ ∀ k' n', y ≠ .int k' n') (hf : ∀ k n, x ≠ .float k n) (hc : ∀ k a b, x ≠ .complex k a b) (hs : ∀ s, x ≠ .string s) :
    (binOp .eql t x y).run P w = .ok (.bool r) w := by
  cases x <;> first
    | exact absurd rfl (hf _ _)
    | exact absurd rfl (hc _ _ _)
    | exact absurd rfl (hs _)
    | (cases y <;> first
        | (simp [binOp, h]; done)
        | (exfalso; rcases hi _ _ with h1 | h1 <;> first | exact h1 rfl | exact h1 _ _ rfl))

theorem sameS_spec {t : Nat} {d : TypeDesc} (hd : P.underlying t = some d) {x y : SV} {b : Bool} (h : sameS P d x y = some b) {u v : Value} (hu : VR ρ x u) (hv : VR ρ y v) (n : Nat) :
    (Op.equalIn (n + 1) t u v).run P w = .ok b w := by
  unfold sameS at h
  split at h <;> first
    | (cases h; done)
    | (injection h with h; subst h; cases hu; cases hv; simp [Op.equalIn, run_underlying hd]; done)
    | (injection h with h; subst h; cases hu <;> cases hv <;> simp [Op.equalIn, run_underlying hd]; done)
    | skip
  rename_i e a o b' q
  split at h
  · rename_i n' hb hsz
    injection h with h; subst h
    cases hu with
    | ptr _ ea => cases hv with
      | ptr _ eb =>
        have := Nat.eq_of_beq_eq_true hb
        subst this
        rw [ea] at eb; injection eb with eb; injection eb with e1 e2; subst e1
        simp [Op.equalIn, run_underlying hd, sizeS_spec hsz, sameAddr]
        cases hq : Nat.beq o q with
        | true => simp [Nat.eq_of_beq_eq_true hq]
        | false =>
          simp
          intro e
          subst e
          simp at hq
  · cases h
theorem sameS_kind {d : TypeDesc} {x y : SV} {b : Bool} (h : sameS P d x y = some b) {u v : Value} (hu : VR ρ x u) (hv : VR ρ y v) :
    (∀ k n, u ≠ .int k n) ∧ (∀ k n, u ≠ .float k n) ∧ (∀ k a b, u ≠ .complex k a b) ∧ (∀ s, u ≠ .string s) ∧ (∀ c, u ≠ .agg c) ∧ ¬ (u = .nilIface ∧ v = .nilIface) := by
  unfold sameS at h
  split at h <;> first
    | (cases h; done)
    | (cases hu <;> cases hv <;> simp; done)
theorem eqGuard_plain {op : BinOp} {t : Nat} {ox oy : Operand} {u v : Value} (h1 : ¬ (u = .nilIface ∧ v = .nilIface)) (h2 : ∀ c, u ≠ .agg c) : (eqGuard op t ox oy u v).run P w = .ok () w := by
  cases op <;> first
    | rfl
    | (cases u <;> cases v <;> first
        | rfl
        | exact absurd rfl (h2 _)
        | exact absurd ⟨rfl, rfl⟩ h1)
theorem binS_spec {op : BinOp} {t : Nat} {x y r : SV} (h : binS P op t x y = some r) {u v : Value} (hu : VR ρ x u) (hv : VR ρ y v) (ox oy : Operand) :
    (eqGuard op t ox oy u v).run P w = .ok () w ∧ ∃ z, (binOp op t u v).run P w = .ok z w ∧ VR ρ r z := by
  unfold binS at h
  split at h
  · rename_i k a k' b
    cases hu; cases hv
    refine ⟨eqGuard_plain (by simp) (by simp), ?_⟩
    split at h
    · split at h
      · cases h
      · rename_i h0
        injection h with h; subst h
        exact ⟨_, by first | (simp [binOp, Op.shift, h0]; done) | (simp [binOp, Op.shift, h0]; rfl), .int _ _⟩
    · split at h
      · cases h
      · rename_i h0
        injection h with h; subst h
        exact ⟨_, by first | (simp [binOp, Op.shift, h0]; done) | (simp [binOp, Op.shift, h0]; rfl), .int _ _⟩
    · split at h
      · rename_i hk
        subst hk
        exact intOp_spec t h w
      · cases h
  · rename_i a b
    cases hu; cases hv
    refine ⟨eqGuard_plain (by simp) (by simp), ?_⟩
    obtain ⟨z, hz, hr⟩ := strOp_spec (P := P) (ρ := ρ) h rfl rfl w
    refine ⟨z, ?_, hr⟩
    cases op <;> first | (simp only [strOp] at h; cases h; done) | (simp only [binOp]; exact hz)
  · split at h
    · rename_i d hd
      split at h
      · rename_i b hb
        injection h with h; subst h
        obtain ⟨h1, h2, h3, h4, h5, h6⟩ := sameS_kind hb hu hv
        have he := run_equal_of (fun n => sameS_spec (w := w) hd hb hu hv n)
        exact ⟨eqGuard_plain h6 h5, .bool b, bin_eql he (fun k n => .inl (h1 k n)) h2 h3 h4, .bool b⟩
      · cases h
    · rename_i d hd
      split at h
      · rename_i b hb
        injection h with h; subst h
        obtain ⟨h1, h2, h3, h4, h5, h6⟩ := sameS_kind hb hu hv
        have he := run_equal_of (fun n => sameS_spec (w := w) hd hb hu hv n)
        refine ⟨eqGuard_plain h6 h5, .bool (!b), ?_, .bool _⟩
        revert h1 h2 h3 h4 he
        cases u <;> intro h1 h2 h3 h4 he <;> first
          | exact absurd rfl (h1 _ _)
          | exact absurd rfl (h2 _ _)
          | exact absurd rfl (h3 _ _ _)
          | exact absurd rfl (h4 _)
          | (cases v <;> simp [binOp, he])
      · cases h
    · cases h
theorem unS_spec {op : UnOp} {x r : SV} (h : unS op x = some r) {u : Value} (hu : VR ρ x u) : ∃ z, (Op.unary op u).run P w = .ok z w ∧ VR ρ r z := by
  unfold unS at h
  split at h
  · injection h with h; subst h; cases hu
    exact ⟨_, by first | (simp [Op.unary, Op.intArith]; done) | (simp [Op.unary, Op.intArith]; rfl), .int _ _⟩
  · injection h with h; subst h; cases hu
    exact ⟨_, by first | (simp [Op.unary, Op.intBits]; done) | (simp [Op.unary, Op.intBits]; rfl), .int _ _⟩
  · injection h with h; subst h; cases hu
    exact ⟨_, by first | (simp [Op.unary]; done) | (simp [Op.unary]; rfl), .bool _⟩
  · cases h

theorem bytesIn_spec : ∀ {vs : List SV} {l : List Nat} {us : List Value}, bytesIn vs = some l → VRs ρ vs us → ∃ ns : List Int, us = ns.map (Value.int .u8) ∧ l = ns.map fun n => n.toNat % 256
  | [], l, us, h, hv => by simp [bytesIn] at h; subst h; cases hv; exact ⟨[], rfl, rfl⟩
  | v :: vs, l, us, h, hv => by
    unfold bytesIn at h
    split at h
    · rename_i heq; cases heq
    · rename_i b cs heq
      injection heq with e1 e2; subst e1; subst e2
      split at h
      · rename_i l' hl
        injection h with h; subst h
        cases hv with
        | cons a b' =>
          cases a
          obtain ⟨ns, e, e'⟩ := bytesIn_spec hl b'
          exact ⟨b :: ns, by simp [e], by simp [e']⟩
      · cases h
    · cases h
theorem foldl_bytes : ∀ (ns : List Int) (s : ByteArray), (ns.foldl (fun r n => r.push (UInt8.ofNat n.toNat)) s).data.toList = s.data.toList ++ ns.map fun n => UInt8.ofNat n.toNat
  | [], s => by simp
  | n :: ns, s => by
    rw [List.foldl_cons, foldl_bytes ns]
    simp
theorem convS_spec {s d : Nat} {sd dd : TypeDesc} (hs : P.underlying s = some sd) (hd : P.underlying d = some dd) {eh : Option TypeDesc} (he : eh = elemT P sd) {x r : SV} {h : H}
    (hc : convS sd dd eh x h = some r) {u : Value} (hu : VR ρ x u) (ho : ∀ i o, h.get i = some o → OR ρ w i o) : ∃ z, (convert s d u).run P w = .ok z w ∧ VR ρ r z := by
  unfold convS at hc
  split at hc
  · injection hc with hc; subst hc; cases hu
    exact ⟨_, by cases sd <;> simp [convert, run_underlying hs, run_underlying hd, Conv.intToInt], .int _ _⟩
  · injection hc with hc; subst hc; cases hu
    exact ⟨_, by cases sd <;> simp [convert, run_underlying hs, run_underlying hd, Conv.intToFloat], .flt _ _⟩
  · rename_i k q b
    split at hc
    · rename_i n hn
      split at hc
      · rename_i hb
        injection hc with hc; subst hc; cases hu
        exact ⟨_, run_convert_float_int w s d q k b n (by rw [hs]; rfl) hd (by unfold floatToIntVal; rw [hn]; simp [hb]), .int _ _⟩
      · cases hc
    · cases hc
  · injection hc with hc; subst hc; cases hu
    exact ⟨_, by simp [convert, run_underlying hs, run_underlying hd], .str _⟩
  · rename_i e a o' l c
    subst he
    split at hc
    · rename_i hu8
      injection hc with hc; subst hc
      cases hu
      refine ⟨.string .empty, by rw [run_convert_bytes_string w s d _ _ _ _ hs hu8 hd]; simp [Conv.bytesToString], VR.str' rfl⟩
    · rename_i b o hu8
      split at hc
      · rename_i e' x' cs hg
        split at hc
        · rename_i vs hp
          split at hc
          · rename_i r' hr
            injection hc with hc; subst hc
            obtain ⟨g, N, ds, fr, h1, h2, h3, h4, h5, h6, h7⟩ := ho _ _ hg
            obtain ⟨e1, k1⟩ := part_spec hp
            have hle := part_le hp
            rw [e1] at hr
            obtain ⟨ns, en, el⟩ := bytesIn_spec hr (h6.sub o l hle)
            have key : ∀ c', (convert s d (.slice (some ⟨g, o, none⟩) l c')).run P w = .ok (.string (ns.foldl (fun r n => r.push (UInt8.ofNat n.toNat)) ByteArray.empty)) w := fun c' => by
              rw [run_convert_bytes_string w s d _ _ _ _ hs hu8 hd]
              refine run_bytesToString w _ _ _ ns ?_
              rw [run_loadCellsS (P := P) h2 (by omega), en]
            have hrel : VR ρ (.str r') (.string (ns.foldl (fun r n => r.push (UInt8.ofNat n.toNat)) ByteArray.empty)) := by
              refine VR.str' ?_
              rw [foldl_bytes, el]
              simp
            cases hu with
            | slk _ _ _ eb => rw [h1] at eb; injection eb with eb; injection eb with e2 e3; subst e2; exact ⟨_, key _, hrel⟩
            | slu _ _ _ _ eb _ _ => rw [h1] at eb; injection eb with eb; injection eb with e2 e3; subst e2; exact ⟨_, key _, hrel⟩
          · cases hc
        · cases hc
      · cases hc
    · cases hc
  · cases hc
theorem OR.shape {e : Nat} {x : Bool} {cs : List SV} {i g N : Nat} (h : OR ρ w i (.cells e x cs)) (hρ : ρ i = some (g, N)) : w.shape? g = some (e, N) := by
  obtain ⟨g', N', ds, fr, h1, h2, h3, h4, h5, h6, h7⟩ := h
  rw [hρ] at h1; injection h1 with h1; injection h1 with e1 e2; subst e1; subst e2
  simp [World.shape?, h2, h3]
theorem convPtr_spec {s d : Nat} {sd dd : TypeDesc} (hs : P.underlying s = some sd) (hd : P.underlying d = some dd) {x r : SV} {h : H}
    (hc : convPtr P sd dd x h = some r) {u : Value} (hu : VR ρ x u) (ho : ∀ i o, h.get i = some o → OR ρ w i o) : ∃ z, (convert s d u).run P w = .ok z w ∧ VR ρ r z := by
  unfold convPtr at hc
  split at hc
  · injection hc with hc; subst hc
    exact ⟨u, by cases hu; simp [convert, run_underlying hs, run_underlying hd, Conv.unsafePointer], hu⟩
  · injection hc with hc; subst hc
    exact ⟨u, by cases hu; simp [convert, run_underlying hs, run_underlying hd, Conv.unsafePointer], hu⟩
  · rename_i t b o
    split at hc
    · rename_i e x' cs n hg hz
      split at hc
      · rename_i hlt
        injection hc with hc; subst hc
        refine ⟨u, ?_, hu⟩
        cases hu with
        | ptr _ eb =>
          obtain ⟨i, hi, hsz⟩ := sizeS_info hz
          have hor := ho _ _ hg
          have hsh := hor.shape eb
          obtain ⟨g', N', ds, fr, h1, h2, h3, h4, h5, h6, h7⟩ := hor
          rw [eb] at h1; injection h1 with h1; injection h1 with e1 e2; subst e1; subst e2
          exact Lib.run_to_unsafe w _ hs hd hi (by omega) hsh (by show o < _; omega)
      · cases hc
    · cases hc
  · rename_i t b o
    split at hc
    · rename_i e cs n hg hz
      split at hc
      · rename_i hl
        injection hc with hc; subst hc
        refine ⟨u, ?_, hu⟩
        cases hu with
        | ptr _ eb =>
          obtain ⟨i, hi, hsz⟩ := sizeS_info hz
          have hor := ho _ _ hg
          have hsh := hor.shape eb
          obtain ⟨g', N', ds, fr, h1, h2, h3, h4, h5, h6, h7⟩ := hor
          rw [eb] at h1; injection h1 with h1; injection h1 with e1 e2; subst e1; subst e2
          exact Lib.run_from_unsafe w _ hs hd hi hsh (by rw [← h5 rfl]; exact hl)
      · cases hc
    · cases hc
  · cases hc
theorem convT_spec {s d : Nat} {x r : SV} {h : H} (hc : convT P s d x h = some r) {u : Value} (hu : VR ρ x u) (ho : ∀ i o, h.get i = some o → OR ρ w i o) : ∃ z, (convert s d u).run P w = .ok z w ∧ VR ρ r z := by
  unfold convT at hc
  split at hc
  · rename_i hs hd; exact convPtr_spec hs hd hc hu ho
  · rename_i hs hd; exact convPtr_spec hs hd hc hu ho
  · rename_i sd dd _ _ hs hd
    exact convS_spec hs hd rfl hc hu ho
  · cases hc

theorem boundS_spec {x : SV} {y n : Nat} (h : boundS x y = some n) {u : Value} (hu : VR ρ x u) (c : BoundsCode) : (Instr.sliceBound u y c).run P w = .ok n w ∧ n ≤ y := by
  unfold boundS at h
  split at h
  · rename_i k i
    cases hu
    split at h
    · rename_i m
      split at h
      · rename_i hm
        injection h with h; subst h
        have := run_sliceBound (P := P) (w := w) k (Int.ofNat m) y c (by simp) (by simpa using hm)
        exact ⟨by simpa using this, hm⟩
      · cases h
    · cases h
  · cases h
theorem idxS_spec {i : SV} {n j : Nat} (h : idxS i n = some j) {u : Value} (hu : VR ρ i u) : ∃ k, u = .int k (Int.ofNat j) ∧ j < n := by
  unfold idxS at h
  split at h
  · rename_i k i
    cases hu
    split at h
    · split at h
      · rename_i hm; injection h with h; subst h; exact ⟨k, rfl, hm⟩
      · cases h
    · cases h
  · cases h
theorem fieldAtS_spec {t : Nat} {a r : SV} {f : Nat} (h : fieldAtS P t a f = some r) {u : Value} (hu : VR ρ a u) : ∃ z, (Instr.fieldAt t u f).run P w = .ok z w ∧ VR ρ r z := by
  unfold fieldAtS at h
  split at h
  · rename_i fs b o ht
    split at h
    · rename_i fd hf
      split at h
      · rename_i n hz
        injection h with h; subst h
        cases hu with
        | ptr _ eb =>
          refine ⟨_, ?_, .ptr _ eb⟩
          simp [Instr.fieldAt, run_underlying ht, hf, Instr.sureAddr, fieldPlace, sizeS_spec hz, addr_add]
      · cases h
    · cases h
  · cases h
theorem fieldS_spec {t : Nat} {a r : SV} {f : Nat} (h : fieldS P t a f = some r) {u : Value} (hu : VR ρ a u) : ∃ z, (Instr.field t u f).run P w = .ok z w ∧ VR ρ r z := by
  unfold fieldS at h
  split at h
  · rename_i fs cs ht
    split at h
    · rename_i fd hf
      cases hu with
      | agg hv =>
        obtain ⟨z, hz, hr⟩ := run_partS h hv w
        exact ⟨z, by simp [Instr.field, run_underlying ht, hf, asAgg, hz], hr⟩
    · cases h
  · cases h
theorem indexAtS_spec {t : Nat} {a i r : SV} (h : indexAtS P t a i = some r) {u v : Value} (hu : VR ρ a u) (hv : VR ρ i v) : ∃ z, (Instr.indexAt t u v).run P w = .ok z w ∧ VR ρ r z := by
  unfold indexAtS at h
  split at h
  · rename_i n e b o ht
    split at h
    · rename_i j s hj hs
      injection h with h; subst h
      obtain ⟨k, rfl, hlt⟩ := idxS_spec hj hv
      cases hu with
      | ptr _ eb =>
        refine ⟨_, ?_, .ptr _ eb⟩
        simp [Instr.indexAt, asIntOf, run_underlying ht, Instr.sureAddr, sizeS_spec hs, addr_add, hlt]
    · cases h
  · rename_i e b o n c ht
    split at h
    · rename_i j s hj hs
      injection h with h; subst h
      obtain ⟨k, rfl, hlt⟩ := idxS_spec hj hv
      cases hu with
      | slk _ _ _ eb =>
        refine ⟨_, ?_, .ptr _ eb⟩
        simp [Instr.indexAt, asIntOf, run_underlying ht, Instr.sureAddr, sizeS_spec hs, addr_add, hlt]
      | slu _ _ _ _ eb _ _ =>
        refine ⟨_, ?_, .ptr _ eb⟩
        simp [Instr.indexAt, asIntOf, run_underlying ht, Instr.sureAddr, sizeS_spec hs, addr_add, hlt]
    · cases h
  · cases h
theorem indexS_spec {t : Nat} {a i r : SV} (h : indexS P t a i = some r) {u v : Value} (hu : VR ρ a u) (hv : VR ρ i v) : ∃ z, (Instr.index t u v).run P w = .ok z w ∧ VR ρ r z := by
  unfold indexS at h
  split at h
  · rename_i n e cs ht
    split at h
    · rename_i j s hj hs
      obtain ⟨k, rfl, hlt⟩ := idxS_spec hj hv
      cases hu with
      | agg hvs =>
        obtain ⟨z, hz, hr⟩ := run_partS h hvs w
        exact ⟨z, by simp [Instr.index, asIntOf, run_underlying ht, sizeS_spec hs, hlt, hz], hr⟩
    · cases h
  · rename_i l ht
    split at h
    · rename_i j hj
      split at h
      · rename_i b hb
        injection h with h; subst h
        obtain ⟨k, rfl, hlt⟩ := idxS_spec hj hv
        cases hu with
        | str s =>
          have hlt' : j < s.size := by simpa using hlt
          refine ⟨.int .u8 (s[j].toNat : Nat), ?_, ?_⟩
          · rw [run_index_string w t s k _ ht]
            simp [hlt']
          · have : b = s[j].toNat := by
              rw [List.getElem?_eq_getElem (by simpa using hlt')] at hb
              injection hb with hb
              rw [← hb]
              simp
              rfl
            rw [this]
            exact .int _ _
      · cases h
    · cases h
  · cases h
end Go.Proofs.YtamiebojjinhcaaGreatDoor.Sx

set_option linter.unusedSimpArgs false
namespace Go.Proofs.YtamiebojjinhcaaGreatDoor.Sx
variable {P : Program} {ρ : Rho} {σ : SW} {w : World}

theorem keyCells_cons {x y : SV} {xs ys : List SV} {r : Bool} (h : keyCells (x :: xs) (y :: ys) = some r) : ∃ k a b r', x = .int k a ∧ y = .int k b ∧ keyCells xs ys = some r' ∧ r = (decide (a = b) && r') := by
  unfold keyCells at h
  split at h
  · rename_i heq _; cases heq
  · rename_i k a xs' k' b ys' e1 e2
    injection e1 with e1 e1'; injection e2 with e2 e2'
    subst e1; subst e1'; subst e2; subst e2'
    split at h
    · rename_i r' hr
      split at h
      · rename_i hk
        subst hk
        injection h with h
        exact ⟨k, a, b, r', rfl, rfl, hr, h.symm⟩
      · cases h
    · cases h
  · cases h
theorem intField {f : Field} {fs : List Field} {k : Nat} (h : intFields P (f :: fs) k = true) : (∃ q, P.underlying f.type = some (.int q)) ∧ f.name ≠ "_" ∧ f.offset = k ∧ intFields P fs (k + 1) = true := by
  simp only [intFields, Bool.and_eq_true] at h
  obtain ⟨⟨⟨h1, h2⟩, h3⟩, h4⟩ := h
  refine ⟨?_, by simpa using h2, Nat.eq_of_beq_eq_true h3, h4⟩
  split at h1
  · rename_i q hq; exact ⟨q, hq⟩
  · cases h1
theorem isAgg_int {t : Nat} {q : IntKind} (h : P.underlying t = some (.int q)) : (isAgg t).run P w = .ok false w := by simp [isAgg, run_underlying h]
theorem eqFields_int (d : Nat) {xs ys : Array Value} {a b : List SV} (ha : VRs ρ a xs.toList) (hb : VRs ρ b ys.toList) : ∀ (fs : List Field) (k : Nat) (r : Bool), intFields P fs k = true → (a.drop k).length = fs.length → keyCells (a.drop k) (b.drop k) = some r →
    (Op.eqFields (d + 1) xs ys fs).run P w = .ok r w
  | [], k, r, _, hl, hk => by
    have : a.drop k = [] := List.eq_nil_of_length_eq_zero (by simpa using hl)
    rw [this] at hk
    cases hbd : b.drop k with
    | nil => rw [hbd] at hk; simp [keyCells] at hk; subst hk; simp [Op.eqFields]
    | cons y ys => rw [hbd] at hk; simp [keyCells] at hk
  | f :: fs, k, r, hf, hl, hk => by
    obtain ⟨⟨q, hq⟩, hn, ho, hf'⟩ := intField hf
    cases had : a.drop k with
    | nil => rw [had] at hl; simp at hl
    | cons x xs' =>
      cases hbd : b.drop k with
      | nil => rw [had, hbd] at hk; cases x <;> simp [keyCells] at hk
      | cons y ys' =>
        rw [had, hbd] at hk
        obtain ⟨kd, m, n, r', rfl, rfl, hr, rfl⟩ := keyCells_cons hk
        have hax : a[k]? = some (.int kd m) := by have := congrArg (·[0]?) had; simpa using this
        have hby : b[k]? = some (.int kd n) := by have := congrArg (·[0]?) hbd; simpa using this
        have had' : a.drop (k + 1) = xs' := by have := congrArg (·.drop 1) had; simpa [Nat.add_comm] using this
        have hbd' : b.drop (k + 1) = ys' := by have := congrArg (·.drop 1) hbd; simpa [Nat.add_comm] using this
        obtain ⟨u, hu, hu'⟩ := ha.get hax
        obtain ⟨v, hv, hv'⟩ := hb.get hby
        cases hu'; cases hv'
        have hx : xs[k]? = some (.int kd m) := by simpa using hu
        have hy : ys[k]? = some (.int kd n) := by simpa using hv
        have ih := eqFields_int d ha hb fs (k + 1) r' hf' (by rw [had']; rw [had] at hl; simpa using hl) (by rw [had', hbd']; exact hr)
        simp only [Op.eqFields, hn, ne_eq, not_false_eq_true, if_true]
        simp only [Sem.run_bind, Go.part, isAgg_int hq, Result.andThen_ok, Bool.false_eq_true, if_false, ho, hx, hy, Sem.run_pure, Op.equalIn, run_underlying hq]
        by_cases hmn : m = n
        · subst hmn; simp [ih]
        · simp [hmn]
theorem keyKind_struct {kt : Nat} (h : keyKind P kt = some true) : ∃ fs, P.underlying kt = some (.struct fs) ∧ intFields P fs.toList 0 = true ∧ P.stoodInHeld kt = false := by
  unfold keyKind at h
  split at h
  · cases h
  · rename_i fs hu
    split at h
    · rename_i hc
      simp at hc
      exact ⟨fs, hu, hc.1, hc.2⟩
    · cases h
  · cases h
theorem keyKind_string {kt : Nat} (h : keyKind P kt = some false) : P.underlying kt = some .string := by
  unfold keyKind at h
  split at h
  · assumption
  · split at h <;> cases h
  · cases h
theorem equal_struct {kt : Nat} (hk : keyKind P kt = some true) {a b : List SV} {xs ys : Array Value} (ha : VRs ρ a xs.toList) (hb : VRs ρ b ys.toList) {r : Bool} (h : keyCells a b = some r) (hok : keyOk P kt true (.agg a) = true) :
    (Op.equal kt (.agg xs) (.agg ys)).run P w = .ok r w := by
  obtain ⟨fs, hu, hf, hs⟩ := keyKind_struct hk
  have hfo : P.fieldsOf kt = fs := by simp [Program.fieldsOf, hu]
  simp only [keyOk, hu, Bool.and_eq_true] at hok
  have hl := Nat.eq_of_beq_eq_true hok.1
  show (Op.equalIn (9998 + 1 + 1) kt (.agg xs) (.agg ys)).run P w = _
  rw [run_equalIn_struct w _ kt xs ys (by rw [hfo]; exact hu) hs, hfo]
  exact eqFields_int 9998 ha hb fs.toList 0 r hf (by simp [hl]) (by simpa using h)
theorem keyCells_self {a : List SV} {r : Bool} (h : keyCells a a = some r) : ∀ x ∈ a, ∃ k n, x = .int k n := by
  induction a generalizing r with
  | nil => simp
  | cons x a ih =>
    obtain ⟨k, m, n, r', rfl, e, hr, _⟩ := keyCells_cons h
    intro y hy
    rcases List.mem_cons.1 hy with rfl | hy
    · exact ⟨k, m, rfl⟩
    · exact ih hr y hy
theorem checkFields_int (em : Bool) (d : Nat) {xs : Array Value} {a : List SV} (ha : VRs ρ a xs.toList) (hi : ∀ x ∈ a, ∃ k n, x = SV.int k n) : ∀ (fs : List Field) (k : Nat), intFields P fs k = true → (a.drop k).length = fs.length →
    (forIn fs PUnit.unit (fun (f : Field) (r : PUnit) => if f.name ≠ "_" then do Instr.checkKey em (d + 1) f.type (← Go.part f.type xs f.offset); pure (ForInStep.yield PUnit.unit) else pure (ForInStep.yield PUnit.unit))).run P w = .ok PUnit.unit w
  | [], k, _, _ => by simp
  | f :: fs, k, hf, hl => by
    obtain ⟨⟨q, hq⟩, hn, ho, hf'⟩ := intField hf
    have hlt : k < a.length := by simp at hl; omega
    obtain ⟨kd, m, hx⟩ := hi a[k] (List.getElem_mem _)
    obtain ⟨u, hu, hu'⟩ := ha.get (List.getElem?_eq_getElem hlt)
    rw [hx] at hu'
    cases hu'
    have hxs : xs[k]? = some (.int kd m) := by simpa using hu
    have ih := checkFields_int em d ha hi fs (k + 1) hf' (by simp at hl ⊢; omega)
    simp only [List.forIn_cons, Sem.run_bind, hn, ne_eq, not_false_eq_true, if_true, Go.part, isAgg_int hq, Result.andThen_ok, Bool.false_eq_true, if_false, ho, hxs, Sem.run_pure, Instr.checkKey, run_underlying hq]
    exact ih
theorem checkKey_spec {kt : Nat} {kd : Bool} (hk : keyKind P kt = some kd) {k : SV} (hok : keyOk P kt kd k = true) {u : Value} (hu : VR ρ k u) (em : Bool) : (Instr.checkKey em 10000 kt u).run P w = .ok () w := by
  cases kd with
  | false =>
    have hs := keyKind_string hk
    cases k <;> simp only [keyOk] at hok <;> try (cases hok; done)
    cases hu
    exact MapKept.run_checkKey (n := 9999) hs (by simp [MapKept.IsKey]) em
  | true =>
    obtain ⟨fs, hs, hf, _⟩ := keyKind_struct hk
    cases k <;> simp only [keyOk] at hok <;> try (cases hok; done)
    rename_i a
    cases hu with
    | agg ha =>
      rename_i xs
      simp only [hs, Bool.and_eq_true] at hok
      have hl := Nat.eq_of_beq_eq_true hok.1
      have hi : ∀ x ∈ a, ∃ k n, x = SV.int k n := by
        have h2 := hok.2
        split at h2
        · rename_i r hr; exact keyCells_self hr
        · cases h2
      show (Instr.checkKey em (9998 + 1 + 1) kt (.agg xs)).run P w = _
      unfold Instr.checkKey
      simp only [Sem.run_bind, run_underlying hs, Result.andThen_ok]
      have := checkFields_int (P := P) (w := w) em 9998 ha hi fs.toList 0 hf (by simp [hl])
      simp at this
      simp [this]

/-- What is found under a key. -/
def Found (kd : Bool) (k : SV) (es : List (SV × SV × Nat)) (ρ : Rho) : Option SV → Option (Nat × Value) → Prop
  | none, none => True
  | some v, some (i, u) => VR ρ v u ∧ i < es.length ∧ eraseS kd k es = some (es.eraseIdx i)
  | _, _ => False
theorem findAsking_spec {kt : Nat} (hk : keyKind P kt = some true) {k : SV} (hok : keyOk P kt true k = true) {u : Value} (hu : VR ρ k u) : ∀ {es : List (SV × SV × Nat)} {ds : List MapEntry} {r : Option SV} (j : Nat), MRs ρ es ds → findS true k es = some r →
    ∃ r', (Instr.findAsking kt u ds j).run P w = .ok r' w ∧ (match r, r' with
      | none, none => True
      | some v, some (i, u) => VR ρ v u ∧ j ≤ i ∧ i - j < es.length ∧ eraseS true k es = some (es.eraseIdx (i - j))
      | _, _ => False)
  | [], ds, r, j, hm, h => by
    cases hm
    simp [findS] at h
    subst h
    exact ⟨none, by simp [Instr.findAsking], trivial⟩
  | (k', v, c) :: es, ds, r, j, hm, h => by
    cases hm with
    | cons hkk hvv hcc hm =>
      rename_i e ds
      cases k with
      | agg a =>
        unfold findS at h
        cases hu with
        | agg ha =>
          rename_i xs
          split at h
          · rename_i hkey
            injection h with h; subst h
            cases k' with
            | agg b =>
              obtain ⟨ek, ev, eb⟩ := e
              cases hkk with
              | agg hb =>
                have heq := equal_struct (w := w) hk ha hb (by simpa [keyS] using hkey) hok
                refine ⟨some (j, ev), by simp [Instr.findAsking, heq], hvv, Nat.le_refl _, by simp, ?_⟩
                simp [eraseS, hkey]
            | _ => simp [keyS] at hkey
          · rename_i hkey
            cases k' with
            | agg b =>
              obtain ⟨ek, ev, eb⟩ := e
              cases hkk with
              | agg hb =>
                have heq := equal_struct (w := w) hk ha hb (by simpa [keyS] using hkey) hok
                obtain ⟨r', hr', hm'⟩ := findAsking_spec hk hok (VR.agg ha) (j + 1) hm h
                refine ⟨r', by simp [Instr.findAsking, heq, hr'], ?_⟩
                cases r <;> cases r' <;> try exact hm'
                rename_i v' p
                obtain ⟨i, u'⟩ := p
                obtain ⟨h1, h2, h3, h4⟩ := hm'
                refine ⟨h1, by omega, by simp; omega, ?_⟩
                have : i - j = (i - (j + 1)) + 1 := by omega
                simp [eraseS, hkey, h4, this]
            | _ => simp [keyS] at hkey
          · cases h
      | _ => simp [keyOk] at hok
theorem findNow_spec {k : List Nat} {s : ByteArray} (hs : s.data.toList.map UInt8.toNat = k) : ∀ {es : List (SV × SV × Nat)} {ds : List MapEntry} {r : Option SV} (j : Nat), MRs ρ es ds → findS false (.str k) es = some r →
    ∃ r', Instr.findNow .string (.string s) ds j = some r' ∧ (match r, r' with
      | none, none => True
      | some v, some (i, u) => VR ρ v u ∧ j ≤ i ∧ i - j < es.length ∧ eraseS false (.str k) es = some (es.eraseIdx (i - j))
      | _, _ => False)
  | [], ds, r, j, hm, h => by
    cases hm
    simp [findS] at h
    subst h
    exact ⟨none, rfl, trivial⟩
  | (k', v, c) :: es, ds, r, j, hm, h => by
    cases hm with
    | cons hkk hvv hcc hm =>
      rename_i e ds
      unfold findS at h
      split at h
      · rename_i hkey
        injection h with h; subst h
        cases k' with
        | str b =>
          obtain ⟨ek, ev, eb⟩ := e
          generalize hx : SV.str b = x at hkk
          cases hkk <;> cases hx
          rename_i s'
          subst hs
          have hb : (s == s') = true := by
            rw [beq_toListBytes, ByteArray.toList_eq, ByteArray.toList_eq, ← eqL_iff]
            simpa [keyS] using hkey
          refine ⟨some (j, ev), by simp [Instr.findNow, Instr.sameNow, hb], hvv, Nat.le_refl _, by simp, ?_⟩
          simp [eraseS, hkey]
        | _ => simp [keyS] at hkey
      · rename_i hkey
        cases k' with
        | str b =>
          obtain ⟨ek, ev, eb⟩ := e
          generalize hx : SV.str b = x at hkk
          cases hkk <;> cases hx
          rename_i s'
          subst hs
          have hb : (s == s') = false := by
            rw [beq_toListBytes, ByteArray.toList_eq, ByteArray.toList_eq, ← eqL_iff]
            simpa [keyS] using hkey
          obtain ⟨r', hr', hm'⟩ := findNow_spec rfl (j + 1) hm h
          refine ⟨r', by simp [Instr.findNow, Instr.sameNow, hb, hr'], ?_⟩
          cases r <;> cases r' <;> try exact hm'
          rename_i v' p
          obtain ⟨i, u'⟩ := p
          obtain ⟨h1, h2, h3, h4⟩ := hm'
          refine ⟨h1, by omega, by simp; omega, ?_⟩
          have : i - j = (i - (j + 1)) + 1 := by omega
          simp [eraseS, hkey, h4, this]
        | _ => simp [keyS] at hkey
      · cases h
theorem findKey_spec {kt : Nat} {kd : Bool} (hk : keyKind P kt = some kd) {k : SV} (hok : keyOk P kt kd k = true) {u : Value} (hu : VR ρ k u) {es : List (SV × SV × Nat)} {ds : List MapEntry} {r : Option SV} (hm : MRs ρ es ds) (h : findS kd k es = some r) :
    ∃ r', (Instr.findKey kt u ds).run P w = .ok r' w ∧ Found kd k es ρ r r' := by
  cases kd with
  | false =>
    have hs := keyKind_string hk
    cases k <;> simp only [keyOk] at hok <;> try (cases hok; done)
    rename_i l
    generalize hx : SV.str l = x at hu
    cases hu <;> cases hx
    rename_i s
    obtain ⟨r', hr', hf⟩ := findNow_spec (ρ := ρ) rfl 0 hm h
    refine ⟨r', MapKept.run_findKey hs hr', ?_⟩
    cases r <;> cases r' <;> simp only [Found] <;> try exact hf
    obtain ⟨h1, h2, h3, h4⟩ := hf
    exact ⟨h1, by simpa using h3, by simpa using h4⟩
  | true =>
    obtain ⟨fs, hs, hf, _⟩ := keyKind_struct hk
    obtain ⟨r', hr', hf⟩ := findAsking_spec (w := w) hk hok hu 0 hm h
    refine ⟨r', ?_, ?_⟩
    · rw [run_findKey_eq w (by rw [hs])]
      exact hr'
    · cases r <;> cases r' <;> simp only [Found] <;> try exact hf
      obtain ⟨h1, h2, h3, h4⟩ := hf
      exact ⟨h1, by simpa using h3, by simpa using h4⟩
theorem lookupS_spec {t : Nat} {m k r : SV} {ok : Bool} {h : H} (hl : lookupS P t m k ok h = some r) {u v : Value} (hu : VR ρ m u) (hv : VR ρ k v) (ho : ∀ i o, h.get i = some o → OR ρ w i o) :
    ∃ z, (Instr.lookup t u v ok).run P w = .ok z w ∧ VR ρ r z := by
  unfold lookupS at hl
  split at hl
  · rename_i kt e b ht
    have key : ∀ (es : List (SV × SV × Nat)) (ds : Array MapEntry), MRs ρ es ds.toList → (match keyKind P kt with
          | some kd => if keyOk P kt kd k then (match findS kd k es, zeroS P e with
            | some (some v), _ => some (if ok then .tuple [v, .bool true] else v)
            | some none, some z => some (if ok then .tuple [z, .bool false] else z)
            | _, _ => none) else none
          | none => none) = some r → ∀ (em : Bool), ∃ z, ((do
            Instr.checkKey em 10000 kt v
            let (x, ok') ← match ← Instr.findKey kt v ds.toList with
              | some (_, x) => pure (x, true)
              | none => pure (← zeroValue e, false)
            pure (if ok then .tuple #[x, .bool ok'] else x) : Sem Value)).run P w = .ok z w ∧ VR ρ r z := by
      intro es ds hm hr em
      split at hr
      · rename_i kd hkd
        split at hr
        · rename_i hok
          have hc := checkKey_spec (w := w) hkd hok hv em
          split at hr
          · rename_i x hf
            obtain ⟨r', h1, h2⟩ := findKey_spec (w := w) hkd hok hv hm hf
            cases r' with
            | none => exact h2.elim
            | some p =>
              obtain ⟨i, x'⟩ := p
              obtain ⟨h2, _⟩ := h2
              injection hr with hr; subst hr
              cases ok with
              | true => exact ⟨.tuple #[x', .bool true], by simp [hc, h1], .tuple (.cons h2 (.cons (.bool _) .nil))⟩
              | false => exact ⟨x', by simp [hc, h1], h2⟩
          · rename_i z0 hf hz
            obtain ⟨r', h1, h2⟩ := findKey_spec (w := w) hkd hok hv hm hf
            obtain ⟨zv, hzv, hzr⟩ := zeroS_spec hz ρ w
            cases r' with
            | some p => exact h2.elim
            | none =>
              injection hr with hr; subst hr
              cases ok with
              | true => exact ⟨.tuple #[zv, .bool false], by simp [hc, h1, hzv], .tuple (.cons hzr (.cons (.bool _) .nil))⟩
              | false => exact ⟨zv, by simp [hc, h1, hzv], hzr⟩
          · cases hr
        · cases hr
      · cases hr
    cases b with
    | none =>
      simp only at hl
      cases hu
      obtain ⟨z, hz, hr⟩ := key [] #[] .nil hl true
      refine ⟨z, ?_, hr⟩
      rw [← hz]
      simp [Instr.lookup, run_underlying ht]
      rfl
    | some b =>
      cases hu with
      | map eb =>
        cases hg : h.get b with
        | none => simp [hg] at hl
        | some o =>
          cases o with
          | cells _ _ _ => simp [hg] at hl
          | dead => simp [hg] at hl
          | hole => simp [hg] at hl
          | tab _ => simp [hg] at hl
          | map es c =>
            simp only [hg] at hl
            obtain ⟨g, N, ds, h1, h2, h3⟩ := ho _ _ hg
            rw [h1] at eb; injection eb with eb; injection eb with e1 e2; subst e1
            obtain ⟨z, hz, hr⟩ := key es ds h3 hl ds.isEmpty
            refine ⟨z, ?_, hr⟩
            rw [← hz]
            simp [Instr.lookup, run_underlying ht, MapKept.run_getObj_map h2]
            rfl
  · cases hl
end Go.Proofs.YtamiebojjinhcaaGreatDoor.Sx
