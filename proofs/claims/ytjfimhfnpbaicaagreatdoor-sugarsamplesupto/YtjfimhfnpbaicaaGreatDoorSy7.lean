/- Lemmas: slices of slices and of texts; append; stores; no condition. -/
import Derived.Test.YtjfimhfnpbaicaaGreatDoorSy6
namespace Go.Sy
set_option linter.unusedSimpArgs false
set_option linter.unusedVariables false
section
variable {P : Program} {T : Nat → Option TI} {c : Ctx} {w : World} {s : St}

def OptR (c : Ctx) : Option AV → Option Value → Prop
  | none, none => True
  | some a, some v => VR c a v
  | _, _ => False
theorem optR {f : Operand → AV} {g : Operand → Value} (h : ∀ x, VR c (f x) (g x)) (o : Option Operand) : OptR c (o.map f) (o.map g) := by
  cases o with
  | none => trivial
  | some x => exact h x

theorem run_bound {v : Value} {k : IntKind} {n y : Nat} (hv : v = .int k (n : Int)) (h : n ≤ y) (code : BoundsCode) (w : World) : (Instr.sliceBound v y code).run P w = .ok n w := by
  subst hv
  have h1 : (0 : Int) ≤ (n : Int) ∧ (n : Int) ≤ (y : Int) := by omega
  simp only [Instr.sliceBound, asIntOf, Sem.run_bind, Sem.run_pure, Result.andThen_ok, if_pos h1, Int.toNat_natCast]

theorem run_bounds {lo hi : Option AV} {vlo vhi : Option Value} (hlo : OptR c lo vlo) (hhi : OptR c hi vhi) {l h len cap : Nat} (b : Bool)
    (h1 : optIdx 0 lo = some l) (h2 : optIdx len hi = some h) (hle : l ≤ h) (hc : h ≤ len) (hcap : len ≤ cap) (w : World) :
    (Instr.sliceBounds b len cap vlo vhi none).run P w = .ok (l, h, cap) w := by
  cases lo with
  | none =>
    cases vlo with
    | some v => exact hlo.elim
    | none =>
    cases h1
    cases hi with
    | none =>
      cases vhi with
      | some v => exact hhi.elim
      | none => cases h2; simp [Instr.sliceBounds]
    | some a =>
      cases vhi with
      | none => exact hhi.elim
      | some v =>
        obtain ⟨k, hk⟩ := idxOf_sound h2 hhi
        simp [Instr.sliceBounds, run_bound hk (Nat.le_trans hc hcap)]
  | some a =>
    cases vlo with
    | none => exact hlo.elim
    | some v =>
    obtain ⟨k, hk⟩ := idxOf_sound h1 hlo
    cases hi with
    | none =>
      cases vhi with
      | some v => exact hhi.elim
      | none => cases h2; simp [Instr.sliceBounds, run_bound hk hle]
    | some a' =>
      cases vhi with
      | none => exact hhi.elim
      | some v' =>
        obtain ⟨k', hk'⟩ := idxOf_sound h2 hhi
        simp [Instr.sliceBounds, run_bound hk' (Nat.le_trans hc hcap), run_bound hk hle]

theorem els_size {sz n b o : Nat} {xs : List AV} (h : Rep c (.els sz xs b o)) (he : elSize n xs = true) (hne : xs ≠ []) : sz = n := by
  cases xs with
  | nil => exact absurd rfl hne
  | cons x xs =>
    cases h with
    | econs _ _ _ _ _ h1 h2 h3 h4 => rw [← h1]; exact Nat.eq_of_beq_eq_true he

theorem aslice_str (hT : TOK P T) {t : TypeId} {ti : TI} (ht : T t = some ti) (hk : ti.k = .str) {esz : Nat} {x r : AV} {lo hi mx : Option AV} (h : aslice ti esz x lo hi mx = some r)
    {vx : Value} {vlo vhi vmx : Option Value} (hx : VR c x vx) (hlo : OptR c lo vlo) (hhi : OptR c hi vhi) (hmx : OptR c mx vmx) (w : World) : ∃ v, (Instr.sliceAt t vx vlo vhi vmx).run P w = .ok v w ∧ VR c r v := by
  obtain ⟨i, d, z, hf⟩ := tfacts hT ht
  obtain rfl := tk_str (hf.k.symm.trans hk)
  unfold aslice at h
  rw [hk] at h
  split at h
  · cases h
  · rename_i l hl
    split at h
    case h_2 => rename_i e; cases e
    case h_3 => cases h
    split at h
    · cases hx
      rename_i h' sb hh
      cases vmx with
      | some v => exact hmx.elim
      | none =>
      cases hb : (Nat.ble l h' && Nat.ble h' sb.data.toList.length) with
      | false => rw [hb] at h; cases h
      | true =>
        rw [hb] at h; cases h
        simp only [Bool.and_eq_true] at hb
        have h1 := Nat.le_of_ble_eq_true hb.1
        have h2 := Nat.le_of_ble_eq_true hb.2
        have hsz : sb.data.toList.length = sb.size := by rw [Array.length_toList]; rfl
        rw [hsz] at h2 hh
        have hb := run_bounds (P := P) hlo hhi (len := sb.size) (cap := sb.size) false hl hh h1 h2 (Nat.le_refl _) w
        refine ⟨.string (sb.extract l h'), ?_, ?_⟩
        · simp [Instr.sliceAt, run_underlying hf.und, Instr.slice, hb]
        · have := Rep.str (c := c) (sb.extract l h')
          rw [show (sb.extract l h').data.toList = (sb.data.toList.take h').drop l by rw [ByteArray.data_extract, Array.toList_extract, List.extract_eq_take_drop, List.drop_take]] at this
          exact this
    · cases h

theorem aslice_slice (hT : TOK P T) {t e : TypeId} {ti te : TI} (ht : T t = some ti) (hk : ti.k = .slice e) (hte : T e = some te) {x r : AV} {lo hi mx : Option AV} (h : aslice ti te.size x lo hi mx = some r)
    {vx : Value} {vlo vhi vmx : Option Value} (hx : VR c x vx) (hlo : OptR c lo vlo) (hhi : OptR c hi vhi) (hmx : OptR c mx vmx) (w : World) : ∃ v, (Instr.sliceAt t vx vlo vhi vmx).run P w = .ok v w ∧ VR c r v := by
  obtain ⟨i, d, z, hf⟩ := tfacts hT ht
  obtain ⟨i', d', z', hf'⟩ := tfacts hT hte
  obtain rfl := tk_slice (hf.k.symm.trans hk)
  unfold aslice at h
  rw [hk] at h
  split at h
  · cases h
  · rename_i l hl
    split at h
    case h_1 => rename_i e; cases e
    case h_3 => cases h
    rename_i k xs he
    cases mx with
    | none =>
      cases vmx with
      | some v => exact hmx.elim
      | none =>
      simp only at h
      split at h
      case h_2 => cases h
      rename_i h' hh
      cases hb : (Nat.ble l h' && Nat.ble h' xs.length && elSize te.size xs) with
      | false => rw [hb] at h; cases h
      | true =>
        rw [hb] at h; cases h
        simp only [Bool.and_eq_true] at hb
        have h1 := Nat.le_of_ble_eq_true hb.1.1
        have h2 := Nat.le_of_ble_eq_true hb.1.2
        have hes := hb.2
        cases hx with
        | slnil _ hkk =>
          simp only [List.length_nil, Nat.le_zero] at h2
          subst h2
          obtain rfl : l = 0 := by omega
          have hbd := run_bounds (P := P) hlo hhi (len := 0) (cap := 0) true hl hh h1 (Nat.le_refl _) (Nat.le_refl _) w
          refine ⟨.slice none 0 0, ?_, ?_⟩
          · simp [Instr.sliceAt, run_underlying hf.und, Instr.slice, hbd, run_sizeOf' hf']
          · rcases hkk with rfl | rfl | ⟨t', rfl⟩
            · exact .slnil _ (.inl rfl)
            · exact .slnil _ (.inr (.inl rfl))
            · exact .slnil _ (.inr (.inr ⟨t', rfl⟩))
        | sle _ ad cap hkk =>
          simp only [List.length_nil, Nat.le_zero] at h2
          subst h2
          obtain rfl : l = 0 := by omega
          have hbd := run_bounds (P := P) hlo hhi (len := 0) (cap := cap) true hl hh h1 (Nat.le_refl _) (Nat.zero_le _) w
          have hkind : sliceKind k 0 0 0 = k := by cases k <;> simp [sliceKind]
          refine ⟨.slice (some ad) 0 cap, ?_, ?_⟩
          · simp [Instr.sliceAt, run_underlying hf.und, Instr.slice, hbd, run_sizeOf' hf', Addr.add]
          · simp only [List.length_nil, hkind, List.take_nil, List.drop_nil]
            exact .sle k ad cap hkk
        | sl _ _ b o cap sz hkn hels hcap hfull htok =>
          have hbd := run_bounds (P := P) hlo hhi (len := xs.length) (cap := cap) true hl hh h1 h2 hcap w
          have hlen : ((xs.take h').drop l).length = h' - l := by simp; omega
          by_cases hs : l = 0 ∧ h' = xs.length
          · obtain ⟨rfl, rfl⟩ := hs
            have hkind : sliceKind k xs.length 0 xs.length = k := by
              cases k <;> simp [sliceKind]
            refine ⟨.slice (some ⟨b, o, none⟩) xs.length cap, ?_, ?_⟩
            · simp [Instr.sliceAt, run_underlying hf.und, Instr.slice, hbd, run_sizeOf' hf', addr_add]
            · rw [hkind]
              simp only [List.take_length, List.drop_zero]
              exact .sl k xs b o cap sz hkn hels hcap hfull htok
          · have hkind : sliceKind k xs.length l h' = .fro ∨ sliceKind k xs.length l h' = .non := by
              have hbq : (Nat.beq l 0 && Nat.beq h' xs.length) = false := by
                by_cases e1 : l = 0
                · have e2 : h' ≠ xs.length := fun e => hs ⟨e1, e⟩
                  simp [beq_ne e2]
                · simp [beq_ne e1]
              cases k with
              | nil => exact absurd rfl hkn
              | fro => exact .inl rfl
              | non => right; simp [sliceKind, hbq]
              | full => right; simp [sliceKind, hbq]
              | tok t => right; simp [sliceKind, hbq]
            have hmk : ∀ k', (k' = .fro ∨ k' = .non) → ∀ o' cap', Rep c (.els sz ((xs.take h').drop l) b o') → h' - l ≤ cap' → VR c (.sl k' ((xs.take h').drop l)) (.slice (some ⟨b, o', none⟩) (h' - l) cap') := by
              intro k' hk' o' cap' hr hc'
              rw [← hlen]
              exact .sl k' _ b o' cap' sz (by rcases hk' with rfl | rfl <;> simp) hr (by rw [hlen]; exact hc') (by rcases hk' with rfl | rfl <;> simp) (by rcases hk' with rfl | rfl <;> simp)
            by_cases hm : cap = l
            · subst hm
              refine ⟨.slice (some ⟨b, o, none⟩) (h' - cap) (cap - cap), ?_, hmk _ hkind o (cap - cap) ?_ (by omega)⟩
              · simp [Instr.sliceAt, run_underlying hf.und, Instr.slice, hbd, run_sizeOf' hf']
              · have : (xs.take h').drop cap = [] := List.drop_of_length_le (by simp; omega)
                rw [this]; exact .enil sz b o
            · refine ⟨.slice (some ⟨b, o + l * te.size, none⟩) (h' - l) (cap - l), ?_, hmk _ hkind _ _ ?_ (by omega)⟩
              · simp [Instr.sliceAt, run_underlying hf.und, Instr.slice, hbd, run_sizeOf' hf', hm, addr_add]
              · by_cases hxs : xs = []
                · subst hxs; simp; exact .enil sz b _
                · rw [← els_size hels hes hxs]
                  exact els_drop l (by simp; omega) (els_take h' hels)
    | some m =>
      simp only at h
      split at h
      case h_2 => cases h
      rename_i h1 h20 h2
      cases hb : Nat.beq l 0 with
      | false => rw [hb] at h; cases h
      | true =>
        rw [hb] at h; cases h
        have hl0 := Nat.eq_of_beq_eq_true hb
        subst hl0
        cases vmx with
        | none => exact hmx.elim
        | some vm =>
        cases hi with
        | none => cases h20
        | some a =>
        cases vhi with
        | none => exact hhi.elim
        | some va =>
        obtain ⟨km, hkm⟩ := idxOf_sound h1 hmx
        obtain ⟨kh, hkh⟩ := idxOf_sound h2 hhi
        cases hx with
        | slnil _ hkk => rcases hkk with e | e | ⟨_, e⟩ <;> cases e
        | sle _ ad cap hkk =>
          have hbd : (Instr.sliceBounds true 0 cap vlo (some va) (some vm)).run P w = .ok (0, 0, 0) w := by
            cases lo with
            | none =>
              cases vlo with
              | some v => exact hlo.elim
              | none => simp [Instr.sliceBounds, run_bound hkm (Nat.zero_le cap), run_bound hkh (Nat.zero_le 0)]
            | some al =>
              cases vlo with
              | none => exact hlo.elim
              | some vl =>
                obtain ⟨kl, hkl⟩ := idxOf_sound hl hlo
                simp [Instr.sliceBounds, run_bound hkm (Nat.zero_le cap), run_bound hkh (Nat.zero_le 0), run_bound hkl (Nat.zero_le 0)]
          refine ⟨.slice (some ad) 0 0, ?_, ?_⟩
          · simp [Instr.sliceAt, run_underlying hf.und, Instr.slice, hbd, run_sizeOf' hf', Addr.add]
          · exact .sle .full ad 0 (.inr (.inr ⟨rfl, rfl⟩))
        | sl _ _ b o cap sz hkn hels hcap hfull htok =>
          have hbd : (Instr.sliceBounds true xs.length cap vlo (some va) (some vm)).run P w = .ok (0, 0, 0) w := by
            cases lo with
            | none =>
              cases vlo with
              | some v => exact hlo.elim
              | none => simp [Instr.sliceBounds, run_bound hkm (Nat.zero_le cap), run_bound hkh (Nat.zero_le 0)]
            | some al =>
              cases vlo with
              | none => exact hlo.elim
              | some vl =>
                obtain ⟨kl, hkl⟩ := idxOf_sound hl hlo
                simp [Instr.sliceBounds, run_bound hkm (Nat.zero_le cap), run_bound hkh (Nat.zero_le 0), run_bound hkl (Nat.zero_le 0)]
          refine ⟨.slice (some ⟨b, o, none⟩) 0 0, ?_, ?_⟩
          · simp [Instr.sliceAt, run_underlying hf.und, Instr.slice, hbd, run_sizeOf' hf']
          · exact .sl .full [] b o 0 sz (by simp) (.enil sz b o) (Nat.le_refl _) ⟨fun _ => rfl, by simp⟩ (by simp)
end
end Go.Sy
