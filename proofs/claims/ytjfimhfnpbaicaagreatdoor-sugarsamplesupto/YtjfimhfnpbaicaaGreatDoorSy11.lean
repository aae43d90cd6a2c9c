/- Lemma: whatever operation the abstract one answers, the machine's does the same; no condition. -/
import Derived.Test.YtjfimhfnpbaicaaGreatDoorSy10
namespace Go.Sy
set_option linter.unusedSimpArgs false
set_option linter.unusedVariables false
section
variable {P : Program} {T : Nat → Option TI} {c : Ctx} {w : World} {s : St}

theorem array_map_toList (l : Array (Nat × Operand)) (ev : Operand → Value) : (l.map fun (i, x) => (i, ev x)).toList = l.toList.map fun p => (p.1, ev p.2) := by simp

theorem agg_cells {cs : List AV} {v : Value} (h : VR c (.agg cs) v) : ∃ vs, v = .agg vs ∧ VRs c cs vs.toList := by
  cases h with | agg _ vs h => exact ⟨vs, rfl, h⟩

set_option maxHeartbeats 4000000 in
theorem aop_sound (hT : TOK P T) (hI : Inv c w s) {ea : Operand → AV} {ev : Operand → Value} (hev : ∀ x, VR c (ea x) (ev x)) (o : Oper) {r : AV} {s' : St} (h : aop T ea s o.op = some (r, s')) :
    OpOK P c s' r ((execOp ev o).run P w) := by
  obtain ⟨dst, op, type, pos, after, guard⟩ := o
  cases op with
  | move x => simp only [aop] at h; cases h; exact OpOK.val hI (hev x)
  | assign x => simp only [aop] at h; cases h; exact OpOK.val hI (hev x)
  | pick co a b =>
    simp only [aop] at h
    split at h
    · rename_i t hc
      cases h
      have hcv := hev co
      rw [hc] at hcv
      generalize hvc : ev co = vc at hcv
      cases hcv
      refine ⟨_, w, c, .inl (by simp [execOp, hvc, asBool]; rfl), Ctx.le.refl c, hI, ?_⟩
      cases t with
      | true => exact hev a
      | false => exact hev b
    · cases h
  | alloc e =>
    simp only [aop] at h
    split at h
    · rename_i ti ht
      cases h
      obtain ⟨i, d, z, hf⟩ := tfacts hT ht
      obtain ⟨v', w', c', h1, h2, h3, h4⟩ := newCells (P := P) (w := w) hI (v := z) e (zero_cells hf c)
      refine ⟨v', w', c', .inl ?_, h2, h3, h4⟩
      simp only [Sem.run_bind, Sem.run_pure] at h1
      simp only [execOp, Instr.alloc, Sem.run_bind, run_zero' hf, Result.andThen_ok, h1, Sem.run_pure]
    · cases h
  | box e x =>
    simp only [aop] at h
    split at h
    · cases h
    · rename_i hne
      cases h
      have hx := cells_rep (hev x) (fun e => hne e)
      obtain ⟨v', w', c', h1, h2, h3, h4⟩ := newCells (P := P) (w := w) hI (v := ev x) e hx
      refine ⟨v', w', c', .inl ?_, h2, h3, h4⟩
      simp only [Sem.run_bind, Sem.run_pure] at h1
      simp only [execOp, Instr.box, Sem.run_bind, Result.andThen_ok, h1, Sem.run_pure]
  | build t parts =>
    simp only [aop] at h
    split at h
    · rename_i ti ht
      split at h
      · rename_i fs hk
        split at h
        · rename_i ps hps
          split at h
          · rename_i cs hcs
            cases h
            cases hall : (fs.all fun q => (T q.2).isSome) with
            | false => rw [hall] at hps; cases hps
            | true =>
              rw [hall] at hps
              simp only [cond_true] at hps
              obtain ⟨us, g1, g2⟩ := build_struct hT ht hk hall (qs := parts.map fun (i, x) => (i, ev x)) (by rw [array_map_toList]; exact parts_of hev _) hps hcs w
              exact OpOK.same hI ⟨_, g1, .agg _ _ g2⟩
          · cases h
        · cases h
      · rename_i n e hk
        split at h
        · rename_i te hte
          split at h
          · rename_i ps hps
            split at h
            · rename_i cs hcs
              cases h
              obtain ⟨us, g1, g2⟩ := build_arr hT ht hk hte (qs := parts.map fun (i, x) => (i, ev x)) (by rw [array_map_toList]; exact parts_of hev _) hps hcs w
              exact OpOK.same hI ⟨_, g1, .agg _ _ g2⟩
            · cases h
          · cases h
        · cases h
      · cases h
    · cases h
  | buildSlice t len parts =>
    simp only [aop] at h
    split at h
    · rename_i ti ht
      split at h
      · rename_i e hk
        split at h
        · rename_i te hte
          cases hb : (Nat.ble (len * te.size) 16777216 && te.zero.flat) with
          | false => rw [hb] at h; cases h
          | true =>
            rw [hb] at h
            simp only [cond_true] at h
            simp only [Bool.and_eq_true] at hb
            split at h
            · rename_i xs hxs
              cases h
              exact OpOK.of (buildSlice_sound hT hI ht hk hte (Nat.le_of_ble_eq_true hb.1) hb.2 (qs := parts.map fun (i, x) => (i, ev x)) (by rw [array_map_toList]; exact parts_of hev _) hxs)
            · cases h
        · cases h
      · cases h
    · cases h
  | load t a =>
    simp only [aop] at h
    split at h
    · rename_i v hv
      cases h
      obtain ⟨v', g1, g2, _⟩ := aload_sound hT hI hv (hev a)
      exact OpOK.same hI ⟨v', g1, g2⟩
    · cases h
  | store t a x =>
    simp only [aop] at h
    split at h
    · rename_i ti id off ht ha
      split at h
      · rename_i cs hcs
        cases hb : (Nat.beq (ea x).cells.length ti.size && (ea x).cells.all AV.one && Nat.ble (off + ti.size) cs.length) with
        | false => rw [hb] at h; cases h
        | true =>
          rw [hb] at h; cases h
          simp only [Bool.and_eq_true] at hb
          have hav := hev a
          rw [ha] at hav
          generalize hva : ev a = va at hav
          cases hav with
          | ptr _ _ b hbi =>
          obtain ⟨w', g1, g2⟩ := store_sound hT hI ht hcs hbi (hev x) (Nat.eq_of_beq_eq_true hb.1.1) hb.1.2 (Nat.le_of_ble_eq_true hb.2) (least s.lo id)
          exact OpOK.unit ⟨w', by rw [hva]; exact g1, g2⟩
      · cases h
    · cases h
  | nilCheck x =>
    simp only [aop] at h
    have hx := hev x
    split at h
    · rename_i i o' hc
      cases h
      rw [hc] at hx
      generalize hvx : ev x = vx at hx
      cases hx with
      | ptr _ _ b hb => exact ⟨_, w, c, .inl (by simp only [execOp, hvx]; rfl), Ctx.le.refl c, hI, .ptr _ _ b hb⟩
    · rename_i v hc
      cases h
      rw [hc] at hx
      generalize hvx : ev x = vx at hx
      cases hx with
      | fp _ b o h1 h2 => exact ⟨_, w, c, .inl (by simp only [execOp, hvx]; rfl), Ctx.le.refl c, hI, .fp _ b o h1 h2⟩
    · rename_i f a b hc
      cases h
      rw [hc] at hx
      generalize hvx : ev x = vx at hx
      cases hx with
      | fn _ _ _ vfs vcs h1 h2 => exact ⟨_, w, c, .inl (by simp only [execOp, hvx]; rfl), Ctx.le.refl c, hI, .fn _ _ _ vfs vcs h1 h2⟩
    · cases h
  | binOp op t x y ty =>
    simp only [aop] at h
    split at h
    · rename_i v hv
      cases h
      exact OpOK.same hI (abin_sound hT hv (hev x) (hev y) w)
    · cases h
  | unOp op t x =>
    simp only [aop] at h
    have hx := hev x
    split at h
    · rename_i b hc
      cases h
      rw [hc] at hx
      generalize hvx : ev x = vx at hx
      cases hx
      exact OpOK.same hI ⟨.bool (!b), by rw [hvx]; simp [Op.unary], .bool _⟩
    · rename_i k n hc
      cases h
      rw [hc] at hx
      generalize hvx : ev x = vx at hx
      cases hx
      exact OpOK.same hI ⟨.int k (k.wrap (0 - n)), by rw [hvx]; simp [Op.unary, Op.intArith], by rw [wr_eq]; exact .int _ _⟩
    · cases h
  | convert src dst x =>
    simp only [aop] at h
    have hx := hev x
    split at h
    · rename_i ts td k n hs hd hc
      split at h
      · rename_i k' hk
        cases h
        obtain ⟨i, d, z, hf⟩ := tfacts hT hs
        obtain ⟨i', d', z', hf'⟩ := tfacts hT hd
        have hdd := tk_int (hf'.k.symm.trans hk)
        rw [hc] at hx
        generalize hvx : ev x = vx at hx
        cases hx
        exact OpOK.same hI ⟨.int k' (k'.wrap n), by rw [hvx]; simp [convert, run_underlying hf.und, run_underlying (hdd ▸ hf'.und), Conv.intToInt], by rw [wr_eq]; exact .int _ _⟩
      · cases h
    · rename_i ts td l hs hd hc
      split at h
      · rename_i hk hk'
        cases h
        obtain ⟨i, d, z, hf⟩ := tfacts hT hs
        obtain ⟨i', d', z', hf'⟩ := tfacts hT hd
        have hdd := tk_str (hf.k.symm.trans hk)
        have hdd' := tk_str (hf'.k.symm.trans hk')
        rw [hc] at hx
        generalize hvx : ev x = vx at hx
        cases hx
        rename_i sb
        exact OpOK.same hI ⟨.string sb, by rw [hvx]; simp [convert, run_underlying (hdd ▸ hf.und), run_underlying (hdd' ▸ hf'.und)], .str _⟩
      · rename_i e hk hk'
        split at h
        · rename_i te hte
          split at h
          · rename_i hu8
            cases h
            obtain ⟨i, d, z, hf⟩ := tfacts hT hs
            obtain ⟨i', d', z', hf'⟩ := tfacts hT hd
            obtain ⟨i2, d2, z2, hf2⟩ := tfacts hT hte
            have hdd' := tk_slice (hf'.k.symm.trans hk')
            have hdd2 := tk_int (hf2.k.symm.trans hu8)
            rw [hc] at hx
            generalize hvx : ev x = vx at hx
            cases hx
            rename_i sb
            exact OpOK.of (hvx ▸ convBytes hI sb hf.und (hdd' ▸ hf'.und) (hdd2 ▸ hf2.und))
          · cases h
        · cases h
      · cases h
    · cases h
  | makeInterface t x =>
    simp only [aop] at h
    split at h
    · rename_i ti ht
      obtain ⟨i, d, z, hf⟩ := tfacts hT ht
      have hrun : ∀ (_ : (match d with | .interface _ => false | _ => true) = true), (Instr.makeInterface t (ev x)).run P w = .ok (.iface t (ev x)) w := by
        intro hd
        cases d <;> first | (cases hd; done) | simp [Instr.makeInterface, run_underlying hf.und]
      have hk := hf.k
      split at h
      · cases h
      · cases h
      · rename_i h1 h2
        cases h
        refine OpOK.same hI ⟨_, hrun ?_, .ifc _ _ _ (hev x)⟩
        cases d <;> first | rfl | (exact absurd hk h1)
    · cases h
  | makeFunc fn first captured =>
    simp only [aop] at h
    cases h
    refine OpOK.same hI ⟨.func fn (first.map ev) (captured.map ev), rfl, .fn _ _ _ _ _ ?_ ?_⟩
    · simpa using map_ev hev first.toList
    · simpa using map_ev hev captured.toList
  | makeMap t r =>
    simp only [aop] at h
    cases r with
    | none =>
      simp only at h
      cases h
      obtain ⟨v', w', c', h1, h2, h3, h4⟩ := newMap (P := P) (w := w) hI
      exact OpOK.of ⟨v', w', c', by simpa [Instr.makeMap] using h1, h2, h3, h4⟩
    | some x =>
      simp only at h
      split at h
      · rename_i ti k n ht hc
        split at h
        · rename_i kt et hk
          cases h
          obtain ⟨i, d, z, hf⟩ := tfacts hT ht
          have hd := tk_map (hf.k.symm.trans hk)
          have hx := hev x
          rw [hc] at hx
          generalize hvx : ev x = vx at hx
          cases hx
          obtain ⟨v', w', c', h1, h2, h3, h4⟩ := newMap (P := P) (w := w) hI
          refine OpOK.of ⟨v', w', c', ?_, h2, h3, h4⟩
          simpa [Instr.makeMap, run_underlying (hd ▸ hf.und), hvx, asInt, asIntOf] using h1
        · cases h
      · cases h
  | slice t x lo hi mx =>
    simp only [aop] at h
    split at h
    · rename_i ti ht
      split at h
      · rename_i v hv
        cases h
        cases hk : ti.k with
        | str =>
          rw [hk] at hv
          exact OpOK.same hI (aslice_str hT ht hk hv (hev x) (optR hev lo) (optR hev hi) (optR hev mx) w)
        | slice e =>
          rw [hk] at hv
          simp only at hv
          cases hte : T e with
          | some te => rw [hte] at hv; exact OpOK.same hI (aslice_slice hT ht hk hte hv (hev x) (optR hev lo) (optR hev hi) (optR hev mx) w)
          | none => rw [hte] at hv; cases hv
        | _ =>
          rw [hk] at hv
          simp only at hv
          unfold aslice at hv
          rw [hk] at hv
          split at hv
          · cases hv
          · first | (cases hv; done) | (split at hv <;> first | (rename_i e; cases e; done) | (cases hv; done))
      · cases h
    · cases h
  | fieldAddr st x f =>
    simp only [aop] at h
    split at h
    · rename_i ti ht
      split at h
      · rename_i fs hk
        split at h
        · rename_i off ft hfs
          split at h
          · rename_i tf htf
            cases hz : Nat.beq tf.size 0 with
            | true => rw [hz] at h; cases h
            | false =>
              rw [hz] at h
              simp only [cond_false] at h
              have hx := hev x
              split at h
              · rename_i id o' hc
                cases h
                rw [hc] at hx
                generalize hvx : ev x = vx at hx
                cases hx with
                | ptr _ _ b hb => exact OpOK.same hI ⟨_, by rw [hvx]; exact fieldAddr_sound hT ht hk hfs htf hz b o' w, .ptr _ _ b hb⟩
              · rename_i v hc
                split at h
                · rename_i cs
                  split at h
                  · rename_i u hu
                    cases h
                    rw [hc] at hx
                    generalize hvx : ev x = vx at hx
                    cases hx with
                    | fp _ b o hfl hcs =>
                      have hall : ∀ x ∈ cs.drop off, x.flat1 = true := fun x hx => List.all_eq_true.1 hfl x (List.mem_of_mem_drop hx)
                      obtain ⟨g1, g2⟩ := pick_flat hu hall
                      refine OpOK.same hI ⟨_, by rw [hvx]; exact fieldAddr_sound hT ht hk hfs htf hz b o w, .fp _ b (o + off) g1 ?_⟩
                      rw [g2]
                      exact cells_take _ (cells_drop off hcs)
                  · cases h
                · cases h
              · cases h
          · cases h
        · cases h
      · cases h
    · cases h
  | field st x f =>
    simp only [aop] at h
    split at h
    · rename_i ti ht
      split at h
      · rename_i fs hk
        split at h
        · rename_i off ft hfs
          split at h
          · rename_i tf cs htf hc
            split at h
            · rename_i u hu
              cases h
              have hx := hev x
              rw [hc] at hx
              obtain ⟨vs, hvs, hcs⟩ := agg_cells hx
              exact OpOK.same hI (by rw [hvs]; exact field_sound hT ht hk hfs htf hcs hu w)
            · cases h
          · cases h
        · cases h
      · cases h
    · cases h
  | indexAddr t x i =>
    simp only [aop] at h
    split at h
    · rename_i ti ht
      split at h
      · rename_i e k xs n hk hc hi
        split at h
        · rename_i te v hte hv
          cases hb : (Nat.beq v.cells.length te.size && v.flat) with
          | false => rw [hb] at h; cases h
          | true =>
            rw [hb] at h; cases h
            simp only [Bool.and_eq_true] at hb
            have hsz := Nat.eq_of_beq_eq_true hb.1
            obtain ⟨ki, hki⟩ := idxOf_sound hi (hev i)
            have hx := hev x
            rw [hc] at hx
            have hlt := (List.getElem?_eq_some_iff.1 hv).1
            generalize hvx : ev x = vx at hx
            cases hx with
            | slnil => simp at hlt
            | sle => simp at hlt
            | sl _ _ b o cap sz h1 h2 h3 h4 h5 =>
              obtain ⟨g1, g2, g3⟩ := els_get h2 n v hv
              refine OpOK.same hI ⟨_, by rw [hvx, hki]; exact indexAt_slice hT ht hk hte hlt ki w, .fp _ b _ g2 ?_⟩
              rw [← hsz, g1]; exact g3
        · cases h
      · rename_i e id k cap n hk hc hi
        split at h
        · rename_i te hte
          cases hb : Nat.blt n k with
          | false => rw [hb] at h; cases h
          | true =>
            rw [hb] at h; cases h
            have hlt : n < k := by have := hb; simp [Nat.blt] at this; omega
            obtain ⟨ki, hki⟩ := idxOf_sound hi (hev i)
            have hx := hev x
            rw [hc] at hx
            generalize hvx : ev x = vx at hx
            cases hx with
            | osl _ _ _ b hb' hcap =>
              have := indexAt_slice hT ht hk hte (b := b) (o := 0) (cap := cap) hlt ki w
              rw [Nat.zero_add] at this
              exact OpOK.same hI ⟨_, by rw [hvx, hki]; exact this, .ptr _ _ b hb'⟩
        · cases h
      · rename_i len e id o' n hk hc hi
        split at h
        · rename_i te hte
          cases hb : Nat.blt n len with
          | false => rw [hb] at h; cases h
          | true =>
            rw [hb] at h; cases h
            have hlt : n < len := by have := hb; simp [Nat.blt] at this; omega
            obtain ⟨ki, hki⟩ := idxOf_sound hi (hev i)
            have hx := hev x
            rw [hc] at hx
            generalize hvx : ev x = vx at hx
            cases hx with
            | ptr _ _ b hb' => exact OpOK.same hI ⟨_, by rw [hvx, hki]; exact indexAt_arr hT ht hk hte hlt ki w, .ptr _ _ b hb'⟩
        · cases h
      · cases h
    · cases h
  | index t x i =>
    simp only [aop] at h
    split at h
    · rename_i ti ht
      split at h
      · rename_i l n hk hc hi
        split at h
        · rename_i u hu
          cases h
          obtain ⟨ki, hki⟩ := idxOf_sound hi (hev i)
          have hx := hev x
          rw [hc] at hx
          generalize hvx : ev x = vx at hx
          cases hx
          exact OpOK.same hI ⟨_, by rw [hvx, hki]; exact index_str hT ht hk hu ki w, .int _ _⟩
        · cases h
      · rename_i len e cs n hk hc hi
        split at h
        · rename_i te hte
          cases hb : Nat.blt n len with
          | false => rw [hb] at h; cases h
          | true =>
            rw [hb] at h
            simp only [cond_true] at h
            split at h
            · rename_i u hu
              cases h
              have hlt : n < len := by have := hb; simp [Nat.blt] at this; omega
              obtain ⟨ki, hki⟩ := idxOf_sound hi (hev i)
              have hx := hev x
              rw [hc] at hx
              obtain ⟨vs, hvs, hcs⟩ := agg_cells hx
              exact OpOK.same hI (by rw [hvs, hki]; exact index_arr hT ht hk hte hcs hlt hu ki w)
            · cases h
        · cases h
      · cases h
    · cases h
  | lookup t m k ok =>
    simp only [aop] at h
    split at h
    · rename_i ti ht
      split at h
      · rename_i kt et hk
        split at h
        · rename_i tk te htk hte
          split at h
          · rename_i kd hp
            split at h
            · rename_i v hv
              cases h
              exact OpOK.same hI (lookup_sound hT hI ht hk htk hte hp (hev m) (hev k) hv ok)
            · rename_i hv
              cases h
              exact OpOK.same hI (lookup_sound hT hI ht hk htk hte hp (hev m) (hev k) hv ok)
            · cases h
          · cases h
        · cases h
      · cases h
    · cases h
  | mapUpdate t m k x =>
    simp only [aop] at h
    split at h
    · rename_i ti ht
      split at h
      · rename_i kt et hk
        split at h
        · rename_i tk id htk hm
          split at h
          · rename_i kd hp
            split at h
            · rename_i es hes
              split at h
              · rename_i v hv
                cases h
                have hmv := hev m
                rw [hm] at hmv
                generalize hvm : ev m = vm at hmv
                cases hmv with
                | map _ b hb =>
                obtain ⟨w', g1, g2⟩ := mapUpdate_sound hT hI ht hk htk hp hb hes (hev k) (hev x) hv (least s.lo id)
                exact OpOK.unit ⟨w', by rw [hvm]; exact g1, g2⟩
              · cases h
            · cases h
          · cases h
        · cases h
      · cases h
    · cases h
  | insert t m k x =>
    simp only [aop] at h
    split at h
    · rename_i ti ht
      split at h
      · rename_i kt et hk
        split at h
        · rename_i tk id htk hm
          split at h
          · rename_i kd hp
            split at h
            · rename_i es hes
              split at h
              · rename_i v hv
                cases h
                have hmv := hev m
                rw [hm] at hmv
                generalize hvm : ev m = vm at hmv
                cases hmv with
                | map _ b hb =>
                obtain ⟨w', g1, g2⟩ := mapUpdate_sound hT hI ht hk htk hp hb hes (hev k) (hev x) hv (least s.lo id)
                exact OpOK.unit ⟨w', by rw [hvm]; exact g1, g2⟩
              · cases h
            · cases h
          · cases h
        · cases h
      · cases h
    · cases h
  | typeAssert x xt asserted ok =>
    simp only [aop] at h
    split at h
    · rename_i ta hta
      obtain ⟨i, d, z, hf⟩ := tfacts hT hta
      have hk := hf.k
      have hx := hev x
      cases hna : noAssert ta.k with
      | true => rw [hna] at h; cases h
      | false =>
      rw [hna] at h
      simp only [cond_false] at h
      have hni : ∀ ms, d ≠ .interface ms := fun ms e => by subst e; rw [hk] at hna; cases hna
      split at h
      · rename_i hc
        cases ok with
        | false => cases h
        | true =>
          cases h
          rw [hc] at hx
          generalize hvx : ev x = vx at hx
          cases hx
          refine OpOK.same hI ⟨.tuple #[z, .bool false], ?_, .tup _ _ (.vcons _ _ _ _ (zero_rep hf c) (.vcons _ _ _ _ (.bool _) .vnil))⟩
          rw [hvx]
          cases d <;> first | (exact absurd rfl (hni _)) | simp [Instr.typeAssert, run_underlying hf.und, run_zero' hf]
      · rename_i t v hc
        rw [hc] at hx
        generalize hvx : ev x = vx at hx
        cases hx with
        | ifc _ _ u hu =>
        cases hb : Nat.beq t asserted with
        | true =>
          rw [hb] at h
          have ht := Nat.eq_of_beq_eq_true hb
          subst ht
          cases ok with
          | true =>
            cases h
            refine OpOK.same hI ⟨.tuple #[u, .bool true], ?_, .tup _ _ (.vcons _ _ _ _ hu (.vcons _ _ _ _ (.bool _) .vnil))⟩
            rw [hvx]
            cases d <;> first | (exact absurd rfl (hni _)) | simp [Instr.typeAssert, run_underlying hf.und]
          | false =>
            cases h
            refine OpOK.same hI ⟨u, ?_, hu⟩
            rw [hvx]
            cases d <;> first | (exact absurd rfl (hni _)) | simp [Instr.typeAssert, run_underlying hf.und]
        | false =>
          rw [hb] at h
          have ht : ¬ t = asserted := fun e => by rw [beq_of e] at hb; cases hb
          cases ok with
          | false => cases h
          | true =>
            cases h
            refine OpOK.same hI ⟨.tuple #[z, .bool false], ?_, .tup _ _ (.vcons _ _ _ _ (zero_rep hf c) (.vcons _ _ _ _ (.bool _) .vnil))⟩
            rw [hvx]
            cases d <;> first | (exact absurd rfl (hni _)) | simp [Instr.typeAssert, run_underlying hf.und, run_zero' hf, ht]
      · cases h
    · cases h
  | extract t i =>
    simp only [aop] at h
    split at h
    · rename_i vs hc
      split at h
      · rename_i v hv
        cases h
        have hx := hev t
        rw [hc] at hx
        generalize hvx : ev t = vx at hx
        cases hx with
        | tup _ us hus =>
        obtain ⟨u, g1, g2⟩ := VRs.get hus i _ hv
        refine OpOK.same hI ⟨u, ?_, g2⟩
        have : us[i]? = some u := by simpa using g1
        rw [hvx]
        simp [Instr.extract, this]
      · cases h
    · cases h
  | call ca =>
    simp only [aop] at h
    split at h
    · rename_i b hb
      have := abuiltin_sound (ty := type) (cs := ca.args.map fun | .const _ => true | _ => false) (vs := ca.args.map ev) hT hI h (by simpa using map_ev hev ca.args.toList)
      obtain ⟨v, w', c', h1, h2⟩ := this
      refine ⟨v, w', c', ?_, h2⟩
      have e : (execOp ev { dst, op := .call ca, type, pos, after, guard }).run P w = (builtin b ca.argTypes type (ca.args.map fun | .const _ => true | _ => false) (ca.args.map ev)).run P w := by
        simp only [execOp, resolve, hb, Sem.run_bind, Sem.run_pure, Result.andThen_ok, invoke]
        rfl
      rw [e]; exact h1
    · cases h
  | _ => simp only [aop] at h; cases h
end
end Go.Sy
