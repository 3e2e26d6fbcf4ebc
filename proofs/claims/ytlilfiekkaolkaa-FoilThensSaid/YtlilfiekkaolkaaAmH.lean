/- Operations, second part: arithmetic, addresses, slices, loads. -/
import Derived.Test.YtlilfiekkaolkaaAmG
set_option linter.unusedVariables false
set_option linter.unusedSimpArgs false
namespace Go.Proofs.Ytlilfiekkaolkaa.Am
open Go
section
variable {P : Program} {G : Gh} {T : Tab} {w : World} {E : Env} {a : Act} {o : Oper} {call : CallA} {lo : Nat}

theorem maxDepth_succ : ∃ d, Op.maxDepth = d + 1 := ⟨9999, rfl⟩

theorem op_bin (s : Sim G T w) (he : EnvR G w E a) {op : BinOp} {x y : Opd} {v : AV} {T' : Tab} (hc : chkOp P (.bin op x y) o = true) (hs : stepOp call lo E T (.bin op x y) = some (v, T')) : OpOK P o a w (Res lo G T w T' v) := by
  simp only [chkOp] at hc
  split at hc
  · rename_i op' t x' y' yt ho
    simp only [Bool.and_eq_true, decide_eq_true_eq] at hc
    obtain ⟨⟨rfl, hx⟩, hy⟩ := hc
    have rx := val_sound he hx
    have ry := val_sound he hy
    simp only [stepOp, Option.map_eq_some_iff, Prod.mk.injEq] at hs
    obtain ⟨u, hu, rfl, rfl⟩ := hs
    have hrun : ∀ cv, (eqGuard op t x' y' (a.eval x') (a.eval y')).run P w = .ok () w → (binOp op t (a.eval x') (a.eval y')).run P w = .ok cv w → RV G w u cv → OpOK P o a w (Res lo G T w T u) := by
      intro cv h0 h1 h2
      refine opOK_value (v := cv) (w' := w) ?_ (res_same s h2)
      simp [execOp, ho, h0, h1]
    generalize val E x = vx at rx hu
    generalize val E y = vy at ry hu
    generalize hcx : a.eval x' = cx at rx hrun
    generalize hcy : a.eval y' = cy at ry hrun
    unfold abin at hu
    split at hu
    · rename_i k n k' n'
      cases rx
      cases ry
      have hg : (eqGuard op t x' y' (.int k n) (.int k' n')).run P w = .ok () w := by unfold eqGuard; split <;> simp
      split at hu
      · rename_i hop
        subst hop
        split at hu
        · cases hu
        · rename_i hn
          cases hu
          refine hrun _ hg ?_ (.int _ _)
          simp only [binOp, Op.shift]
          rw [if_neg hn]
          rfl
      · rename_i hop
        split at hu
        · rename_i hk
          subst hk
          unfold ibin at hu
          split at hu <;> first
            | (cases hu
               refine hrun _ hg ?_ (by first | exact .int _ _ | exact .bool _)
               simp [binOp, Op.intArith, Op.intCmp, Op.intBits])
            | (split at hu
               · cases hu
               · rename_i hb
                 cases hu
                 refine hrun _ hg ?_ (.int _ _)
                 simp [binOp, Op.intDiv, hb])
            | cases hu
        · cases hu
    · cases hu
  · cases hc

theorem op_beq (s : Sim G T w) (he : EnvR G w E a) {neg : Bool} {x y : Opd} {v : AV} {T' : Tab} (hc : chkOp P (.beq neg x y) o = true) (hs : stepOp call lo E T (.beq neg x y) = some (v, T')) : OpOK P o a w (Res lo G T w T' v) := by
  simp only [chkOp] at hc
  split at hc
  · rename_i op' t x' y' yt ho
    simp only [Bool.and_eq_true, decide_eq_true_eq] at hc
    obtain ⟨⟨⟨hop, hx⟩, hy⟩, ht⟩ := hc
    have rx := val_sound he hx
    have ry := val_sound he hy
    simp only [stepOp] at hs
    split at hs
    · rename_i b b' hb hb'
      simp only [Option.some.injEq, Prod.mk.injEq] at hs
      obtain ⟨rfl, rfl⟩ := hs
      rw [hb] at rx
      rw [hb'] at ry
      have htb : P.underlying t = some .bool := by
        split at ht
        · assumption
        · cases ht
      obtain ⟨d, hd⟩ := maxDepth_succ
      refine opOK_value (v := .bool (if neg then !(b == b') else b == b')) (w' := w) ?_ (res_same s (.bool _))
      generalize hcx : a.eval x' = cx at rx
      generalize hcy : a.eval y' = cy at ry
      cases rx
      cases ry
      cases neg
      · simp only [Bool.false_eq_true, if_false] at hop
        subst hop
        simp [execOp, ho, hcx, hcy, eqGuard, binOp, Op.equal, hd, Op.equalIn, run_underlying w htb]
      · simp only [if_true] at hop
        subst hop
        simp [execOp, ho, hcx, hcy, eqGuard, binOp, Op.equal, hd, Op.equalIn, run_underlying w htb]
    · cases hs
  · cases hc

theorem isNil_sound {v : AV} {c : Value} {b : Bool} (r : RV G w v c) (h : isNil v = some b) : ∃ A n cap, c = .slice A n cap ∧ A.isNone = b := by
  cases r with
  | fznil nl n hn => cases nl <;> simp [isNil] at h hn; subst h; exact ⟨none, 0, 0, rfl, rfl⟩
  | fz0 nl n a cap hn => cases nl <;> simp [isNil] at h hn; subst h; exact ⟨_, _, _, rfl, rfl⟩
  | fz nl n es b o cap cs hn =>
    refine ⟨_, _, _, rfl, ?_⟩
    cases nl
    · exact absurd rfl hn
    · simp only [isNil, Option.some.injEq] at h; subst h; rfl
    · simp only [isNil] at h
      split at h
      · cases h
      · simp only [Option.some.injEq] at h; subst h; rfl
  | slnil n t g off => simp [isNil] at h
  | slz mb n t g off a => simp [isNil] at h; exact ⟨_, _, _, rfl, by simp [h.2]⟩
  | sl mb n t g off len b base cap capT =>
    refine ⟨_, _, _, rfl, ?_⟩
    simp only [isNil] at h
    split at h
    · cases h; rfl
    · split at h
      · cases h
      · cases h; rfl
  | asl => simp only [isNil, Option.some.injEq] at h; subst h; exact ⟨_, _, _, rfl, rfl⟩
  | _ => simp [isNil] at h

theorem op_isn (s : Sim G T w) (he : EnvR G w E a) {x : Opd} {v : AV} {T' : Tab} (hc : chkOp P (.isn x) o = true) (hs : stepOp call lo E T (.isn x) = some (v, T')) : OpOK P o a w (Res lo G T w T' v) := by
  simp only [chkOp] at hc
  split at hc
  · rename_i t x' yt ho
    simp only [Bool.and_eq_true] at hc
    have rx := val_sound he hc.1
    simp only [stepOp, Option.map_eq_some_iff, Prod.mk.injEq] at hs
    obtain ⟨b, hb, rfl, rfl⟩ := hs
    obtain ⟨A, n, cap, hcv, hA⟩ := isNil_sound rx hb
    have ht : ∃ e, P.underlying t = some (.slice e) := by
      have h1 := hc.2
      unfold elemP at h1
      split at h1
      · exact ⟨_, ‹_›⟩
      · cases h1
    obtain ⟨e, ht⟩ := ht
    obtain ⟨d, hd⟩ := maxDepth_succ
    refine opOK_value (v := .bool b) (w' := w) ?_ (res_same s (.bool _))
    have hk : a.eval (.const (.slice none 0 0)) = .slice none 0 0 := rfl
    cases A with
    | none => simp at hA; subst hA; simp [execOp, ho, hcv, hk, eqGuard, binOp, Op.equal, hd, Op.equalIn, run_underlying w ht]
    | some A => simp at hA; subst hA; simp [execOp, ho, hcv, hk, eqGuard, binOp, Op.equal, hd, Op.equalIn, run_underlying w ht]
  · cases hc

/-! ### Addresses -/
theorem op_fld (s : Sim G T w) (he : EnvR G w E a) {off : Nat} {x : Opd} {v : AV} {T' : Tab} (hc : chkOp P (.fld off x) o = true) (hs : stepOp call lo E T (.fld off x) = some (v, T')) : OpOK P o a w (Res lo G T w T' v) := by
  simp only [chkOp] at hc
  split at hc
  · rename_i t y i ho
    simp only [Bool.and_eq_true] at hc
    have rx := val_sound he hc.2
    have hf := hc.1
    split at hf
    · rename_i o' ft hfp
      simp only [Bool.and_eq_true, beq_iff_eq] at hf
      obtain ⟨rfl, hsz⟩ := hf
      split at hsz
      · rename_i sz hsz'
        have hsz : sz ≠ 0 := of_decide_eq_true hsz
        unfold fieldP at hfp
        split at hfp
        · rename_i fs hfs
          simp only [Option.map_eq_some_iff, Prod.mk.injEq] at hfp
          obtain ⟨f, hfi, rfl, rfl⟩ := hfp
          have key : ∀ b k, a.eval y = .pointer (some ⟨b, k, none⟩) → RV G w v (.pointer (some ⟨b, k + f.offset, none⟩)) → T' = T → OpOK P o a w (Res lo G T w T' v) := by
            intro b k hy hv hT
            subst hT
            refine opOK_value (v := .pointer (some ⟨b, k + f.offset, none⟩)) (w' := w) ?_ (res_same s hv)
            simp [execOp, ho, hy, Instr.fieldAt, run_underlying w hfs, hfi, Instr.sureAddr, fieldPlace, run_sizeOf w hsz', hsz, addr_add]
          simp only [stepOp] at hs
          generalize hcy : a.eval y = cy at rx
          split at hs
          · rename_i t o hx
            simp only [Option.some.injEq, Prod.mk.injEq] at hs
            obtain ⟨rfl, rfl⟩ := hs
            rw [hx] at rx
            cases rx with
            | ptr _ _ b hb => exact key b o hcy (.ptr _ _ _ hb) rfl
          · rename_i sv i o hx
            simp only [Option.some.injEq, Prod.mk.injEq] at hs
            obtain ⟨rfl, rfl⟩ := hs
            rw [hx] at rx
            cases rx with
            | ep _ _ _ b o' len cap n h hn hi => exact key b _ hcy (by rw [Nat.add_assoc]; exact .ep _ _ _ _ _ _ _ _ h hn hi) rfl
          · cases hs
        · cases hfp
      · cases hsz
    · cases hf
  · cases hc

theorem slice_of_chk {t : TypeId} {n : Nat} (h : chkSlice P t n = true) : ∃ e, P.underlying t = some (.slice e) ∧ sizeP P e = some n := by
  unfold chkSlice at h
  split at h
  · rename_i e he
    unfold elemP at he
    split at he
    · cases he; exact ⟨e, ‹_›, by simpa using h⟩
    · cases he
  · cases h

theorem alen_sound {v : AV} {c : Value} {n : Nat} (r : RV G w v c) (h : alen v = some n) : ∃ A cap, c = .slice A n cap ∧ n ≤ cap := by
  cases r <;> simp [alen] at h <;> (try subst h) <;> exact ⟨_, _, rfl, by first | assumption | exact Nat.zero_le _⟩

theorem op_ixs (s : Sim G T w) (he : EnvR G w E a) {n : Nat} {x i : Opd} {v : AV} {T' : Tab} (hc : chkOp P (.ixs n x i) o = true) (hs : stepOp call lo E T (.ixs n x i) = some (v, T')) : OpOK P o a w (Res lo G T w T' v) := by
  simp only [chkOp] at hc
  split at hc
  · rename_i t y j ho
    simp only [Bool.and_eq_true] at hc
    obtain ⟨⟨hsl, hx⟩, hi⟩ := hc
    obtain ⟨e, hte, hsz⟩ := slice_of_chk hsl
    have rx := val_sound he hx
    have ri := val_sound he hi
    simp only [stepOp] at hs
    split at hs
    · rename_i m hm
      split at hs
      · rename_i len n' hlen hn'
        split at hs
        · rename_i hb
          obtain ⟨h0, h1, rfl⟩ := hb
          simp only [Option.some.injEq, Prod.mk.injEq] at hs
          obtain ⟨rfl, rfl⟩ := hs
          rw [hm] at ri
          obtain ⟨A, cap, hcx, hcap⟩ := alen_sound rx hlen
          have hlt : m.toNat < len := by omega
          have hA : ∃ b k, A = some ⟨b, k, none⟩ := by
            rw [hcx] at rx
            generalize val E x = vx at rx hlen
            cases rx with
            | fz nl n es b o cap cs => exact ⟨b, o, rfl⟩
            | sl mb n t g off len b base cap capT => exact ⟨b, _, rfl⟩
            | asl t off len b cap => exact ⟨b, off, rfl⟩
            | _ => first | omega | (simp [alen] at hlen; done) | (simp [alen] at hlen; omega)
          obtain ⟨b, k, rfl⟩ := hA
          refine opOK_value (v := .pointer (some ⟨b, k + m.toNat * n, none⟩)) (w' := w) ?_ (res_same s ?_)
          · generalize hcj : a.eval j = cj at ri
            cases ri
            have : 0 ≤ m ∧ m < (len : Int) := ⟨h0, h1⟩
            simp [execOp, ho, hcx, hcj, Instr.indexAt, asIntOf, run_underlying w hte, run_sizeOf w hsz, this, addr_add]
          · rw [hcx] at rx
            have := RV.ep (val E x) m.toNat 0 b k len cap n rx hn' hlt
            simpa using this
        · cases hs
      · cases hs
    · cases hs
  · cases hc

theorem arr_of_chk {t : TypeId} {n : Nat} {e : TypeId} (h : arrP P t = some (n, e)) : P.underlying t = some (.array n e) := by
  unfold arrP at h
  split at h
  · cases h; assumption
  · cases h

theorem op_ixa (s : Sim G T w) (he : EnvR G w E a) {len n : Nat} {x i : Opd} {v : AV} {T' : Tab} (hc : chkOp P (.ixa len n x i) o = true) (hs : stepOp call lo E T (.ixa len n x i) = some (v, T')) : OpOK P o a w (Res lo G T w T' v) := by
  simp only [chkOp] at hc
  split at hc
  · rename_i t y j ho
    simp only [Bool.and_eq_true] at hc
    obtain ⟨⟨har, hx⟩, hi⟩ := hc
    split at har
    · rename_i m' e hae
      simp only [Bool.and_eq_true, beq_iff_eq] at har
      obtain ⟨rfl, hsz⟩ := har
      have hte := arr_of_chk hae
      have rx := val_sound he hx
      have ri := val_sound he hi
      simp only [stepOp] at hs
      split at hs
      · rename_i m hm
        split at hs
        · rename_i hb
          rw [hm] at ri
          have key : ∀ b k, a.eval y = .pointer (some ⟨b, k, none⟩) → RV G w v (.pointer (some ⟨b, k + m.toNat * n, none⟩)) → T' = T → OpOK P o a w (Res lo G T w T' v) := by
            intro b k hy hv hT
            subst hT
            refine opOK_value (v := .pointer (some ⟨b, k + m.toNat * n, none⟩)) (w' := w) ?_ (res_same s hv)
            generalize hcj : a.eval j = cj at ri
            cases ri
            simp [execOp, ho, hy, hcj, Instr.indexAt, asIntOf, run_underlying w hte, run_sizeOf w hsz, hb, addr_add, Instr.sureAddr]
          generalize hcy : a.eval y = cy at rx
          split at hs
          · rename_i t o hx
            simp only [Option.some.injEq, Prod.mk.injEq] at hs
            obtain ⟨rfl, rfl⟩ := hs
            rw [hx] at rx
            cases rx with
            | ptr _ _ b hb => exact key b o hcy (.ptr _ _ _ hb) rfl
          · rename_i sv i o hx
            simp only [Option.some.injEq, Prod.mk.injEq] at hs
            obtain ⟨rfl, rfl⟩ := hs
            rw [hx] at rx
            cases rx with
            | ep _ _ _ b o' len cap n' h hn hi => exact key b _ hcy (by rw [Nat.add_assoc]; exact .ep _ _ _ _ _ _ _ _ h hn hi) rfl
          · cases hs
        · cases hs
      · cases hs
    · cases har
  · cases hc

theorem op_ixv (s : Sim G T w) (he : EnvR G w E a) {len n : Nat} {x i : Opd} {v : AV} {T' : Tab} (hc : chkOp P (.ixv len n x i) o = true) (hs : stepOp call lo E T (.ixv len n x i) = some (v, T')) : OpOK P o a w (Res lo G T w T' v) := by
  simp only [chkOp] at hc
  split at hc
  · rename_i t y j ho
    simp only [Bool.and_eq_true] at hc
    obtain ⟨⟨har, hx⟩, hi⟩ := hc
    split at har
    · rename_i m' e hae
      simp only [Bool.and_eq_true, beq_iff_eq] at har
      obtain ⟨⟨rfl, hsz⟩, hag⟩ := har
      have hte := arr_of_chk hae
      have rx := val_sound he hx
      have ri := val_sound he hi
      simp only [stepOp] at hs
      split at hs
      · rename_i m cs hm hcs
        split at hs
        · rename_i hb
          obtain ⟨h0, h1, rfl⟩ := hb
          simp only [Option.map_eq_some_iff, Prod.mk.injEq] at hs
          obtain ⟨u, hu, rfl, rfl⟩ := hs
          rw [hm] at ri
          rw [hcs] at rx
          generalize hcy : a.eval y = cy at rx
          cases rx with
          | agg _ cvs hsz' hr =>
            have hi' : m.toNat < cvs.size := by rw [hsz']; exact (List.getElem?_eq_some_iff.1 hu).1
            refine opOK_value (v := cvs[m.toNat]) (w' := w) ?_ (res_same s (hr _ _ _ hu (Array.getElem?_eq_getElem hi')))
            generalize hcj : a.eval j = cj at ri
            cases ri
            simp [execOp, ho, hcy, hcj, Instr.index, asIntOf, run_underlying w hte, run_sizeOf w hsz, h0, h1, part, run_isAgg w hag, hi']
        · cases hs
      · cases hs
    · cases har
  · cases hc
end
end Go.Proofs.Ytlilfiekkaolkaa.Am
